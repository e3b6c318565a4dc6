/-
  Contract of witness.Decode.
  Contracts of pergolaref01.SameAll, pergolaref21.Same.
  Contracts of pergolaref02.head, body, Bytes.
  Contract of pergolalaw21.alive.
  Contracts of pergolaref02.body, Bytes.
  Contract of pergolaref02.Bytes.
  Contract of pergolaref02.size.
-/
import Derived.Test.YtndkkgkcbbmnpaaQbAE
namespace Go.Pg
open Go.RowKit
/-- two cells written into a box -/
structure Box2 (W1 W : World) (b : Nat) (v0 v1 : Value) (t : TypeId) : Prop where
  at_ : W.heap[b]? = some (.cells #[v0, v1] t (0, 0))
  other : ∀ k, k ≠ b → W.heap[k]? = W1.heap[k]?
  size : W.heap.size = W1.heap.size
  chg : Chg (fun k => k = b) W1 W
theorem box2 {W1 : World} {b : Nat} {x0 x1 : Value} {t : TypeId} (hk : W1.heap[b]? = some (.cells #[x0, x1] t (0, 0))) (v0 v1 : Value) :
    Box2 W1 ((W1.setCell ⟨b, 0, none⟩ v0).setCell ⟨b, 1, none⟩ v1) b v0 v1 t :=
  ⟨heap_setCell_same _ _ _ _ _ _ (heap_setCell_same _ _ _ _ _ _ hk),
   fun k hk => by rw [Below.heap_setCell _ _ _ _ hk, Below.heap_setCell _ _ _ _ hk], by simp, ((Chg.refl (fun k => k = b) W1).atb _).atb _⟩
theorem Box2.alloc {W1 W : World} {b : Nat} {v0 v1 : Value} {t : TypeId} (h : Box2 W1 W b v0 v1 t) (o : Obj) : Box2 (W1.alloc o) (W.alloc o) b v0 v1 t := by
  have hlt := (Array.getElem?_eq_some_iff.1 h.at_).1
  refine ⟨by rw [Below.heap_alloc _ _ _ hlt]; exact h.at_, fun k hk => ?_, by simp [h.size], ⟨h.chg.os, h.chg.tape, h.chg.output, by simp [h.size], fun k hk hn => ?_⟩⟩
  all_goals
    show (W.heap.push o)[k]? = (W1.heap.push o)[k]?
    rw [Array.getElem?_push, Array.getElem?_push, h.size, h.other k (by assumption)]
theorem witDecode_pos (bs : List UInt8) (x i0 i1 : It) (h : rdWhole bs = (0, x)) (hl : x.isList = true) (hi : x.items = [i0, i1]) :
    witDecode bs = if readOk i0 = true ∧ readOk i1 = true then (i0.items.map It.bytes, i1.items.map It.bytes, 0) else ([], [], 210) := by
  unfold witDecode part
  rw [h, hi]
  simp [hl]
theorem witDecode_no (bs : List UInt8) (e : Nat) (x : It) (h : rdWhole bs = (e, x)) (hn : e ≠ 0 ∨ x.isList = false ∨ x.items.length ≠ 2) : witDecode bs = ([], [], 210) := by
  unfold witDecode
  rw [h, if_neg]
  rintro ⟨h1, h2, h3, -, -⟩
  rcases hn with hn | hn | hn
  · exact hn h1
  · simp only at h2; rw [hn] at h2; cases h2
  · exact hn h3
end Go.Pg
namespace Go.Proofs.Ytndkkgkcbbmnpaa
open Go.RowKit Go.Pg

/-- a witness, or an empty one and a fault -/
def WDecd (F : World → Nat → Prop) (w : World) (r : List (List UInt8) × List (List UInt8) × Nat) (e : Ending) (w' : World) : Prop :=
  ∃ a1 n1 c1 a2 n2 c2, e = .returned (.tuple #[.agg #[.slice a1 n1 c1, .slice a2 n2 c2], .int .i64 r.2.2]) ∧ RowsAt (F w) w' (.slice a1 n1 c1) r.1 ∧ RowsAt (F w) w' (.slice a2 n2 c2) r.2.1 ∧ Below w.heap.size w w'

theorem WDecd.bad {w W1 W : World} {o : Obj} (h1 : Below w.heap.size w W1) (hb : Box2 W1 W w.heap.size (.slice none 0 0) (.slice none 0 0) 24) :
    WDecd fresh w ([], [], 210) (.returned (.tuple #[.agg #[.slice none 0 0, .slice none 0 0], .int .i64 ((210 : Nat) : Int)])) (W.alloc o) :=
  ⟨none, 0, 0, none, 0, 0, rfl, SliceAt.nil _ _ _ _, SliceAt.nil _ _ _ _, (h1.trans (hb.chg.toBelowAt h1.size (fun k hk e => by omega))).alloc (by rw [hb.size]; exact h1.size) _⟩

set_option maxRecDepth 100000 in
set_option maxHeartbeats 4000000 in
theorem wdecode_any (F0 : Nat → Prop) (w : World) (a : Option Addr) (n c : Nat) (bs : List UInt8) (h0 : BytesAt F0 w (.slice a n c) bs) (hn : n ≤ 140737488351232) :
    Calls Try.prog 16 #[.slice a n c] w (WDecd fresh w (witDecode bs)) := by
  have hnl : n = bs.length := by
    obtain ⟨a', c', hv, h1, -⟩ := h0
    simp only [Value.slice.injEq] at hv
    exact hv.2.1
  obtain ⟨e1, x, hr⟩ : ∃ e1 x, rdWhole bs = (e1, x) := ⟨(rdWhole bs).1, (rdWhole bs).2, rfl⟩
  have hcall := decode_any F0 (w.alloc (.cells #[.slice none 0 0, .slice none 0 0] 24)) a n c bs (BytesAt.below h0 (Bel.alloc (Bel.refl w) _)) (by omega)
  rw [hr] at hcall
  have HC := Lib.hid hcall
  have HR := Lib.hid hr
  have HNL := Lib.hid hnl
  clear h0 hnl hr hcall
  go_enter Try.func16, Try.ntmps16
  go_wp2_with fail
  refine HC.out.mono ?_
  rintro e5 w5 ⟨il, i1, y1, z1, i3, y3, z3, rfl, k1, k2⟩
  have hsz := k2.size
  simp only [World.size_alloc] at hsz
  have h0 : w.heap.size < w5.heap.size := by omega
  have hb5 := (k2.block w.heap.size (by simp)).trans (heap_alloc_new w _)
  have hbel := (Bel.alloc (Bel.refl w) (.cells #[.slice none 0 0, .slice none 0 0] 24)).trans (k2.mono (by simp))
  have HB5 := Lib.hid hb5
  have HBL := Lib.hid hbel
  obtain ⟨hil, a1', n1', c1', a2', n2', c2', e1', e2', -, hn3⟩ := ItemAt.form k1
  simp only [Value.slice.injEq] at e1' e2'
  obtain ⟨rfl, rfl, rfl⟩ := e1'
  obtain ⟨rfl, rfl, rfl⟩ := e2'
  obtain ⟨q0, q1⟩ := cells2 hb5
  have f0 := frozen_of_row w5 w.heap.size 0 _ _ hb5
  have f1 := frozen_of_row w5 w.heap.size 1 _ _ hb5
  have K1 := Lib.hid k1
  have HIL := Lib.hid hil
  have HN3 := Lib.hid hn3
  clear hb5 k1 k2 hsz hbel hil hn3
  by_cases hgood : e1 = 0 ∧ il = true ∧ y3 = 2
  · obtain ⟨rfl, rfl, rfl⟩ := hgood
    obtain ⟨hb, hfit⟩ := rdWhole_sound bs x HR.out
    have hbl : x.whole = n := by rw [← It.enc_length, ← hb]; exact HNL.out.symm
    obtain ⟨i0, i1x, hi⟩ : ∃ i0 i1x, x.items = [i0, i1x] := by
      have := HN3.out
      match x.items, this with
      | [i0, i1x], _ => exact ⟨i0, i1x, rfl⟩
    have hits := ItemAt.items K1.out
    rw [hi] at hits
    have hl0 : i0.items.length ≤ 1099511627776 ∧ i1x.items.length ≤ 1099511627776 := by
      have h1 := fits_body hfit
      have h2 : x.body = It.wholes x.items + x.bytes.length := by rw [It.body_eq]; omega
      rw [hi] at h2
      simp only [It.wholes] at h2
      have h3 := It.body_le_whole i0
      have h4 := It.body_le_whole i1x
      have h5 := It.length_le_wholes i0.items
      have h6 := It.length_le_wholes i1x.items
      have h7 := It.body_eq i0
      have h8 := It.body_eq i1x
      omega
    have hwd := witDecode_pos bs x i0 i1x HR.out HIL.out.symm hi
    have HWD := Lib.hid hwd
    have HI := Lib.hid hi
    have HL0 := Lib.hid hl0
    rcases SliceAt.split hits with ⟨hh, _⟩ | ⟨b, o, rfl, -, -, hfb⟩
    · cases hh
    obtain ⟨A1, N1, C1, A2, N2, C2, g0, g1, g2, git⟩ := ItemsAt.cell hits 0 (by simp)
    obtain ⟨A3, N3, C3, A4, N4, C4, g3, g4, g5, git'⟩ := ItemsAt.cell hits 1 (by simp)
    simp only [Nat.zero_mul, Nat.one_mul, Nat.add_zero, List.getElem_cons_zero, List.getElem_cons_succ] at g0 g1 g2 g3 g4 g5 git git'
    have hblt := cell_lt g0
    have hbne : b ≠ w.heap.size := by
      have h9 : (w.alloc (.cells #[.slice none 0 0, .slice none 0 0] 24)).heap.size ≤ b := hfb
      simp only [World.size_alloc] at h9; omega
    obtain ⟨L0, hL0⟩ : ∃ L, L = i0.isList := ⟨_, rfl⟩
    obtain ⟨L1, hL1⟩ : ∃ L, L = i1x.isList := ⟨_, rfl⟩
    rw [← hL0] at g0 git
    rw [← hL1] at g3 git'
    have GIT := Lib.hid git
    have GIT' := Lib.hid git'
    clear hb hfit hbl hits hl0 hwd hi git git' hL0 hL1 hfb
    obtain ⟨W1, hW1⟩ : ∃ W, W = w5.alloc (.cells #[.bool true, .slice i1 y1 z1, .slice (some ⟨b, o, none⟩) 2 z3] 65) := ⟨_, rfl⟩
    have hbw1 : Below w5.heap.size w5 W1 := by rw [hW1]; exact Bel.alloc (Bel.refl w5) _
    have hx1 : W1.heap[w5.heap.size]? = some (.cells #[.bool true, .slice i1 y1 z1, .slice (some ⟨b, o, none⟩) 2 z3] 65 (0, 0)) := by rw [hW1]; exact heap_alloc_new w5 _
    have hs1 : W1.heap.size = w5.heap.size + 1 := by rw [hW1]; simp
    have HW1 := Lib.hid hW1
    have HBW1 := Lib.hid hbw1
    have HX1 := Lib.hid hx1
    have HS1 := Lib.hid hs1
    clear hW1 hbw1 hx1 hs1
    go_wp2_with fail
    rw [← HW1.out]
    refine (read_any _ W1 7 i0 L0 A1 A2 N1 C1 N2 C2 (ItemAt.below GIT.out HBW1.out) HL0.out.1).mono ?_
    rintro e w2 ⟨v1, rfl, m1, m2⟩
    have hb02 : Below w5.heap.size w5 w2 := HBW1.out.trans (m2.mono HBW1.out.size)
    have p2 := cell_below hb02 g3
    have p3 := cell_below hb02 g4
    have p4 := cell_below hb02 g5
    have hx2 := (m2.block w5.heap.size (by rw [HS1.out]; omega)).trans HX1.out
    obtain ⟨r0, r1, r2⟩ := cells3 hx2
    have HB02 := Lib.hid hb02
    have M1 := Lib.hid m1
    have GIT2 := Lib.hid (ItemAt.below GIT'.out hb02)
    clear m1 m2 hb02 hx2 g0 g1 g2 g3 g4 g5 q0 q1 f0 f1
    go_wp2_with fail
    refine (read_any _ w2 7 i1x L1 A3 A4 N3 C3 N4 C4 GIT2.out HL0.out.2).mono ?_
    rintro e w3 ⟨v2, rfl, m3, m4⟩
    have hb03 : Below w5.heap.size w5 w3 := HB02.out.trans (m4.mono HB02.out.size)
    have hb3 := (hb03.block w.heap.size h0).trans HB5.out
    obtain ⟨q0, q1⟩ := cells2 hb3
    have f0 := frozen_of_row w3 w.heap.size 0 _ _ hb3
    have f1 := frozen_of_row w3 w.heap.size 1 _ _ hb3
    have hlt3 : w.heap.size < w3.heap.size := Nat.lt_of_lt_of_le h0 hb03.size
    have HB3 := Lib.hid hb3
    have HB03 := Lib.hid (HBL.out.trans (hb03.mono (Nat.le_of_lt h0)))
    have M3 := Lib.hid m3
    have HB34 := Lib.hid m4
    clear m3 m4 hb03 hb3 r0 r1 r2 p2 p3 p4
    obtain ⟨s0, hs0⟩ : ∃ s, s = readOk i0 := ⟨_, rfl⟩
    obtain ⟨s1, hs1⟩ : ∃ s, s = readOk i1x := ⟨_, rfl⟩
    rw [← hs0] at M1 HWD ⊢
    rw [← hs1] at M3 HWD ⊢
    have HS0 := Lib.hid hs0
    have HS1 := Lib.hid hs1
    clear hs0 hs1
    by_cases hok : s0 = true ∧ s1 = true
    · obtain ⟨rfl, rfl⟩ := hok
      obtain ⟨w1a, w1c, hv1, -, -, -⟩ := SliceAt.len (M1.out rfl)
      obtain ⟨w2a, w2c, hv2, -, -, -⟩ := SliceAt.len (M3.out rfl)
      have M1' := M1.out rfl
      have M3' := M3.out rfl
      obtain ⟨P, hP⟩ : ∃ P, P = i0.items.map It.bytes := ⟨_, rfl⟩
      obtain ⟨Q, hQ⟩ : ∃ P, P = i1x.items.map It.bytes := ⟨_, rfl⟩
      rw [← hP] at hv1 M1'
      rw [← hQ] at hv2 M3'
      have hfin : witDecode bs = (P, Q, 0) := by rw [HWD.out, if_pos ⟨rfl, rfl⟩, hP, hQ]
      have HF := Lib.hid hfin
      subst hv1 hv2
      have N1' := Lib.hid M1'
      have N3' := Lib.hid M3'
      clear hfin hP hQ M1' M3' M1 M3
      go_wp2_with fail
      have hbx := box2 HB3.out (.slice w1a P.length w1c) (.slice w2a Q.length w2c)
      obtain ⟨W, hW⟩ : ∃ W, W = (w3.setCell ⟨w.heap.size, 0, none⟩ (.slice w1a P.length w1c)).setCell ⟨w.heap.size, 1, none⟩ (.slice w2a Q.length w2c) := ⟨_, rfl⟩
      rw [← hW] at hbx ⊢
      obtain ⟨r0, r1⟩ := cells2 hbx.at_
      refine bodyPost_ret (v := .tuple #[.agg #[.slice w1a P.length w1c, .slice w2a Q.length w2c], .int .i64 ((0 : Nat) : Int)]) (by simp [results, Try.results16, go_sem, r0, r1]) rfl ?_
      rw [HF.out]
      have hfar : ∀ b, w.heap.size < b → W.heap[b]? = w3.heap[b]? := fun b hb => hbx.other b (by omega)
      have hs02 := HB02.out.size
      refine ⟨w1a, P.length, w1c, w2a, Q.length, w2c, rfl, ?_, ?_, HB03.out.trans (hbx.chg.toBelowAt (by omega) (fun k hk e => by omega))⟩
      · refine RowsAt.carry (RowsAt.below N1'.out HB34.out) (fun b _ hb => ?_) (fun b hb _ => hfar b ?_)
        all_goals
          rcases hb with hb | hb
          · have h9 : (w.alloc (.cells #[.slice none 0 0, .slice none 0 0] 24)).heap.size ≤ b := hb
            simp only [World.size_alloc] at h9
            first | (show w.heap.size ≤ b; omega) | omega
          · have h9 := HBW1.out.size
            first | (show w.heap.size ≤ b; omega) | omega
      · refine RowsAt.carry N3'.out (fun b _ hb => ?_) (fun b hb _ => hfar b ?_)
        all_goals
          rcases hb with hb | hb
          · have h9 : (w.alloc (.cells #[.slice none 0 0, .slice none 0 0] 24)).heap.size ≤ b := hb
            simp only [World.size_alloc] at h9
            first | (show w.heap.size ≤ b; omega) | omega
          · first | (show w.heap.size ≤ b; omega) | omega
    · have hfin : witDecode bs = ([], [], 210) := by rw [HWD.out, if_neg hok]
      have HF := Lib.hid hfin
      have hcase : s0 = false ∨ (s0 = true ∧ s1 = false) := by
        cases s0
        · exact .inl rfl
        · cases s1
          · exact .inr ⟨rfl, rfl⟩
          · exact absurd ⟨rfl, rfl⟩ hok
      clear hfin hok M1 M3 HWD
      rcases hcase with rfl | ⟨rfl, rfl⟩
      all_goals
        go_wp2_with fail
        have hbx := box2 HB3.out (.slice none 0 0) (.slice none 0 0)
        obtain ⟨W, hW⟩ : ∃ W, W = (w3.setCell ⟨w.heap.size, 0, none⟩ (.slice none 0 0)).setCell ⟨w.heap.size, 1, none⟩ (.slice none 0 0) := ⟨_, rfl⟩
        rw [← hW] at hbx ⊢
        obtain ⟨r0, r1⟩ := cells2 hbx.at_
        refine bodyPost_ret (v := .tuple #[.agg #[.slice none 0 0, .slice none 0 0], .int .i64 ((210 : Nat) : Int)]) (by simp [results, Try.results16, go_sem, r0, r1]) rfl ?_
        rw [HF.out]
        exact ⟨none, 0, 0, none, 0, 0, rfl, SliceAt.nil _ _ _ _, SliceAt.nil _ _ _ _, HB03.out.trans (hbx.chg.toBelowAt (by omega) (fun k hk e => by omega))⟩
  · have hfin : witDecode bs = ([], [], 210) := by
      refine witDecode_no bs e1 x HR.out ?_
      by_cases he : e1 = 0
      · by_cases hl : il = true
        · by_cases hy : y3 = 2
          · exact absurd ⟨he, hl, hy⟩ hgood
          · exact .inr (.inr (by rw [← HN3.out]; exact hy))
        · exact .inr (.inl (by rw [← HIL.out]; simpa using hl))
      · exact .inl he
    have HF := Lib.hid hfin
    have hcase : (((e1 : Nat) : Int) != 0) = true ∨ (e1 = 0 ∧ il = false) ∨ (e1 = 0 ∧ il = true ∧ (((y3 : Nat) : Int) != 2) = true) := by
      by_cases he : e1 = 0
      · by_cases hl : il = true
        · by_cases hy : y3 = 2
          · exact absurd ⟨he, hl, hy⟩ hgood
          · exact .inr (.inr ⟨he, hl, by simp; omega⟩)
        · exact .inr (.inl ⟨he, by simpa using hl⟩)
      · exact .inl (by simp; omega)
    clear hfin hgood
    rcases hcase with h | ⟨rfl, rfl⟩ | ⟨rfl, rfl, h⟩
    all_goals
      go_wp2_with fail
      have hbx := box2 HB5.out (.slice none 0 0) (.slice none 0 0)
      obtain ⟨W, hW⟩ : ∃ W, W = (w5.setCell ⟨w.heap.size, 0, none⟩ (.slice none 0 0)).setCell ⟨w.heap.size, 1, none⟩ (.slice none 0 0) := ⟨_, rfl⟩
      rw [← hW] at hbx ⊢
      obtain ⟨r0, r1⟩ := cells2 hbx.at_
      have hlw : w.heap.size < W.heap.size := by rw [hbx.size]; exact h0
      refine bodyPost_ret (v := .tuple #[.agg #[.slice none 0 0, .slice none 0 0], .int .i64 ((210 : Nat) : Int)]) (by simp [results, Try.results16, go_sem, r0, r1, hlw]) rfl ?_
      rw [HF.out]
      exact WDecd.bad HBL.out hbx
end Go.Proofs.Ytndkkgkcbbmnpaa
namespace Go.Proofs.Ytndkkgkcbbmnpaa
open Go.RowKit Go.Pg

theorem bytes_ne (x y : List UInt8) (h : x ≠ y) : (⟨x.toArray⟩ : ByteArray) ≠ ⟨y.toArray⟩ := fun e => h (by
  have := congrArg ByteArray.data e
  simpa using this)

set_option maxRecDepth 100000 in
set_option maxHeartbeats 1000000 in
theorem sameAll_any (F G : Nat → Prop) (w : World) (u v : Value) (A B : List (List UInt8)) (h : RowsAt F w u A) (k : RowsAt G w v B) (hl : A.length ≤ 1152921504606846976) :
    Calls Try.prog 35 #[u, v] w fun e w' => e = .returned (.bool (decide (A = B))) ∧ ∃ m, w' = w.drewN m := by
  obtain ⟨a, c, rfl, -, -, -⟩ := SliceAt.len h
  obtain ⟨a', c', rfl, -, -, -⟩ := SliceAt.len k
  obtain ⟨n, hn⟩ : ∃ n, n = A.length := ⟨_, rfl⟩
  obtain ⟨n', hn'⟩ : ∃ n, n = B.length := ⟨_, rfl⟩
  rw [← hn] at h hl ⊢
  rw [← hn'] at k ⊢
  have HN := Lib.hid hn
  have HN' := Lib.hid hn'
  clear hn hn'
  by_cases hnn : n = n'
  · subst hnn
    have hb : ((n : Int) != (n : Int)) = false := by simp
    go_enter Try.func35, Try.ntmps35
    go_wp2
    clear hb
    go_loopw [5] (fun i wr => ∃ j : Nat, j ≤ n ∧ i = .int .i64 j ∧ Hid (A.take j = B.take j) ∧ Hid (∃ m, wr = w.drewN m)) (fun i _ => n - (intOf i).toNat)
    case atStart => exact ⟨0, Nat.zero_le _, rfl, rfl, 0, rfl⟩
    case round =>
      obtain ⟨j, hj, rfl, HT, HM⟩ := hrel
      have hwr : RowsAt F wr (.slice a n c) A ∧ RowsAt G wr (.slice a' n c') B := by
        obtain ⟨m, hm⟩ := HM.out
        rw [hm]; exact ⟨RowsAt.carry h (fun _ _ x => x) (fun _ _ _ => rfl), RowsAt.carry k (fun _ _ x => x) (fun _ _ _ => rfl)⟩
      have hN := HN.out
      have hN' := HN'.out
      by_cases hlt : j < n
      · rcases SliceAt.split hwr.1 with ⟨_, h0⟩ | ⟨b, o, rfl, -, -, -⟩
        · omega
        rcases SliceAt.split hwr.2 with ⟨_, h0⟩ | ⟨b', o', rfl, -, -, -⟩
        · omega
        obtain ⟨u1, c1, t1⟩ := RowsAt.cell hwr.1 j (by omega)
        obtain ⟨u2, c2, t2⟩ := RowsAt.cell hwr.2 j (by omega)
        have hst : A.take (j + 1) = A.take j ++ [A[j]'(by omega)] ∧ B.take (j + 1) = B.take j ++ [B[j]'(by omega)] := ⟨List.take_succ_eq_append_getElem (by omega), List.take_succ_eq_append_getElem (by omega)⟩
        have hne : A[j]'(by omega) ≠ B[j]'(by omega) → A ≠ B := fun h e => h (by simp [e])
        obtain ⟨x1, hx1⟩ : ∃ x, x = A[j]'(by omega) := ⟨_, rfl⟩
        obtain ⟨x2, hx2⟩ : ∃ x, x = B[j]'(by omega) := ⟨_, rfl⟩
        rw [← hx1, ← hx2] at hst hne
        rw [← hx1] at t1
        rw [← hx2] at t2
        obtain ⟨d1, e1, rfl, -, -, -⟩ := SliceAt.len t1
        obtain ⟨d2, e2, rfl, -, -, -⟩ := SliceAt.len t2
        have s1 := fun nq => run_string_at (P := Try.prog) (BytesAt.draws t1 nq) 25 5 9 Try.underlying25 Try.underlying5 Try.underlying9
        have s2 := fun nq => run_string_at (P := Try.prog) (BytesAt.draws t2 nq) 25 5 9 Try.underlying25 Try.underlying5 Try.underlying9
        have HST := Lib.hid hst
        have HNE := Lib.hid hne
        have hjn : (j : Int) < (n : Int) := by omega
        clear hst hne hx1 hx2 hwr hN hN' t1 t2
        by_cases hxy : x1 = x2
        · subst hxy
          go_wp2
          go_quiet (fail)
          go_wp2
          go_roundw
          case rel => exact ⟨j + 1, by omega, num_eq (by omega), (by show _ = _; rw [HST.out.1, HST.out.2, HT.out]), (by obtain ⟨m, hm⟩ := HM.out; rw [hm]; exact ⟨_, World.drewN_drewN _ _ _⟩)⟩
          case measure => simp [intOf]; omega
        · have hb1 : (x1 == x2) = false := by simp [hxy]
          have hd : decide (A = B) = false := by simp [HNE.out hxy]
          have HD := Lib.hid hd
          clear hxy hd
          go_wp2
          go_quiet (fail)
          go_wp2
          go_ret
          exact ⟨ret_bool HD.out.symm, (by obtain ⟨m, hm⟩ := HM.out; rw [hm]; exact ⟨_, World.drewN_drewN _ _ _⟩)⟩
      · obtain rfl : j = n := by omega
        go_wp2
        go_ret
        refine ⟨ret_bool ?_, HM.out⟩
        have := HT.out
        rw [List.take_of_length_le (by omega), List.take_of_length_le (by omega)] at this
        simp [this]
  · have hb : ((n : Int) != (n' : Int)) = true := by simp; omega
    have hne : A ≠ B := fun e => hnn (by rw [HN.out, HN'.out, e])
    have hd : decide (A = B) = false := by simp [hne]
    rw [hd]
    clear hnn hne hd
    go_enter Try.func35, Try.ntmps35
    go_wp2
    go_ret
    exact ⟨rfl, 0, rfl⟩

set_option maxRecDepth 100000 in
set_option maxHeartbeats 400000 in
theorem same_any (F G : Nat → Prop) (w : World) (a1 a2 a3 a4 : Option Addr) (n1 c1 n2 c2 n3 c3 n4 c4 : Nat) (N C N' C' : List (List UInt8)) (h1 : RowsAt F w (.slice a1 n1 c1) N) (h2 : RowsAt F w (.slice a2 n2 c2) C)
    (h3 : RowsAt G w (.slice a3 n3 c3) N') (h4 : RowsAt G w (.slice a4 n4 c4) C') (hl1 : N.length ≤ 1152921504606846976) (hl2 : C.length ≤ 1152921504606846976) :
    Calls Try.prog 18 #[.agg #[.slice a1 n1 c1, .slice a2 n2 c2], .agg #[.slice a3 n3 c3, .slice a4 n4 c4]] w fun e w' => e = .returned (.bool (decide (N = N' ∧ C = C'))) ∧ Below w.heap.size w w' := by
  have hb0 : Below w.heap.size w ((w.alloc (.cells #[.slice a1 n1 c1, .slice a2 n2 c2] 24)).alloc (.cells #[.slice a3 n3 c3, .slice a4 n4 c4] 24)) := Bel.alloc (Bel.alloc (Bel.refl w) _) _
  have g1 := RowsAt.below h1 hb0
  have g2 := RowsAt.below h2 hb0
  have g3 := RowsAt.below h3 hb0
  have g4 := RowsAt.below h4 hb0
  obtain ⟨b1, hd1⟩ : ∃ b, b = decide (N = N') := ⟨_, rfl⟩
  obtain ⟨b2, hd2⟩ : ∃ b, b = decide (C = C') := ⟨_, rfl⟩
  have hfin : decide (N = N' ∧ C = C') = (b1 && b2) := by rw [hd1, hd2]; simp
  rw [hfin]
  have HB0 := Lib.hid hb0
  have HD1 := Lib.hid hd1
  have HD2 := Lib.hid hd2
  clear h1 h2 h3 h4 hb0 hfin hd1 hd2
  go_enter Try.func18, Try.ntmps18
  go_wp2_with fail
  refine (sameAll_any F G _ _ _ N N' g1 g3 hl1).mono ?_
  rintro e w1 ⟨rfl, m, rfl⟩
  rw [← HD1.out]
  have g2' : RowsAt F (((w.alloc (.cells #[.slice a1 n1 c1, .slice a2 n2 c2] 24)).alloc (.cells #[.slice a3 n3 c3, .slice a4 n4 c4] 24)).drewN m) _ C := RowsAt.carry g2 (fun _ _ x => x) (fun _ _ _ => rfl)
  have g4' : RowsAt G (((w.alloc (.cells #[.slice a1 n1 c1, .slice a2 n2 c2] 24)).alloc (.cells #[.slice a3 n3 c3, .slice a4 n4 c4] 24)).drewN m) _ C' := RowsAt.carry g4 (fun _ _ x => x) (fun _ _ _ => rfl)
  clear g1 g2 g3 g4
  go_wp2_with fail
  refine (sameAll_any F G _ _ _ C C' g2' g4' hl2).mono ?_
  rintro e w1 ⟨rfl, m', rfl⟩
  rw [← HD2.out]
  clear g2' g4'
  cases b1
  all_goals
    go_wp2_with fail
    go_ret
    exact ⟨rfl, ⟨HB0.out.os, HB0.out.tape, HB0.out.output, HB0.out.size, HB0.out.block⟩⟩
end Go.Proofs.Ytndkkgkcbbmnpaa
namespace Go.Pg
open Go.RowKit
/-- bytes that have just been laid -/
theorem OwnAt.lit (w : World) (e : TypeId) (cs : Array Value) (bs : List UInt8) (h : cs.toList = bs.map fun x => .int .u8 (x.toNat : Int)) (hl : bs.length ≤ maxLen) :
    OwnAt (w.alloc (.cells cs e)) w.heap.size e 1 byteR (.slice (some ⟨w.heap.size, 0, none⟩) bs.length bs.length) bs := by
  refine ⟨cs.toList, World.ownsRow_lit w cs bs.length (Nat.le_refl _) hl (by rw [← Array.length_toList, h]; simp), by rw [h]; simp, fun i x hx => ?_⟩
  refine ⟨[.int .u8 (x.toNat : Int)], rfl, rfl, fun j u hu => ?_⟩
  match j, hu with
  | 0, hu =>
    simp at hu; subst hu
    rw [h]; simp [hx]
theorem toNat_ofNat_lt (n : Nat) (h : n < 256) : (((UInt8.ofNat n).toNat : Nat) : Int) = (n : Int) := by
  rw [UInt8.toNat_ofNat', Nat.mod_eq_of_lt (by omega)]
theorem headB_1 (base n : Nat) (h : n ≤ 55) : headB base n = [UInt8.ofNat (base + n)] := by unfold headB; rw [if_pos h]
theorem number_1 (n : Nat) (h0 : 0 < n) (h : n < 256) : number n = 1 := by
  rw [number_pos h0, show n / 256 = 0 by omega, number_zero]
theorem number_2 (n : Nat) (h0 : 256 ≤ n) (h : n < 65536) : number n = 2 := by
  rw [number_pos (by omega), number_1 _ (by omega) (by omega)]
theorem number_3 (n : Nat) (h0 : 65536 ≤ n) (h : n < 16777216) : number n = 3 := by
  rw [number_pos (by omega), number_2 _ (by omega) (by omega)]
theorem headB_2 (base n : Nat) (h0 : 55 < n) (h : n < 256) : headB base n = [UInt8.ofNat (base + 56), UInt8.ofNat n] := by
  unfold headB; rw [if_neg (by omega), number_1 n (by omega) h]
  simp only [beBytes, List.nil_append]
  rw [show n % 256 = n by omega]
theorem headB_3 (base n : Nat) (h0 : 256 ≤ n) (h : n < 65536) : headB base n = [UInt8.ofNat (base + 57), UInt8.ofNat (n / 256), UInt8.ofNat (n % 256)] := by
  unfold headB; rw [if_neg (by omega), number_2 n (by omega) h]
  simp only [beBytes, List.nil_append, List.cons_append]
  rw [show n / 256 % 256 = n / 256 by omega]
theorem headB_4 (base n : Nat) (h0 : 65536 ≤ n) (h : n < 16777216) : headB base n = [UInt8.ofNat (base + 58), UInt8.ofNat (n / 65536), UInt8.ofNat (n / 256 % 256), UInt8.ofNat (n % 256)] := by
  unfold headB; rw [if_neg (by omega), number_3 n (by omega) h]
  simp only [beBytes, List.nil_append, List.cons_append]
  rw [show n / 256 / 256 = n / 65536 by omega, show n / 65536 % 256 = n / 65536 by omega]
end Go.Pg
namespace Go.Proofs.Ytndkkgkcbbmnpaa
open Go.RowKit Go.Pg

set_option maxRecDepth 100000 in
set_option maxHeartbeats 1000000 in
theorem head_any (base n : Nat) (w : World) (hb : base ≤ 192) (hn : n < 16777216) :
    Calls Try.prog 93 #[.int .i64 base, .int .i64 n] w (Fresh w 5 1 byteR (headB base n)) := by
  by_cases h1 : n ≤ 55
  · have e := headB_1 base n h1
    rw [e]
    go_enter Try.func93, Try.ntmps93
    go_wp2
    go_ret
    exact ⟨_, rfl, OwnAt.lit w _ _ [UInt8.ofNat (base + n)] (by simp only [List.map_cons, List.map_nil]; rw [toNat_ofNat_lt _ (by omega)]; rfl) (show 1 ≤ maxLen by decide), Bel.alloc (Bel.refl w) _⟩
  · by_cases h2 : n < 256
    · have e := headB_2 base n (by omega) h2
      rw [e]
      go_enter Try.func93, Try.ntmps93
      go_wp2
      go_ret
      exact ⟨_, rfl, OwnAt.lit w _ _ [UInt8.ofNat (base + 56), UInt8.ofNat n] (by simp only [List.map_cons, List.map_nil]; rw [toNat_ofNat_lt _ (by omega), toNat_ofNat_lt _ (by omega)]; rfl) (show 2 ≤ maxLen by decide), Bel.alloc (Bel.refl w) _⟩
    · by_cases h3 : n < 65536
      · have e := headB_3 base n (by omega) h3
        have HE := Lib.hid e
        have H2 := Lib.hid h2
        have H3 := Lib.hid h3
        have HN := Lib.hid hn
        have z1 : ¬ (n : Int) ≤ 55 := by omega
        have z2 : ¬ (n : Int) < 256 := by omega
        have z3 : (0 : Int) ≤ n := by omega
        have z4 : (n : Int) < 65536 := by omega
        clear h1 h2 h3 hn e
        go_enter Try.func93, Try.ntmps93
        go_wp2
        go_ret
        have h2 := H2.out
        have h3 := H3.out
        have hn := HN.out
        have hq := OwnAt.lit w 5 #[.int .u8 ((base : Int) + 57), .int .u8 ((n : Int) / 256), .int .u8 ((n : Int) % 256)] [UInt8.ofNat (base + 57), UInt8.ofNat (n / 256), UInt8.ofNat (n % 256)] (by simp only [List.map_cons, List.map_nil]; rw [toNat_ofNat_lt _ (by omega), toNat_ofNat_lt _ (by omega), toNat_ofNat_lt _ (by omega)]; rfl) (show 3 ≤ maxLen by decide)
        rw [HE.out]
        exact ⟨.slice (some ⟨w.heap.size, 0, none⟩) 3 3, rfl, hq, Bel.alloc (Bel.refl w) _⟩
      · have e := headB_4 base n (by omega) hn
        have HE := Lib.hid e
        have H2 := Lib.hid h2
        have H3 := Lib.hid h3
        have HN := Lib.hid hn
        have z1 : ¬ (n : Int) ≤ 55 := by omega
        have z2 : ¬ (n : Int) < 256 := by omega
        have z3 : ¬ (n : Int) < 65536 := by omega
        have z4 : (n : Int) < 16777216 := by omega
        clear h1 h2 h3 hn e
        go_enter Try.func93, Try.ntmps93
        go_wp2
        go_ret
        have h2 := H2.out
        have h3 := H3.out
        have hn := HN.out
        have hq := OwnAt.lit w 5 #[.int .u8 ((base : Int) + 58), .int .u8 ((n : Int) / 65536), .int .u8 ((n : Int) / 256 % 256), .int .u8 ((n : Int) % 256)] [UInt8.ofNat (base + 58), UInt8.ofNat (n / 65536), UInt8.ofNat (n / 256 % 256), UInt8.ofNat (n % 256)] (by simp only [List.map_cons, List.map_nil]; rw [toNat_ofNat_lt _ (by omega), toNat_ofNat_lt _ (by omega), toNat_ofNat_lt _ (by omega), toNat_ofNat_lt _ (by omega)]; rfl) (show 4 ≤ maxLen by decide)
        rw [HE.out]
        exact ⟨.slice (some ⟨w.heap.size, 0, none⟩) 4 4, rfl, hq, Bel.alloc (Bel.refl w) _⟩

end Go.Proofs.Ytndkkgkcbbmnpaa
namespace Go.Pg
theorem witEncode_nil : witEncode [] [] = ([0xc2, 0xc0, 0xc0], 0) := by
  simp [witEncode, rising, It.encode, witI, textsI, It.look, It.looks, It.body, It.wholes, It.whole, sz, It.enc, It.encs, headB]
theorem witDecode_nil : witDecode [0xc2, 0xc0, 0xc0] = ([], [], 0) := witDecode_back _ _ _ witEncode_nil
end Go.Pg
namespace Go.Proofs.Ytndkkgkcbbmnpaa
open Go.RowKit Go.Pg

set_option maxRecDepth 100000 in
set_option maxHeartbeats 1000000 in
theorem alive_any (w : World) : Calls Try.prog 15 #[] w fun e w' => e = .returned (.bool true) ∧ Below w.heap.size w w' := by
  have hw0 : (witI [] []).whole ≤ 140737488351232 := by simp [witI, textsI, It.whole, It.wholes, sz]
  go_enter Try.func15, Try.ntmps15
  go_wp2_with fail
  refine (wencode_any (fun _ => True) w none none 0 0 0 0 [] [] (SliceAt.nil _ _ _ _) (SliceAt.nil _ _ _ _) (by simp) (by simp) (by simp) (by simp) hw0).mono ?_
  rintro e w1 ⟨v1, he, ho1, hb1⟩
  rw [witEncode_nil] at he ho1
  subst he
  obtain ⟨a1, c1, rfl, -, -, -⟩ := ho1.len
  have hat := ho1.at (F := fun _ => True) (fun _ _ _ _ => trivial) (by decide)
  have HAT := Lib.hid hat
  have HB1 := Lib.hid hb1
  clear ho1 hb1 hat hw0
  go_wp2_with fail
  have hbytes : BytesAt (fun _ => True) (w1.alloc (.cells #[.int .u8 194, .int .u8 192, .int .u8 192] 5)) (.slice (some ⟨w1.heap.size, 0, none⟩) 3 3) [0xc2, 0xc0, 0xc0] :=
    (OwnAt.lit w1 5 #[.int .u8 194, .int .u8 192, .int .u8 192] [0xc2, 0xc0, 0xc0] (by simp) (by decide)).at (fun _ _ _ _ => trivial) (by decide)
  refine (wdecode_any (fun _ => True) _ _ 3 3 [0xc2, 0xc0, 0xc0] hbytes (by omega)).mono ?_
  rintro e w2 ⟨a2, n2, c2, a3, n3, c3, he, g1, g2, hb2⟩
  rw [witDecode_nil] at he g1 g2
  subst he
  have hb12 := Bel.call (Bel.alloc HB1.out _) hb2
  have hat2 : BytesAt (fun _ => True) (w2.alloc (.cells #[.slice a2 n2 c2, .slice a3 n3 c3] 24)) (.slice a1 3 c1) [0xc2, 0xc0, 0xc0] :=
    BytesAt.below (BytesAt.below (BytesAt.below HAT.out (Bel.alloc (Bel.refl w1) _)) hb2) (Bel.alloc (Bel.refl w2) _)
  have s1 := run_string_at (P := Try.prog) hat2 25 5 9 Try.underlying25 Try.underlying5 Try.underlying9
  have HG1 := Lib.hid (RowsAt.below g1 (Bel.alloc (Bel.refl w2) (.cells #[.slice a2 n2 c2, .slice a3 n3 c3] 24)))
  have HG2 := Lib.hid (RowsAt.below g2 (Bel.alloc (Bel.refl w2) (.cells #[.slice a2 n2 c2, .slice a3 n3 c3] 24)))
  have HB12 := Lib.hid hb12
  clear hbytes hb2 g1 g2 hb12 hat2
  simp only [List.length_cons, List.length_nil, Nat.zero_add, Nat.reduceAdd] at s1 ⊢
  go_wp2_with fail
  refine (same_any _ (fun _ => True) _ _ _ _ _ _ _ _ _ _ _ _ _ [] [] [] [] HG1.out HG2.out (SliceAt.nil _ _ _ _) (SliceAt.nil _ _ _ _) (by simp) (by simp)).mono ?_
  rintro e w3 ⟨rfl, hb3⟩
  have HB3 := Lib.hid hb3
  clear hb3 s1
  simp only [and_self, decide_true]
  go_wp2_with fail
  go_ret
  exact ⟨rfl, Bel.call (Bel.alloc HB12.out _) HB3.out⟩
end Go.Proofs.Ytndkkgkcbbmnpaa
namespace Go.Proofs.Ytndkkgkcbbmnpaa
open Go.RowKit Go.Pg

def RBodyC (d : Nat) : Prop := ∀ (F : Nat → Prop) (w : World) (x : It) (l : Bool) (v1 v2 : Value), ItemAt F w d [.bool l, v1, v2] x → x.body ≤ 16777215 →
  Calls Try.prog 94 #[.agg #[.bool l, v1, v2]] w (Fresh w 5 1 byteR x.bodyB)
def RBytesC (d : Nat) : Prop := ∀ (F : Nat → Prop) (w : World) (x : It) (l : Bool) (v1 v2 : Value), ItemAt F w d [.bool l, v1, v2] x → x.body ≤ 16777215 →
  Calls Try.prog 76 #[.agg #[.bool l, v1, v2]] w (Fresh w 5 1 byteR x.enc)

set_option maxRecDepth 100000 in
set_option maxHeartbeats 1000000 in
theorem rbody_step {d : Nat} (hd0 : RBytesC d) : RBodyC (d + 1) := by
  intro F w x l v1 v2 h hx
  obtain ⟨hl, a1, n1, c1, a2, n2, c2, rfl, rfl, -, -⟩ := ItemAt.form h
  obtain ⟨i0, hi, hz0, hz1, hz2⟩ := info_parts infoU8
  have hbs := ItemAt.bytes h
  have his := ItemAt.items h
  have HD := Lib.hid hd0
  have HX := Lib.hid hx
  have hbe := It.body_eq x
  have HBE := Lib.hid hbe
  have hn2 : n2 = x.items.length := by
    rcases SliceAt.split his with ⟨h1, h2⟩ | ⟨_, _, _, h2, _⟩
    · rw [h1, h2]; rfl
    · exact h2
  have hn63 : n2 ≤ 1099511627776 := by have := It.length_le_wholes x.items; omega
  have HN2 := Lib.hid hn2
  have hbs0 := BytesAt.below hbs (Bel.alloc (Bel.refl w) (.cells #[.bool l, .slice a1 n1 c1, .slice a2 n2 c2] 65))
  have hle0 : (([] : List UInt8).length + x.bytes.length) * 1 ≤ 140737488355328 := by simp; omega
  have hbase0 : w.heap.size + 1 ≤ (w.alloc (.cells #[.bool l, .slice a1 n1 c1, .slice a2 n2 c2] 65)).heap.size := by simp
  clear hn2 hbe hx hd0 hl h
  go_enter Try.func94, Try.ntmps94
  go_wp2_with (at_builtin; refine wpList_append_at rfl (.tmp 5) (.tmp 7) 25 rfl (w.heap.size + 1) 5 i0 (.int .u8 0) 1 1 underlying25 hi hz0 hz1 hz2 rfl (by decide) (by decide) byteR.one _ [] rfl (OwnAt.nil _ _ _ _ _) _ x.bytes F rfl hbs0 hle0 hbase0 ?next)
  case next =>
  intro v' w2 ho hg hm
  have ho1 : OwnAt w2 (w.heap.size + 1) 5 1 byteR v' (x.bytes ++ It.encs (x.items.take 0)) := by simpa [It.encs] using ho
  have hB : Below w.heap.size w w2 ∧ w2.heap[w.heap.size]? = some (.cells #[.bool l, .slice a1 n1 c1, .slice a2 n2 c2] 65 (0, 0)) := by
    refine ⟨(Bel.alloc (Bel.refl w) _).grown hg (by simp) (fun k hk => by simp [Value.ownBlock] at hk), ?_⟩
    rw [hg.block _ (by simp) (by simp [Value.ownBlock])]; exact heap_alloc_new w _
  have HO := Lib.hid ho1
  have HB := Lib.hid hB
  clear ho ho1 hB hg hm hbs0
  go_wp2_with fail
  go_loopw [3, 4] (fun s i wr => ∃ k : Nat, k ≤ n2 ∧ i = .int .i64 k ∧ Hid (OwnAt wr (w.heap.size + 1) 5 1 byteR s (x.bytes ++ It.encs (x.items.take k))) ∧
      Hid (Below w.heap.size w wr ∧ wr.heap[w.heap.size]? = some (.cells #[.bool l, .slice a1 n1 c1, .slice a2 n2 c2] 65 (0, 0)))) (fun _ i _ => n2 - (intOf i).toNat)
  case atStart => exact ⟨0, Nat.zero_le _, rfl, HO.out, HB.out⟩
  case round =>
    obtain ⟨k, hk, rfl, HOr, HBr⟩ := hrel
    obtain ⟨q0, q1, q2⟩ := cells3 HBr.out.2
    have hsr := (Array.getElem?_eq_some_iff.1 HBr.out.2).1
    have hN := HN2.out
    clear HO HB
    by_cases hlt : k < n2
    · have hki : k < x.items.length := by omega
      rcases SliceAt.split his with ⟨h1, h2⟩ | ⟨b, o, rfl, -, -, hFb⟩
      · rw [h1] at hki; simp at hki
      have his' := ItemsAt.below his HBr.out.1
      obtain ⟨y1, z1, t1, y2, z2, t2, g0, g1, g2, hit⟩ := ItemsAt.cell his' k hki
      obtain ⟨y, hy⟩ : ∃ y, y = x.items[k] := ⟨_, rfl⟩
      rw [← hy] at g0 hit
      obtain ⟨L, hL⟩ : ∃ L, L = x.bytes ++ It.encs (x.items.take k) := ⟨_, rfl⟩
      have h1 := It.wholes_take_succ x.items k hki
      have h2 := It.wholes_take_le x.items (k + 1)
      have h3 := It.body_le_whole y
      have hyb : y.body ≤ 16777215 := by have := HBE.out; have := HX.out; rw [← hy] at h1; omega
      have hLl : L.length + y.whole ≤ 16777215 := by
        have := HBE.out; have := HX.out
        rw [hL, List.length_append, It.encs_length]; rw [← hy] at h1; omega
      have HE : Hid (L ++ y.enc = x.bytes ++ It.encs (x.items.take (k + 1))) := by
        show _ = _
        rw [hL, It.encs_take_succ _ _ hki, ← hy, List.append_assoc]
      have hyl := It.enc_length y
      rw [← hL] at HOr
      have HYL := Lib.hid hyl
      clear hy hL h1 h2 h3 his' hN hyl
      go_wp2_with fail
      refine (HD.out F wr y _ _ _ hit hyb).mono ?_
      rintro e w3 ⟨v3, rfl, ho3, hb3⟩
      have hO2 : OwnAt w3 (w.heap.size + 1) 5 1 byteR u3 L := (HOr.out).carry (fun g _ _ hlt => hb3.block g hlt)
      have hs3 : BytesAt (fun _ => True) w3 v3 y.enc := ho3.at (fun _ _ _ _ => trivial) (by decide)
      have hle : (L.length + y.enc.length) * 1 ≤ 140737488355328 := by rw [HYL.out]; omega
      have hbase : w.heap.size + 1 ≤ w3.heap.size := by have := hb3.size; omega
      have hB3 : Below w.heap.size w w3 ∧ w3.heap[w.heap.size]? = some (.cells #[.bool l, .slice a1 n1 c1, .slice (some ⟨b, o, none⟩) n2 c2] 65 (0, 0)) :=
        ⟨Bel.call HBr.out.1 hb3, by rw [hb3.block _ hsr]; exact HBr.out.2⟩
      have HB3 := Lib.hid hB3
      have HO2 := Lib.hid hO2
      have HS3 := Lib.hid hs3
      clear hB3 hb3 ho3 hO2 hs3 hit g0 g1 g2 q0 q1 q2
      go_wp2_with (at_builtin; refine wpList_append_at rfl (.tmp 16) (.tmp 22) 25 rfl (w.heap.size + 1) 5 i0 (.int .u8 0) 1 1 underlying25 hi hz0 hz1 hz2 rfl (by decide) (by decide) byteR.one _ L rfl HO2.out _ y.enc (fun _ => True) rfl HS3.out hle hbase ?_; intro v4 w4 ho hg hm)
      have HO4 := Lib.hid ho
      have hown := (HO2.out).own
      have hB4 : Below w.heap.size w w4 ∧ w4.heap[w.heap.size]? = some (.cells #[.bool l, .slice a1 n1 c1, .slice (some ⟨b, o, none⟩) n2 c2] 65 (0, 0)) := by
        refine ⟨(HB3.out.1).grown hg (by omega) (fun k hk => by have := (hown k hk).1; omega), ?_⟩
        rw [hg.block _ (by omega) (fun e => by have := (hown _ e.symm).1; omega)]; exact HB3.out.2
      have HB4 := Lib.hid hB4
      clear ho hg hm hB4 hown
      go_roundw
      case rel => exact ⟨k + 1, by omega, num_eq (by omega), (by show OwnAt _ _ _ _ _ _ _; rw [← HE.out]; exact HO4.out), HB4.out⟩
      case measure => simp [intOf]; omega
    · obtain rfl : k = n2 := by omega
      go_wp2
      go_ret
      have hO := HOr.out
      rw [List.take_of_length_le (by omega), ← It.bodyB_eq] at hO
      exact ⟨_, rfl, hO.lower (by omega), HBr.out.1⟩
end Go.Proofs.Ytndkkgkcbbmnpaa
namespace Go.Proofs.Ytndkkgkcbbmnpaa
open Go.RowKit Go.Pg

theorem head_int (b m : Int) (base n : Nat) (w : World) (hb : b = base) (hm : m = n) (h1 : base ≤ 192) (hn : n < 16777216) :
    Calls Try.prog 93 #[.int .i64 b, .int .i64 m] w (Fresh w 5 1 byteR (headB base n)) := by
  subst hb; subst hm; exact head_any base n w h1 hn

set_option maxRecDepth 100000 in
set_option maxHeartbeats 1000000 in
theorem rbytes_step {d : Nat} (hd0 : RBodyC d) : RBytesC d := by
  intro F w x l v1 v2 h hx
  obtain ⟨hl, a1, n1, c1, a2, n2, c2, rfl, rfl, -, -⟩ := ItemAt.form h
  obtain ⟨i0, hi, hz0, hz1, hz2⟩ := info_parts infoU8
  obtain ⟨W0, hW0⟩ : ∃ W0, W0 = w.alloc (.cells #[.bool l, .slice a1 n1 c1, .slice a2 n2 c2] 65) := ⟨_, rfl⟩
  have hb0 : Below w.heap.size w W0 := by rw [hW0]; exact Bel.alloc (Bel.refl w) _
  have hk0 : W0.heap[w.heap.size]? = some (.cells #[.bool l, .slice a1 n1 c1, .slice a2 n2 c2] 65 (0, 0)) := by rw [hW0]; exact heap_alloc_new w _
  have h0 := h.below hb0
  have HD := Lib.hid hd0
  have HX := Lib.hid hx
  have HW0 := Lib.hid hW0
  have hsz0 := (Array.getElem?_eq_some_iff.1 hk0).1
  have hbl := It.bodyB_length x
  obtain ⟨B, hB⟩ : ∃ B, B = x.bodyB := ⟨_, rfl⟩
  obtain ⟨n, hn⟩ : ∃ n, n = B.length := ⟨_, rfl⟩
  rw [← hB, ← hn] at hbl
  have hnb : n ≤ 16777215 := by omega
  have hnb' : (n : Int) ≤ 16777215 := by omega
  have HN := Lib.hid hn
  have HB := Lib.hid hB
  have HBL := Lib.hid hbl
  have HK0 := Lib.hid hk0
  have HB0 := Lib.hid hb0
  have HNB := Lib.hid hnb
  clear hd0 hx hW0 h hn hB hbl hk0 hb0 hnb
  by_cases hp : x.plain = true
  · obtain ⟨c, hc⟩ : ∃ c : UInt8, x = .text [c] ∧ c.toNat < 128 := by
      cases x with
      | list l => simp [It.plain] at hp
      | text b =>
        simp only [It.plain, plainB, Bool.and_eq_true, beq_iff_eq, decide_eq_true_eq] at hp
        match b, hp with
        | [c], hp => exact ⟨c, rfl, by simpa using hp.2⟩
    obtain ⟨rfl, hc⟩ := hc
    obtain rfl : l = false := hl
    obtain rfl : B = [c] := HB.out
    obtain rfl : n = 1 := HN.out
    go_enter Try.func76, Try.ntmps76
    go_wp2_with fail
    rw [← HW0.out]
    refine (HD.out F W0 (.text [c]) _ _ _ h0 HX.out).mono ?_
    rintro e w2 ⟨v2, rfl, ho, hb2⟩
    have hbk : w2.heap[w.heap.size]? = some (.cells #[.bool false, .slice a1 n1 c1, .slice a2 n2 c2] 65 (0, 0)) := by rw [hb2.block _ hsz0]; exact HK0.out
    obtain ⟨q0, q1, q2⟩ := cells3 hbk
    have hs : BytesAt (fun _ => True) w2 v2 [c] := ho.at (fun _ _ _ _ => trivial) (by decide)
    rcases SliceAt.cases hs with ⟨h, _⟩ | ⟨g, o, c', rfl, -, -, -, -⟩
    · cases h
    have hcell := BytesAt.cell hs 0 (by simp)
    simp at hcell
    have hc' : (c.toNat : Int) < 128 := by omega
    have HO := Lib.hid ho
    have HB2 := Lib.hid (Bel.call HB0.out hb2)
    have hbase := (HB0.out).size
    clear ho hb2 hbk hs
    go_wp2
    go_ret
    refine ⟨_, rfl, ?_, HB2.out⟩
    have : (It.text [c]).enc = [c] := by simp only [It.enc]; rw [if_pos (by simpa [It.plain] using hp)]
    rw [this]
    exact (HO.out).lower hbase
  · have hp' : x.plain = false := by simpa using hp
    have hle : Hid (x.enc = headB x.base n ++ B) := by
      show _ = _
      rw [It.enc_eq, hp', HBL.out, HB.out]; rfl
    have hcase : (l = true ∧ Hid ((x.base : Int) = 192)) ∨ (l = false ∧ Hid ((x.base : Int) = 128) ∧ (n = 1 → ∃ c : UInt8, B = [c] ∧ 128 ≤ c.toNat)) := by
      unfold It.base Hid
      cases x with
      | list l' => exact .inl ⟨hl, by simp [It.isList]⟩
      | text b =>
        refine .inr ⟨hl, by simp [It.isList], fun h1 => ?_⟩
        have hBb : B = b := HB.out
        have hnn := HN.out
        rw [hBb] at hnn
        match b, hnn.symm.trans h1 with
        | [c], _ =>
          refine ⟨c, hBb, ?_⟩
          simp [It.plain, plainB] at hp'
          omega
    have hcases : (l = true ∧ Hid ((x.base : Int) = 192)) ∨ (l = false ∧ Hid ((x.base : Int) = 128) ∧ n ≠ 1) ∨ (l = false ∧ Hid ((x.base : Int) = 128) ∧ n = 1 ∧ ∃ c : UInt8, B = [c] ∧ 128 ≤ c.toNat) := by
      rcases hcase with h | ⟨h1, h2, h3⟩
      · exact .inl h
      · by_cases hn1 : n = 1
        · exact .inr (.inr ⟨h1, h2, hn1, h3 hn1⟩)
        · exact .inr (.inl ⟨h1, h2, hn1⟩)
    have hsz : (headB x.base n).length + n = sz n := headB_length _ _
    obtain ⟨hd, hhd⟩ : ∃ hd, hd = headB x.base n := ⟨_, rfl⟩
    rw [← hhd] at hle hsz
    have hszl : sz n ≤ n + 9 := by
      unfold sz; split
      · omega
      · have := number_le 8 n (by have := HNB.out; omega); omega
    have hdl : hd.length ≤ 16 := by omega
    have HHD := Lib.hid hhd
    clear hcase hhd hsz hszl hp hp' hl
    rcases hcases with ⟨rfl, hbz⟩ | ⟨rfl, hbz, hn1⟩ | ⟨rfl, hbz, hn1, c, hBc, hc⟩
    case' inl => have ht1 : True := trivial
    case' inr.inl => have ht1 : ((n : Int) == 1) = false := by simp; omega
    case' inr.inr =>
      have hc' : ¬ (c.toNat : Int) < 128 := by omega
      have HBC := Lib.hid hBc
      obtain rfl := hn1
      clear hBc hc
    all_goals
      go_enter Try.func76, Try.ntmps76
      go_wp2_with fail
      rw [← HW0.out]
      refine (HD.out F W0 x _ _ _ h0 HX.out).mono ?_
      rintro e w2 ⟨v2, rfl, ho, hb2⟩
      have hbk := (hb2.block _ hsz0).trans HK0.out
      obtain ⟨q0, q1, q2⟩ := cells3 hbk
      rw [← HB.out] at ho
      have hs : BytesAt (fun _ => True) w2 v2 B := ho.at (fun _ _ _ _ => trivial) (by decide)
      obtain ⟨ab, cb, rfl, -, -, -⟩ := SliceAt.len hs
      rw [← HN.out] at hs ⊢
      try (
        have hs' := hs
        rw [HBC.out] at hs'
        rcases SliceAt.split hs' with ⟨h, _⟩ | ⟨g, o, rfl, -, -, -⟩
        · cases h
        have hcell := BytesAt.cell hs' 0 (by simp)
        simp at hcell
        clear hs')
      have HB2 := Lib.hid (Bel.call HB0.out hb2)
      have HS := Lib.hid hs
      have hbase := Nat.le_trans (HB0.out).size hb2.size
      clear ho hb2 hbk hs
      go_wp2_with fail
      refine (head_int _ _ x.base _ w2 hbz.out.symm rfl (by have := hbz.out; omega) (by first | (have := HNB.out; omega) | exact (show (1 : Nat) < 16777216 by omega))).mono ?_
      rintro e w3 ⟨v3, rfl, ho3, hb3⟩
      have hd' := HHD.out
      have ho3' := ho3
      rw [← hd'] at ho3'
      have HO3 := Lib.hid ho3'
      have HS3 := Lib.hid (BytesAt.below HS.out hb3)
      have HB3 := Lib.hid (Bel.call HB2.out hb3)
      have hbase3 := hb3.size
      have hle3 : (hd.length + B.length) * 1 ≤ 140737488355328 := by have := HN.out; have := HNB.out; omega
      clear ho3 ho3' hb3 hd'
      go_wp2_with (at_builtin; refine wpList_append_at rfl (.tmp 29) (.tmp 30) 25 rfl w2.heap.size 5 i0 (.int .u8 0) 1 1 underlying25 hi hz0 hz1 hz2 rfl (by decide) (by decide) byteR.one _ hd rfl HO3.out _ B (fun _ => True) rfl HS3.out hle3 hbase3 ?_; intro v4 w4 ho hg hm)
      go_ret
      refine ⟨v4, rfl, ?_, ?_⟩
      · rw [hle.out]; exact ho.lower hbase
      · exact (HB3.out).grown hg (HB3.out).size (fun k hk => by have := ((HO3.out).own k hk).1; omega)
theorem rbytes (d : Nat) : RBodyC d ∧ RBytesC d := by
  induction d with
  | zero => exact ⟨fun _ _ _ _ _ _ h => h.elim, fun _ _ _ _ _ _ h => h.elim⟩
  | succ d ih => have hb := rbody_step ih.2; exact ⟨hb, rbytes_step hb⟩
theorem rbytes_any (d : Nat) : RBytesC d := (rbytes d).2
end Go.Proofs.Ytndkkgkcbbmnpaa
namespace Go.Pg
def capSz (n : Nat) : Nat := if 16777215 < n then n else sz n
mutual
/-- how many bytes an encoding has; where a body has too many, just that -/
def It.rsize : It → Nat
  | .text b => if plainB b then 1 else capSz b.length
  | .list l => capSz (It.rsizes l)
def It.rsizes : List It → Nat
  | [] => 0
  | x :: r => It.rsize x + It.rsizes r
end
theorem capSz_le (n : Nat) : n ≤ capSz n ∧ capSz n ≤ sz n := by
  unfold capSz; split
  · have := sz_ge n; omega
  · have := sz_ge n; omega
theorem sz_mono_le (n m : Nat) (h : n ≤ m) (hm : m < 256 ^ 8) : sz n ≤ m + 9 := by
  unfold sz; split
  · omega
  · have := number_le 8 n (by omega); omega
theorem It.rsizes_append (l m : List It) : It.rsizes (l ++ m) = It.rsizes l + It.rsizes m := by
  induction l with
  | nil => simp [It.rsizes]
  | cons x r ih => simp only [List.cons_append, It.rsizes, ih]; omega
theorem It.rsizes_take_succ (l : List It) (k : Nat) (h : k < l.length) : It.rsizes (l.take (k + 1)) = It.rsizes (l.take k) + l[k].rsize := by
  rw [List.take_succ_eq_append_getElem h, It.rsizes_append]; simp [It.rsizes]
mutual
/-- small: exact; else too many either way -/
theorem It.rsize_or : ∀ x : It, (x.body ≤ 16777215 ∧ x.rsize = x.whole) ∨ (16777215 < x.body ∧ 16777215 < x.rsize)
  | .text b => by
    simp only [It.body, It.rsize, It.whole]
    by_cases hp : plainB b = true
    · rw [if_pos hp, if_pos hp]
      have : b.length = 1 := by simp [plainB] at hp; exact hp.1
      exact .inl ⟨by omega, rfl⟩
    · rw [if_neg hp, if_neg hp]
      unfold capSz
      by_cases hb : 16777215 < b.length
      · rw [if_pos hb]; exact .inr ⟨hb, hb⟩
      · rw [if_neg hb]; exact .inl ⟨by omega, rfl⟩
  | .list l => by
    simp only [It.body, It.rsize, It.whole]
    rcases It.rsizes_or l with ⟨h1, h2⟩ | ⟨h1, h2⟩
    · rw [h2]; unfold capSz; rw [if_neg (by omega)]; exact .inl ⟨h1, rfl⟩
    · have := (capSz_le (It.rsizes l)).1; exact .inr ⟨h1, by omega⟩
theorem It.rsizes_or : ∀ l : List It, (It.wholes l ≤ 16777215 ∧ It.rsizes l = It.wholes l) ∨ (16777215 < It.wholes l ∧ 16777215 < It.rsizes l)
  | [] => .inl ⟨by simp [It.wholes], rfl⟩
  | x :: r => by
    simp only [It.wholes, It.rsizes]
    have hw := It.body_le_whole x
    rcases It.rsize_or x with ⟨h1, h2⟩ | ⟨h1, h2⟩
    · rcases It.rsizes_or r with ⟨h3, h4⟩ | ⟨h3, h4⟩
      · rw [h2, h4]; omega
      · right; omega
    · right; omega
end
mutual
theorem It.rsize_le : ∀ x : It, x.rsize ≤ x.whole
  | .text b => by
    simp only [It.rsize, It.whole]
    split
    · omega
    · exact (capSz_le _).2
  | .list l => by
    simp only [It.rsize, It.whole]
    rcases It.rsizes_or l with ⟨h1, h2⟩ | ⟨h1, h2⟩
    · rw [h2]; exact (capSz_le _).2
    · have := It.rsizes_le l
      unfold capSz; rw [if_pos h2]
      have := sz_ge (It.wholes l); omega
theorem It.rsizes_le : ∀ l : List It, It.rsizes l ≤ It.wholes l
  | [] => Nat.le_refl _
  | x :: r => by simp only [It.rsizes, It.wholes]; have := It.rsize_le x; have := It.rsizes_le r; omega
end
end Go.Pg
namespace Go.Proofs.Ytndkkgkcbbmnpaa
open Go.RowKit Go.Pg

def RSizeC (d : Nat) : Prop := ∀ (F : Nat → Prop) (w : World) (x : It) (l : Bool) (v1 v2 : Value), ItemAt F w d [.bool l, v1, v2] x → x.whole ≤ 140737488351232 →
  Calls Try.prog 75 #[.agg #[.bool l, v1, v2]] w fun e w' => e = .returned (.int .i64 x.rsize) ∧ Below w.heap.size w w'

set_option maxRecDepth 100000 in
set_option maxHeartbeats 1000000 in
theorem rsize_plain (w : World) (g o c : Nat) (x : UInt8) (v2 : Value) (hc : w.cell? ⟨g, o, none⟩ = some (.int .u8 (x.toNat : Int))) (hx : x.toNat < 128) :
    Calls Try.prog 75 #[.agg #[.bool false, .slice (some ⟨g, o, none⟩) 1 c, v2]] w fun e w' => e = .returned (.int .i64 1) ∧ Below w.heap.size w w' := by
  have hg := cell_lt hc
  have hx' : (x.toNat : Int) < 128 := by omega
  go_enter Try.func75, Try.ntmps75
  go_wp2
  go_ret
  exact ⟨rfl, Bel.alloc (Bel.refl w) _⟩

set_option maxRecDepth 100000 in
set_option maxHeartbeats 1000000 in
theorem rsize_text (w : World) (a a2 : Option Addr) (n c c2 : Nat) (hn : n ≤ 140737488351232) (ht : n = 1 → ∃ g o x, a = some ⟨g, o, none⟩ ∧ w.cell? ⟨g, o, none⟩ = some (.int .u8 ((x : UInt8).toNat : Int)) ∧ 128 ≤ x.toNat) :
    Calls Try.prog 75 #[.agg #[.bool false, .slice a n c, .slice a2 0 c2]] w fun e w' => e = .returned (.int .i64 (capSz n)) ∧ Below w.heap.size w w' := by
  have hcase : (∃ g o x, n = 1 ∧ a = some ⟨g, o, none⟩ ∧ w.cell? ⟨g, o, none⟩ = some (.int .u8 ((x : UInt8).toNat : Int)) ∧ g < w.heap.size ∧ ¬ (x.toNat : Int) < 128) ∨ ((n : Int) == 1) = false := by
    by_cases h1 : n = 1
    · obtain ⟨g, o, x, h2, hc, hx⟩ := ht h1
      exact .inl ⟨g, o, x, h1, h2, hc, cell_lt hc, by omega⟩
    · exact .inr (by simp; omega)
  clear ht
  obtain ⟨hd, hhd⟩ : ∃ hd, hd = headB 0 n := ⟨_, rfl⟩
  have hcs : capSz n = if 16777215 < n then n else n + hd.length := by
    unfold capSz; split
    · rfl
    · have := headB_length 0 n; rw [hhd]; omega
  have hdl : hd.length ≤ 16 := by
    have h1 := headB_length 0 n
    have h2 : sz n ≤ n + 9 := sz_mono_le n n (Nat.le_refl _) (by omega)
    rw [hhd]; omega
  have HHD := Lib.hid hhd
  clear hhd
  have HCS := Lib.hid hcs
  clear hcs
  by_cases hbig : (16777215 : Int) < (n : Int)
  · have h1 : ((n : Int) == 1) = false := by simp; omega
    go_enter Try.func75, Try.ntmps75
    go_wp2
    refine wp_loop_rounds 1 ?_
    rw [rounds_succ]
    go_wp2_with fail
    go_ret
    exact ⟨ret_int (by rw [HCS.out, if_pos (by omega)]), Bel.alloc (Bel.refl w) _⟩
  · rcases hcase with ⟨g, o, x, rfl, rfl, hc, hg, hx⟩ | h1
    all_goals
      go_enter Try.func75, Try.ntmps75
      go_wp2
      refine wp_loop_rounds 1 ?_
      rw [rounds_succ]
      go_wp2_with fail
      refine (head_int _ _ 0 _ _ rfl rfl (by omega) (by first | omega | exact (show (1 : Nat) < 16777216 by omega))).mono ?_
      rintro e w3 ⟨v3, rfl, ho3, hb3⟩
      rw [← HHD.out] at ho3
      obtain ⟨a3, c3, rfl, -, -, -⟩ := ho3.len
      have HB := Lib.hid (Bel.call (Bel.alloc (Bel.refl w) _) hb3)
      clear ho3 hb3
      go_wp2_with fail
      go_ret
      exact ⟨ret_int (by rw [HCS.out]; first | (rw [if_neg (by omega)]; omega) | (rw [if_neg (show ¬ 16777215 < 1 by omega)]; omega)), HB.out⟩

set_option maxRecDepth 100000 in
set_option maxHeartbeats 1000000 in
theorem rsize_list {d : Nat} (hd0 : RSizeC d) (F : Nat → Prop) (w : World) (a a2 : Option Addr) (c n2 c2 : Nat) (l : List It) (his : ItemsAt F w d (.slice a2 n2 c2) l) (hw : It.wholes l ≤ 140737488351232) :
    Calls Try.prog 75 #[.agg #[.bool true, .slice a 0 c, .slice a2 n2 c2]] w fun e w' => e = .returned (.int .i64 (capSz (It.rsizes l))) ∧ Below w.heap.size w w' := by
  have hn2 : n2 = l.length := by
    rcases SliceAt.split his with ⟨h1, h2⟩ | ⟨_, _, _, h2, _⟩
    · rw [h1, h2]; rfl
    · exact h2
  have hn63 : n2 ≤ 140737488351232 := by have := It.length_le_wholes l; omega
  have hrs := It.rsizes_le l
  have HN2 := Lib.hid hn2
  have HD := Lib.hid hd0
  have HW := Lib.hid hw
  have HRS := Lib.hid hrs
  clear hn2 hd0 hw hrs
  go_enter Try.func75, Try.ntmps75
  go_wp2
  go_loopw [3, 4] (fun s i wr => ∃ k m : Nat, k ≤ n2 ∧ i = .int .i64 k ∧ s = .int .i64 m ∧ Hid (m = It.rsizes (l.take k)) ∧
      Hid (Below w.heap.size w wr ∧ wr.heap[w.heap.size]? = some (.cells #[.bool true, .slice a 0 c, .slice a2 n2 c2] 65 (0, 0)))) (fun _ i _ => n2 - (intOf i).toNat)
  case atStart => exact ⟨0, 0, Nat.zero_le _, rfl, rfl, by show _ = _; simp [It.rsizes], Bel.alloc (Bel.refl w) _, heap_alloc_new w _⟩
  case round =>
    obtain ⟨k, m, hk, rfl, rfl, HM, HB⟩ := hrel
    obtain ⟨q0, q1, q2⟩ := cells3 HB.out.2
    have hsr := (Array.getElem?_eq_some_iff.1 HB.out.2).1
    have hN := HN2.out
    have htl : It.rsizes (l.take k) ≤ It.rsizes l := by
      have := It.rsizes_append (l.take k) (l.drop k)
      rw [List.take_append_drop] at this; omega
    have hm63 : m ≤ 140737488351232 := by have := HM.out; have := HRS.out; have := HW.out; omega
    clear htl
    by_cases hlt : k < n2
    · have hki : k < l.length := by omega
      rcases SliceAt.split his with ⟨h1, h2⟩ | ⟨b, o, rfl, -, -, hFb⟩
      · rw [h1] at hki; simp at hki
      have his' := ItemsAt.below his HB.out.1
      obtain ⟨y1, z1, t1, y2, z2, t2, g0, g1, g2, hit⟩ := ItemsAt.cell his' k hki
      obtain ⟨y, hy⟩ : ∃ y, y = l[k] := ⟨_, rfl⟩
      rw [← hy] at g0 hit
      have h1 := It.rsizes_take_succ l k hki
      have h2 := It.wholes_take_succ l k hki
      have h3 := It.wholes_take_le l (k + 1)
      have h4 := It.rsize_le y
      have hyw : y.whole ≤ 140737488351232 := by have := HW.out; rw [← hy] at h2; omega
      have hyr : y.rsize ≤ 140737488351232 := by omega
      have HE : Hid (m + y.rsize = It.rsizes (l.take (k + 1))) := by show _ = _; rw [h1, HM.out, ← hy]
      clear hy h1 h2 h3 h4 his' hN
      go_wp2_with fail
      refine (HD.out F wr y _ _ _ hit hyw).mono ?_
      rintro e w3 ⟨rfl, hb3⟩
      have hB3 : Below w.heap.size w w3 ∧ w3.heap[w.heap.size]? = some (.cells #[.bool true, .slice a 0 c, .slice (some ⟨b, o, none⟩) n2 c2] 65 (0, 0)) :=
        ⟨Bel.call HB.out.1 hb3, by rw [hb3.block _ hsr]; exact HB.out.2⟩
      have HB3 := Lib.hid hB3
      clear hB3 hb3 hit
      go_wp2_with fail
      go_roundw
      case rel => exact ⟨k + 1, m + y.rsize, by omega, num_eq (by omega), num_eq (by omega), HE, HB3.out⟩
      case measure => simp [intOf]; omega
    · obtain rfl : k = n2 := by omega
      have hm := HM.out
      rw [List.take_of_length_le (by omega)] at hm
      have HM' := Lib.hid hm
      obtain ⟨hd, hhd⟩ : ∃ hd, hd = headB 0 m := ⟨_, rfl⟩
      have hcs : capSz m = if 16777215 < m then m else m + hd.length := by
        unfold capSz; split
        · rfl
        · have := headB_length 0 m; rw [hhd]; omega
      have hdl : hd.length ≤ 16 := by
        have h1 := headB_length 0 m
        have h2 : sz m ≤ m + 9 := sz_mono_le m m (Nat.le_refl _) (by omega)
        rw [hhd]; omega
      have HHD := Lib.hid hhd
      have HCS := Lib.hid hcs
      clear hhd hcs hm
      by_cases hbig : (16777215 : Int) < (m : Int)
      · go_wp2_with fail
        go_ret
        exact ⟨ret_int (by rw [← HM'.out, HCS.out, if_pos (by omega)]), HB.out.1⟩
      · go_wp2_with fail
        refine (head_int _ _ 0 m _ rfl rfl (by omega) (by omega)).mono ?_
        rintro e w3 ⟨v3, rfl, ho3, hb3⟩
        rw [← HHD.out] at ho3
        obtain ⟨a3, c3, rfl, -, -, -⟩ := ho3.len
        have HB3 := Lib.hid (Bel.call HB.out.1 hb3)
        clear ho3 hb3
        go_wp2_with fail
        go_ret
        exact ⟨ret_int (by rw [← HM'.out, HCS.out, if_neg (by omega)]; omega), HB3.out⟩

theorem rsize_any (d : Nat) : RSizeC d := by
  induction d with
  | zero => intro F w x l v1 v2 h; exact h.elim
  | succ d ih =>
    intro F w x l v1 v2 h hx
    obtain ⟨u1, u2, h1, h2, h3⟩ := h
    simp only [List.cons.injEq, Value.bool.injEq, and_true] at h1
    obtain ⟨rfl, rfl, rfl⟩ := h1
    obtain ⟨a, c, rfl, -, -, -⟩ := SliceAt.len h2
    obtain ⟨a2, c2, rfl, -, -, -⟩ := SliceAt.len h3
    cases x with
    | list l =>
      have hwb : It.wholes l + 1 ≤ (It.list l).whole := by simp only [It.whole]; exact sz_ge _
      exact rsize_list ih F w a a2 c _ c2 l h3 (by omega)
    | text b =>
      simp only [It.isList, It.bytes, It.items, It.rsize] at h2 ⊢
      have hbw := It.body_le_whole (.text b)
      simp only [It.body] at hbw
      by_cases hp : plainB b = true
      · rw [if_pos hp]
        simp only [plainB, Bool.and_eq_true, beq_iff_eq, decide_eq_true_eq] at hp
        match b, hp with
        | [x], hp =>
          rcases SliceAt.split h2 with ⟨h, _⟩ | ⟨g, o, rfl, -, -, -⟩
          · cases h
          have hcell := BytesAt.cell h2 0 (by simp)
          exact rsize_plain w g o c x _ (by simpa using hcell) (by simpa using hp.2)
      · rw [if_neg hp]
        refine rsize_text w a a2 _ c c2 (by omega) fun h1 => ?_
        match b, h1 with
        | [x], _ =>
          rcases SliceAt.split h2 with ⟨h, _⟩ | ⟨g, o, rfl, -, -, -⟩
          · cases h
          have hcell := BytesAt.cell h2 0 (by simp)
          exact ⟨g, o, x, rfl, by simpa using hcell, by simp [plainB] at hp; omega⟩
end Go.Proofs.Ytndkkgkcbbmnpaa
