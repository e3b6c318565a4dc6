/-
  Contract of witness.Decode.
-/
import Derived.Test.YtndkkgkcbbmnpaaPlainB
namespace Go.Pg
open Go.RowKit
/-- two cells written into a box -/
structure Box2 (W1 W : World) (b : Nat) (v0 v1 : Value) (t : TypeId) : Prop where
  at_ : W.heap[b]? = some (.cells #[v0, v1] t (0, 0))
  other : ∀ k, k ≠ b → W.heap[k]? = W1.heap[k]?
  size : W.heap.size = W1.heap.size
  chg : Chg (fun k => k = b) W1 W
theorem box2 {W1 : World} {b : Nat} {x0 x1 : Value} {t : TypeId} (hk : W1.heap[b]? = some (.cells #[x0, x1] t (0, 0))) (v0 v1 : Value) :
    Box2 W1 ((W1.setCell ⟨b, 0, none⟩ v0).setCell ⟨b, 1, none⟩ v1) b v0 v1 t :=
  ⟨heap_setCell_same _ _ _ _ _ _ (heap_setCell_same _ _ _ _ _ _ hk),
   fun k hk => by rw [Below.heap_setCell _ _ _ _ hk, Below.heap_setCell _ _ _ _ hk], by simp, ((Chg.refl (fun k => k = b) W1).atb _).atb _⟩
theorem Box2.alloc {W1 W : World} {b : Nat} {v0 v1 : Value} {t : TypeId} (h : Box2 W1 W b v0 v1 t) (o : Obj) : Box2 (W1.alloc o) (W.alloc o) b v0 v1 t := by
  have hlt := (Array.getElem?_eq_some_iff.1 h.at_).1
  refine ⟨by rw [Below.heap_alloc _ _ _ hlt]; exact h.at_, fun k hk => ?_, by simp [h.size], ⟨h.chg.os, h.chg.tape, h.chg.output, by simp [h.size], fun k hk hn => ?_⟩⟩
  all_goals
    show (W.heap.push o)[k]? = (W1.heap.push o)[k]?
    rw [Array.getElem?_push, Array.getElem?_push, h.size, h.other k (by assumption)]
theorem witDecode_pos (bs : List UInt8) (x i0 i1 : It) (h : rdWhole bs = (0, x)) (hl : x.isList = true) (hi : x.items = [i0, i1]) :
    witDecode bs = if readOk i0 = true ∧ readOk i1 = true then (i0.items.map It.bytes, i1.items.map It.bytes, 0) else ([], [], 210) := by
  unfold witDecode part
  rw [h, hi]
  simp [hl]
theorem witDecode_no (bs : List UInt8) (e : Nat) (x : It) (h : rdWhole bs = (e, x)) (hn : e ≠ 0 ∨ x.isList = false ∨ x.items.length ≠ 2) : witDecode bs = ([], [], 210) := by
  unfold witDecode
  rw [h, if_neg]
  rintro ⟨h1, h2, h3, -, -⟩
  rcases hn with hn | hn | hn
  · exact hn h1
  · simp only at h2; rw [hn] at h2; cases h2
  · exact hn h3
end Go.Pg
namespace Go.Proofs.Ytndkkgkcbbmnpaa
open Go.RowKit Go.Pg

/-- a witness, or an empty one and a fault -/
def WDecd (F : World → Nat → Prop) (w : World) (r : List (List UInt8) × List (List UInt8) × Nat) (e : Ending) (w' : World) : Prop :=
  ∃ a1 n1 c1 a2 n2 c2, e = .returned (.tuple #[.agg #[.slice a1 n1 c1, .slice a2 n2 c2], .int .i64 r.2.2]) ∧ RowsAt (F w) w' (.slice a1 n1 c1) r.1 ∧ RowsAt (F w) w' (.slice a2 n2 c2) r.2.1 ∧ Below w.heap.size w w'

theorem WDecd.bad {w W1 W : World} {o : Obj} (h1 : Below w.heap.size w W1) (hb : Box2 W1 W w.heap.size (.slice none 0 0) (.slice none 0 0) 24) :
    WDecd fresh w ([], [], 210) (.returned (.tuple #[.agg #[.slice none 0 0, .slice none 0 0], .int .i64 ((210 : Nat) : Int)])) (W.alloc o) :=
  ⟨none, 0, 0, none, 0, 0, rfl, SliceAt.nil _ _ _ _, SliceAt.nil _ _ _ _, (h1.trans (hb.chg.toBelowAt h1.size (fun k hk e => by omega))).alloc (by rw [hb.size]; exact h1.size) _⟩

set_option maxRecDepth 100000 in
set_option maxHeartbeats 4000000 in
theorem wdecode_any (F0 : Nat → Prop) (w : World) (a : Option Addr) (n c : Nat) (bs : List UInt8) (h0 : BytesAt F0 w (.slice a n c) bs) (hn : n ≤ 1099511627776) :
    Calls Try.prog 16 #[.slice a n c] w (WDecd fresh w (witDecode bs)) := by
  have hnl : n = bs.length := by
    obtain ⟨a', c', hv, h1, -⟩ := h0
    simp only [Value.slice.injEq] at hv
    exact hv.2.1
  obtain ⟨e1, x, hr⟩ : ∃ e1 x, rdWhole bs = (e1, x) := ⟨(rdWhole bs).1, (rdWhole bs).2, rfl⟩
  have hcall := decode_any F0 (w.alloc (.cells #[.slice none 0 0, .slice none 0 0] 24)) a n c bs (BytesAt.below h0 (Bel.alloc (Bel.refl w) _)) (by omega)
  rw [hr] at hcall
  have HC := Lib.hid hcall
  have HR := Lib.hid hr
  have HNL := Lib.hid hnl
  clear h0 hnl hr hcall
  go_enter Try.func16, Try.ntmps16
  go_wp2_with fail
  refine HC.out.mono ?_
  rintro e5 w5 ⟨il, i1, y1, z1, i3, y3, z3, rfl, k1, k2⟩
  have hsz := k2.size
  simp only [World.size_alloc] at hsz
  have h0 : w.heap.size < w5.heap.size := by omega
  have hb5 := (k2.block w.heap.size (by simp)).trans (heap_alloc_new w _)
  have hbel := (Bel.alloc (Bel.refl w) (.cells #[.slice none 0 0, .slice none 0 0] 24)).trans (k2.mono (by simp))
  have HB5 := Lib.hid hb5
  have HBL := Lib.hid hbel
  obtain ⟨hil, a1', n1', c1', a2', n2', c2', e1', e2', -, hn3⟩ := ItemAt.form k1
  simp only [Value.slice.injEq] at e1' e2'
  obtain ⟨rfl, rfl, rfl⟩ := e1'
  obtain ⟨rfl, rfl, rfl⟩ := e2'
  obtain ⟨q0, q1⟩ := cells2 hb5
  have f0 := frozen_of_row w5 w.heap.size 0 _ _ hb5
  have f1 := frozen_of_row w5 w.heap.size 1 _ _ hb5
  have K1 := Lib.hid k1
  have HIL := Lib.hid hil
  have HN3 := Lib.hid hn3
  clear hb5 k1 k2 hsz hbel hil hn3
  by_cases hgood : e1 = 0 ∧ il = true ∧ y3 = 2
  · obtain ⟨rfl, rfl, rfl⟩ := hgood
    obtain ⟨hb, hfit⟩ := rdWhole_sound bs x HR.out
    have hbl : x.whole = n := by rw [← It.enc_length, ← hb]; exact HNL.out.symm
    obtain ⟨i0, i1x, hi⟩ : ∃ i0 i1x, x.items = [i0, i1x] := by
      have := HN3.out
      match x.items, this with
      | [i0, i1x], _ => exact ⟨i0, i1x, rfl⟩
    have hits := ItemAt.items K1.out
    rw [hi] at hits
    have hl0 : i0.items.length ≤ 1099511627776 ∧ i1x.items.length ≤ 1099511627776 := by
      have h1 := It.body_le_whole x
      have h2 : x.body = It.wholes x.items + x.bytes.length := by rw [It.body_eq]; omega
      rw [hi] at h2
      simp only [It.wholes] at h2
      have h3 := It.body_le_whole i0
      have h4 := It.body_le_whole i1x
      have h5 := It.length_le_wholes i0.items
      have h6 := It.length_le_wholes i1x.items
      have h7 := It.body_eq i0
      have h8 := It.body_eq i1x
      omega
    have hwd := witDecode_pos bs x i0 i1x HR.out HIL.out.symm hi
    have HWD := Lib.hid hwd
    have HI := Lib.hid hi
    have HL0 := Lib.hid hl0
    rcases SliceAt.split hits with ⟨hh, _⟩ | ⟨b, o, rfl, -, -, hfb⟩
    · cases hh
    obtain ⟨A1, N1, C1, A2, N2, C2, g0, g1, g2, git⟩ := ItemsAt.cell hits 0 (by simp)
    obtain ⟨A3, N3, C3, A4, N4, C4, g3, g4, g5, git'⟩ := ItemsAt.cell hits 1 (by simp)
    simp only [Nat.zero_mul, Nat.one_mul, Nat.add_zero, List.getElem_cons_zero, List.getElem_cons_succ] at g0 g1 g2 g3 g4 g5 git git'
    have hblt := cell_lt g0
    have hbne : b ≠ w.heap.size := by
      have h9 : (w.alloc (.cells #[.slice none 0 0, .slice none 0 0] 24)).heap.size ≤ b := hfb
      simp only [World.size_alloc] at h9; omega
    obtain ⟨L0, hL0⟩ : ∃ L, L = i0.isList := ⟨_, rfl⟩
    obtain ⟨L1, hL1⟩ : ∃ L, L = i1x.isList := ⟨_, rfl⟩
    rw [← hL0] at g0 git
    rw [← hL1] at g3 git'
    have GIT := Lib.hid git
    have GIT' := Lib.hid git'
    clear hb hfit hbl hits hl0 hwd hi git git' hL0 hL1 hfb
    obtain ⟨W1, hW1⟩ : ∃ W, W = w5.alloc (.cells #[.bool true, .slice i1 y1 z1, .slice (some ⟨b, o, none⟩) 2 z3] 65) := ⟨_, rfl⟩
    have hbw1 : Below w5.heap.size w5 W1 := by rw [hW1]; exact Bel.alloc (Bel.refl w5) _
    have hx1 : W1.heap[w5.heap.size]? = some (.cells #[.bool true, .slice i1 y1 z1, .slice (some ⟨b, o, none⟩) 2 z3] 65 (0, 0)) := by rw [hW1]; exact heap_alloc_new w5 _
    have hs1 : W1.heap.size = w5.heap.size + 1 := by rw [hW1]; simp
    have HW1 := Lib.hid hW1
    have HBW1 := Lib.hid hbw1
    have HX1 := Lib.hid hx1
    have HS1 := Lib.hid hs1
    clear hW1 hbw1 hx1 hs1
    go_wp2_with fail
    rw [← HW1.out]
    refine (read_any _ W1 7 i0 L0 A1 A2 N1 C1 N2 C2 (ItemAt.below GIT.out HBW1.out) HL0.out.1).mono ?_
    rintro e w2 ⟨v1, rfl, m1, m2⟩
    have hb02 : Below w5.heap.size w5 w2 := HBW1.out.trans (m2.mono HBW1.out.size)
    have p2 := cell_below hb02 g3
    have p3 := cell_below hb02 g4
    have p4 := cell_below hb02 g5
    have hx2 := (m2.block w5.heap.size (by rw [HS1.out]; omega)).trans HX1.out
    obtain ⟨r0, r1, r2⟩ := cells3 hx2
    have HB02 := Lib.hid hb02
    have M1 := Lib.hid m1
    have GIT2 := Lib.hid (ItemAt.below GIT'.out hb02)
    clear m1 m2 hb02 hx2 g0 g1 g2 g3 g4 g5 q0 q1 f0 f1
    go_wp2_with fail
    refine (read_any _ w2 7 i1x L1 A3 A4 N3 C3 N4 C4 GIT2.out HL0.out.2).mono ?_
    rintro e w3 ⟨v2, rfl, m3, m4⟩
    have hb03 : Below w5.heap.size w5 w3 := HB02.out.trans (m4.mono HB02.out.size)
    have hb3 := (hb03.block w.heap.size h0).trans HB5.out
    obtain ⟨q0, q1⟩ := cells2 hb3
    have f0 := frozen_of_row w3 w.heap.size 0 _ _ hb3
    have f1 := frozen_of_row w3 w.heap.size 1 _ _ hb3
    have hlt3 : w.heap.size < w3.heap.size := Nat.lt_of_lt_of_le h0 hb03.size
    have HB3 := Lib.hid hb3
    have HB03 := Lib.hid (HBL.out.trans (hb03.mono (Nat.le_of_lt h0)))
    have M3 := Lib.hid m3
    have HB34 := Lib.hid m4
    clear m3 m4 hb03 hb3 r0 r1 r2 p2 p3 p4
    obtain ⟨s0, hs0⟩ : ∃ s, s = readOk i0 := ⟨_, rfl⟩
    obtain ⟨s1, hs1⟩ : ∃ s, s = readOk i1x := ⟨_, rfl⟩
    rw [← hs0] at M1 HWD ⊢
    rw [← hs1] at M3 HWD ⊢
    have HS0 := Lib.hid hs0
    have HS1 := Lib.hid hs1
    clear hs0 hs1
    by_cases hok : s0 = true ∧ s1 = true
    · obtain ⟨rfl, rfl⟩ := hok
      obtain ⟨w1a, w1c, hv1, -, -, -⟩ := SliceAt.len (M1.out rfl)
      obtain ⟨w2a, w2c, hv2, -, -, -⟩ := SliceAt.len (M3.out rfl)
      have M1' := M1.out rfl
      have M3' := M3.out rfl
      obtain ⟨P, hP⟩ : ∃ P, P = i0.items.map It.bytes := ⟨_, rfl⟩
      obtain ⟨Q, hQ⟩ : ∃ P, P = i1x.items.map It.bytes := ⟨_, rfl⟩
      rw [← hP] at hv1 M1'
      rw [← hQ] at hv2 M3'
      have hfin : witDecode bs = (P, Q, 0) := by rw [HWD.out, if_pos ⟨rfl, rfl⟩, hP, hQ]
      have HF := Lib.hid hfin
      subst hv1 hv2
      have N1' := Lib.hid M1'
      have N3' := Lib.hid M3'
      clear hfin hP hQ M1' M3' M1 M3
      go_wp2_with fail
      have hbx := box2 HB3.out (.slice w1a P.length w1c) (.slice w2a Q.length w2c)
      obtain ⟨W, hW⟩ : ∃ W, W = (w3.setCell ⟨w.heap.size, 0, none⟩ (.slice w1a P.length w1c)).setCell ⟨w.heap.size, 1, none⟩ (.slice w2a Q.length w2c) := ⟨_, rfl⟩
      rw [← hW] at hbx ⊢
      obtain ⟨r0, r1⟩ := cells2 hbx.at_
      refine bodyPost_ret (v := .tuple #[.agg #[.slice w1a P.length w1c, .slice w2a Q.length w2c], .int .i64 ((0 : Nat) : Int)]) (by simp [results, Try.results16, go_sem, r0, r1]) rfl ?_
      rw [HF.out]
      have hfar : ∀ b, w.heap.size < b → W.heap[b]? = w3.heap[b]? := fun b hb => hbx.other b (by omega)
      have hs02 := HB02.out.size
      refine ⟨w1a, P.length, w1c, w2a, Q.length, w2c, rfl, ?_, ?_, HB03.out.trans (hbx.chg.toBelowAt (by omega) (fun k hk e => by omega))⟩
      · refine RowsAt.carry (RowsAt.below N1'.out HB34.out) (fun b _ hb => ?_) (fun b hb _ => hfar b ?_)
        all_goals
          rcases hb with hb | hb
          · have h9 : (w.alloc (.cells #[.slice none 0 0, .slice none 0 0] 24)).heap.size ≤ b := hb
            simp only [World.size_alloc] at h9
            first | (show w.heap.size ≤ b; omega) | omega
          · have h9 := HBW1.out.size
            first | (show w.heap.size ≤ b; omega) | omega
      · refine RowsAt.carry N3'.out (fun b _ hb => ?_) (fun b hb _ => hfar b ?_)
        all_goals
          rcases hb with hb | hb
          · have h9 : (w.alloc (.cells #[.slice none 0 0, .slice none 0 0] 24)).heap.size ≤ b := hb
            simp only [World.size_alloc] at h9
            first | (show w.heap.size ≤ b; omega) | omega
          · first | (show w.heap.size ≤ b; omega) | omega
    · have hfin : witDecode bs = ([], [], 210) := by rw [HWD.out, if_neg hok]
      have HF := Lib.hid hfin
      have hcase : s0 = false ∨ (s0 = true ∧ s1 = false) := by
        cases s0
        · exact .inl rfl
        · cases s1
          · exact .inr ⟨rfl, rfl⟩
          · exact absurd ⟨rfl, rfl⟩ hok
      clear hfin hok M1 M3 HWD
      rcases hcase with rfl | ⟨rfl, rfl⟩
      all_goals
        go_wp2_with fail
        have hbx := box2 HB3.out (.slice none 0 0) (.slice none 0 0)
        obtain ⟨W, hW⟩ : ∃ W, W = (w3.setCell ⟨w.heap.size, 0, none⟩ (.slice none 0 0)).setCell ⟨w.heap.size, 1, none⟩ (.slice none 0 0) := ⟨_, rfl⟩
        rw [← hW] at hbx ⊢
        obtain ⟨r0, r1⟩ := cells2 hbx.at_
        refine bodyPost_ret (v := .tuple #[.agg #[.slice none 0 0, .slice none 0 0], .int .i64 ((210 : Nat) : Int)]) (by simp [results, Try.results16, go_sem, r0, r1]) rfl ?_
        rw [HF.out]
        exact ⟨none, 0, 0, none, 0, 0, rfl, SliceAt.nil _ _ _ _, SliceAt.nil _ _ _ _, HB03.out.trans (hbx.chg.toBelowAt (by omega) (fun k hk e => by omega))⟩
  · have hfin : witDecode bs = ([], [], 210) := by
      refine witDecode_no bs e1 x HR.out ?_
      by_cases he : e1 = 0
      · by_cases hl : il = true
        · by_cases hy : y3 = 2
          · exact absurd ⟨he, hl, hy⟩ hgood
          · exact .inr (.inr (by rw [← HN3.out]; exact hy))
        · exact .inr (.inl (by rw [← HIL.out]; simpa using hl))
      · exact .inl he
    have HF := Lib.hid hfin
    have hcase : (((e1 : Nat) : Int) != 0) = true ∨ (e1 = 0 ∧ il = false) ∨ (e1 = 0 ∧ il = true ∧ (((y3 : Nat) : Int) != 2) = true) := by
      by_cases he : e1 = 0
      · by_cases hl : il = true
        · by_cases hy : y3 = 2
          · exact absurd ⟨he, hl, hy⟩ hgood
          · exact .inr (.inr ⟨he, hl, by simp; omega⟩)
        · exact .inr (.inl ⟨he, by simpa using hl⟩)
      · exact .inl (by simp; omega)
    clear hfin hgood
    rcases hcase with h | ⟨rfl, rfl⟩ | ⟨rfl, rfl, h⟩
    all_goals
      go_wp2_with fail
      have hbx := box2 HB5.out (.slice none 0 0) (.slice none 0 0)
      obtain ⟨W, hW⟩ : ∃ W, W = (w5.setCell ⟨w.heap.size, 0, none⟩ (.slice none 0 0)).setCell ⟨w.heap.size, 1, none⟩ (.slice none 0 0) := ⟨_, rfl⟩
      rw [← hW] at hbx ⊢
      obtain ⟨r0, r1⟩ := cells2 hbx.at_
      have hlw : w.heap.size < W.heap.size := by rw [hbx.size]; exact h0
      refine bodyPost_ret (v := .tuple #[.agg #[.slice none 0 0, .slice none 0 0], .int .i64 ((210 : Nat) : Int)]) (by simp [results, Try.results16, go_sem, r0, r1, hlw]) rfl ?_
      rw [HF.out]
      exact WDecd.bad HBL.out hbx
end Go.Proofs.Ytndkkgkcbbmnpaa
