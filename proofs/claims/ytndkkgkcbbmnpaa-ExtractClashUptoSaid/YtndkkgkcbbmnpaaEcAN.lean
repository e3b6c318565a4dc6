/-
  Contracts of witness.read and witness.Decode: who owns what they tell.
  Contract of extract.Told.
  Contract of pergolaref23.Told.
  Contracts of block.word, block.name, pergolaref19.word, pergolaref19.name.
-/
import Derived.Test.YtndkkgkcbbmnpaaEcAM
namespace Go.Pg
open Go.RowKit
theorem OwnList.weaken {α : Type} {A : (Nat → Prop) → World → List Value → α → Prop} {G G' : Nat → Prop} {n n' : Nat} {W : World} {e : TypeId} {sz : Nat} {v : Value} {l : List α} (h : OwnList A G n W e sz v l) (hG : ∀ b, G b → G' b) (hn : n' ≤ n) : OwnList A G' n' W e sz v l := by
  obtain ⟨F, h1, h2, h3⟩ := h
  exact ⟨F, fun b hb => ⟨hG b (h1 b hb).1, (h1 b hb).2⟩, h2, h3.lower hn⟩
end Go.Pg
namespace Go.Proofs.Ytndkkgkcbbmnpaa
open Go.RowKit Go.Pg
/-- texts that rise, in a slice of the call's own, or none -/
def ReaddO (F : Nat → Prop) (w : World) (x : It) (e : Ending) (w' : World) : Prop :=
  ∃ v, e = .returned (.tuple #[v, .bool (readOk x)]) ∧ (readOk x = true → OwnList rowR (fun b => F b ∧ b < w.heap.size) (w.heap.size + 1) w' 25 1 v (x.items.map It.bytes)) ∧ Below w.heap.size w w'

set_option maxRecDepth 100000 in
set_option maxHeartbeats 1000000 in
theorem readO_any (F : Nat → Prop) (w : World) (d : Nat) (x : It) (il : Bool) (a1 a2 : Option Addr) (n1 c1 n2 c2 : Nat) (h : ItemAt F w (d + 1) [.bool il, .slice a1 n1 c1, .slice a2 n2 c2] x) (hlen : x.items.length ≤ 1099511627776) :
    Calls Try.prog 48 #[.agg #[.bool il, .slice a1 n1 c1, .slice a2 n2 c2]] w (ReaddO F w x) := by
  obtain ⟨hil, a1', n1', c1', a2', n2', c2', e1, e2, -, hn⟩ := ItemAt.form h
  simp only [Value.slice.injEq] at e1 e2
  obtain ⟨rfl, rfl, rfl⟩ := e1
  obtain ⟨rfl, rfl, rfl⟩ := e2
  have hits := ItemAt.items h
  replace hits : ItemsAt (fun b => F b ∧ b < w.heap.size) w d (.slice a2 n2 c2) x.items := ItemsAt.carry hits (fun b hb hF => ⟨hF, hb⟩) (fun _ _ _ => rfl)
  obtain ⟨l, hl⟩ : ∃ l, l = x.items := ⟨_, rfl⟩
  rw [← hl] at hits hn hlen
  rw [← hn] at hlen
  obtain ⟨i0, hi, hz0, hz1, hz2⟩ := info_parts infoRow
  have HIL := Lib.hid hil
  have HL := Lib.hid hl
  have HN := Lib.hid hn
  have HITS := Lib.hid hits
  clear hil hl hn hits h
  go_enter Try.func48, Try.ntmps48
  go_wp2
  go_loopw [4, 10] (fun s i wr => ∃ k : Nat, k ≤ n2 ∧ i = .int .i64 k ∧ Hid (flat (l.take k) = true) ∧ Hid (OwnList rowR (fun b => F b ∧ b < w.heap.size) (w.heap.size + 1) wr 25 1 s ((l.take k).map It.bytes)) ∧
      Hid (Below w.heap.size w wr ∧ wr.heap[w.heap.size]? = some (.cells #[.bool il, .slice a1 n1 c1, .slice a2 n2 c2] 65 (0, 0)))) (fun _ i _ => n2 - (intOf i).toNat)
  case atStart => exact ⟨0, Nat.zero_le _, rfl, Lib.hid rfl, OwnList.nil, Bel.alloc (Bel.refl w) _, heap_alloc_new w _⟩
  case round =>
    obtain ⟨k, hk, rfl, HFL, HO, HB⟩ := hrel
    have hN := HN.out
    by_cases hlt : k < n2
    · rcases SliceAt.split HITS.out with ⟨_, h0⟩ | ⟨b, o, rfl, -, -, -⟩
      · omega
      have hwr := ItemsAt.below HITS.out HB.out.1
      obtain ⟨x1, y1, z1, x2, y2, z2, g0, g1, g2, git⟩ := ItemsAt.cell hwr k (by omega)
      have htk : (l.take (k + 1)).map It.bytes = (l.take k).map It.bytes ++ [(l[k]'(by omega)).bytes] := by
        rw [List.take_succ_eq_append_getElem (show k < l.length by omega), List.map_append]; rfl
      have hfl := flat_take_succ l k (by omega)
      have hno := flat_no l k (by omega)
      obtain ⟨y, hy⟩ : ∃ y, y = l[k]'(by omega) := ⟨_, rfl⟩
      rw [← hy] at g0 git htk hfl hno
      have HT := Lib.hid htk
      have hby := ItemAt.bytes git
      obtain ⟨q, hq⟩ : ∃ q, q = y.isList := ⟨_, rfl⟩
      rw [← hq] at g0 hfl hno
      obtain ⟨L, hL⟩ : ∃ L, L = (l.take k).map It.bytes := ⟨_, rfl⟩
      rw [← hL] at HO HT
      have hLl : L.length = k := by rw [hL]; simp; omega
      have HLL := Lib.hid hLl
      clear hwr hy htk hL hLl hN git hq
      cases q with
      | true =>
        have HNO := Lib.hid (hno rfl)
        clear hno hfl hby
        go_wp2_with fail
        go_ret2
        have hr : readOk x = false := by unfold readOk; rw [← HL.out, HNO.out]; rfl
        exact ⟨.slice none 0 0, by rw [hr]; rfl, (fun h => by rw [hr] at h; cases h), HB.out.1.alloc HB.out.1.size _⟩
      | false =>
        have HFL1 : Hid (flat (l.take (k + 1)) = true) := Lib.hid (by rw [hfl, HFL.out]; rfl)
        have hsw := (Array.getElem?_eq_some_iff.1 HB.out.2).1
        have howr := (HO.out).own
        have HB1 : Hid (Below w.heap.size w (wr.alloc (.cells #[.bool false, .slice x1 y1 z1, .slice x2 y2 z2] 65)) ∧ (wr.alloc (.cells #[.bool false, .slice x1 y1 z1, .slice x2 y2 z2] 65)).heap[w.heap.size]? = some (.cells #[.bool il, .slice a1 n1 c1, .slice (some ⟨b, o, none⟩) n2 c2] 65 (0, 0))) :=
          Lib.hid ⟨Bel.alloc HB.out.1 _, (Below.heap_alloc _ _ _ hsw).trans HB.out.2⟩
        have hO1 := (HO.out).call carriedRow (Bel.alloc (Bel.refl wr) (.cells #[.bool false, .slice x1 y1 z1, .slice x2 y2 z2] 65))
        have hrow : rowR (fun b => F b ∧ b < w.heap.size) (wr.alloc (.cells #[.bool false, .slice x1 y1 z1, .slice x2 y2 z2] 65)) [.slice x1 y1 z1] y.bytes := ⟨_, rfl, BytesAt.below hby (Bel.alloc (Bel.refl wr) _)⟩
        obtain ⟨R, hR1, hRo, hRs, hRn⟩ := hO1.push carriedRow hrow rfl (by decide) (fun b' _ hb' => ⟨hb', fun e => by have := (howr b' e).1; have := hb'.2; omega⟩) 25
        have hle : (L.length + [y.bytes].length) * 24 ≤ 140737488355328 := by rw [HLL.out]; simp; omega
        have hbase : w.heap.size + 1 ≤ ((wr.alloc (.cells #[.bool false, .slice x1 y1 z1, .slice x2 y2 z2] 65)).alloc (.cells [.slice x1 y1 z1].toArray 25)).heap.size := by simp; omega
        simp only [World.size_alloc] at hRs
        have HRN := Lib.hid hRn
        have HRO := Lib.hid hRo
        have HRS := Lib.hid hRs
        have HR1 := Lib.hid hR1
        clear hRn hO1 howr hRo hRs hR1 hrow hno hfl hby
        go_wp2_with (at_builtin; refine wpList_append_at rfl (.tmp 16) (.tmp 19) 22 rfl (w.heap.size + 1) 25 i0 (.slice none 0 0) 1 24 underlyingRows hi hz0 hz1 hz2 rfl (by decide) (by decide) HR1.out _ L rfl HRO.out _ [y.bytes] (fun _ => True) rfl HRS.out hle hbase ?_; intro v' w2 ho hg hm)
        have HOn := Lib.hid (HRN.out _ _ ho hg hm)
        have hown := (HRO.out).own
        have HB2 : Hid (Below w.heap.size w w2 ∧ w2.heap[w.heap.size]? = some (.cells #[.bool il, .slice a1 n1 c1, .slice (some ⟨b, o, none⟩) n2 c2] 65 (0, 0))) := by
          have hb1 := HB1.out.1
          have hbx := HB1.out.2
          have hlt' := (Array.getElem?_eq_some_iff.1 hbx).1
          refine ⟨(Bel.alloc hb1 _).grown hg (by simp; omega) (fun k hk => by have := (hown k hk).1; omega), ?_⟩
          rw [hg.block _ (by simp; omega) (fun e => by have := (hown _ e.symm).1; omega), Below.heap_alloc _ _ _ hlt']
          exact hbx
        clear ho hg hm hown
        go_roundw
        case rel => exact ⟨k + 1, by omega, num_eq (by omega), HFL1, by rw [HT.out]; exact HOn.out, HB2.out⟩
        case measure => simp [intOf]; omega
    · obtain rfl : k = n2 := by omega
      have hO := HO.out
      have hfl := HFL.out
      rw [List.take_of_length_le (by omega)] at hO hfl
      have hits := hO.at carriedRow (G' := fun b => F b ∧ b < w.heap.size ∨ w.heap.size + 1 ≤ b) (fun _ h _ => .inl h) (fun b h _ => .inr h) (by decide)
      obtain ⟨va, vc, hvv, -, -, -⟩ := SliceAt.len hits
      have hll : (l.map It.bytes).length ≤ 1152921504606846976 := by simp; omega
      obtain ⟨q0, q1, q2⟩ := cells3 HB.out.2
      have hsw := (Array.getElem?_eq_some_iff.1 HB.out.2).1
      have HFL' := Lib.hid hfl
      have HITS' := Lib.hid hits
      have HOO := Lib.hid hO
      clear hO hfl hits hN hvv
      cases il with
      | false =>
        go_wp2_with fail
        go_ret2
        have hr : readOk x = false := by unfold readOk; rw [← HIL.out]; simp
        exact ⟨_, by rw [hr]; rfl, (fun h => by rw [hr] at h; cases h), HB.out.1⟩
      | true =>
        go_wp2_with fail
        refine (rises_any _ wr _ _ HITS'.out hll).mono ?_
        rintro e w1 ⟨rfl, hb1⟩
        have hr : readOk x = rising (l.map It.bytes) := by unfold readOk; rw [← HIL.out, ← HL.out, HFL'.out]; rfl
        have HR := Lib.hid hr
        have HB1 := Lib.hid hb1
        clear hr hb1
        go_wp2_with fail
        go_ret2
        refine ⟨_, by rw [HR.out]; rfl, fun h => ?_, Bel.call HB.out.1 HB1.out⟩
        rw [← HL.out]
        exact HOO.out.call carriedRow HB1.out

/-- a witness, in slices of the call's own, or an empty one and a fault -/
def WDecdO (w : World) (r : List (List UInt8) × List (List UInt8) × Nat) (e : Ending) (w' : World) : Prop :=
  ∃ N0 a1 n1 c1 a2 n2 c2, e = .returned (.tuple #[.agg #[.slice a1 n1 c1, .slice a2 n2 c2], .int .i64 r.2.2]) ∧ w.heap.size < N0 ∧ OwnList rowR (fun b => w.heap.size ≤ b ∧ b < N0) N0 w' 25 1 (.slice a1 n1 c1) r.1 ∧
    OwnList rowR (fun b => w.heap.size ≤ b ∧ b < N0) N0 w' 25 1 (.slice a2 n2 c2) r.2.1 ∧ Below w.heap.size w w'
theorem WDecdO.bad {w W1 W : World} {o : Obj} (h1 : Below w.heap.size w W1) (hb : Box2 W1 W w.heap.size (.slice none 0 0) (.slice none 0 0) 24) :
    WDecdO w ([], [], 210) (.returned (.tuple #[.agg #[.slice none 0 0, .slice none 0 0], .int .i64 ((210 : Nat) : Int)])) (W.alloc o) :=
  ⟨w.heap.size + 1, none, 0, 0, none, 0, 0, rfl, Nat.lt_succ_self _, OwnList.nil, OwnList.nil, (h1.trans (hb.chg.toBelowAt h1.size (fun k hk e => by omega))).alloc (by rw [hb.size]; exact h1.size) _⟩

set_option maxRecDepth 100000 in
set_option maxHeartbeats 4000000 in
theorem wdecodeO_any (F0 : Nat → Prop) (w : World) (a : Option Addr) (n c : Nat) (bs : List UInt8) (h0 : BytesAt F0 w (.slice a n c) bs) (hn : n ≤ 1099511627776) :
    Calls Try.prog 16 #[.slice a n c] w (WDecdO w (witDecode bs)) := by
  have hnl : n = bs.length := by
    obtain ⟨a', c', hv, h1, -⟩ := h0
    simp only [Value.slice.injEq] at hv
    exact hv.2.1
  obtain ⟨e1, x, hr⟩ : ∃ e1 x, rdWhole bs = (e1, x) := ⟨(rdWhole bs).1, (rdWhole bs).2, rfl⟩
  have hcall := decode_any F0 (w.alloc (.cells #[.slice none 0 0, .slice none 0 0] 24)) a n c bs (BytesAt.below h0 (Bel.alloc (Bel.refl w) _)) (by omega)
  rw [hr] at hcall
  have HC := Lib.hid hcall
  have HR := Lib.hid hr
  have HNL := Lib.hid hnl
  clear h0 hnl hr hcall
  go_enter Try.func16, Try.ntmps16
  go_wp2_with fail
  refine HC.out.mono ?_
  rintro e5 w5 ⟨il, i1, y1, z1, i3, y3, z3, rfl, k1, k2⟩
  have hsz := k2.size
  simp only [World.size_alloc] at hsz
  have h0 : w.heap.size < w5.heap.size := by omega
  have hb5 := (k2.block w.heap.size (by simp)).trans (heap_alloc_new w _)
  have hbel := (Bel.alloc (Bel.refl w) (.cells #[.slice none 0 0, .slice none 0 0] 24)).trans (k2.mono (by simp))
  have HB5 := Lib.hid hb5
  have HBL := Lib.hid hbel
  obtain ⟨hil, a1', n1', c1', a2', n2', c2', e1', e2', -, hn3⟩ := ItemAt.form k1
  simp only [Value.slice.injEq] at e1' e2'
  obtain ⟨rfl, rfl, rfl⟩ := e1'
  obtain ⟨rfl, rfl, rfl⟩ := e2'
  obtain ⟨q0, q1⟩ := cells2 hb5
  have f0 := frozen_of_row w5 w.heap.size 0 _ _ hb5
  have f1 := frozen_of_row w5 w.heap.size 1 _ _ hb5
  have K1 := Lib.hid k1
  have HIL := Lib.hid hil
  have HN3 := Lib.hid hn3
  clear hb5 k1 k2 hsz hbel hil hn3
  by_cases hgood : e1 = 0 ∧ il = true ∧ y3 = 2
  · obtain ⟨rfl, rfl, rfl⟩ := hgood
    obtain ⟨hb, hfit⟩ := rdWhole_sound bs x HR.out
    have hbl : x.whole = n := by rw [← It.enc_length, ← hb]; exact HNL.out.symm
    obtain ⟨i0, i1x, hi⟩ : ∃ i0 i1x, x.items = [i0, i1x] := by
      have := HN3.out
      match x.items, this with
      | [i0, i1x], _ => exact ⟨i0, i1x, rfl⟩
    have hits := ItemAt.items K1.out
    rw [hi] at hits
    replace hits := ItemsAt.carry hits (F' := fun b => (w.alloc (.cells #[.slice none 0 0, .slice none 0 0] 24)).heap.size ≤ b ∧ b < w5.heap.size) (fun b hlt hb => ⟨hb, hlt⟩) (fun _ _ _ => rfl)
    have hl0 : i0.items.length ≤ 1099511627776 ∧ i1x.items.length ≤ 1099511627776 := by
      have h1 := It.body_le_whole x
      have h2 : x.body = It.wholes x.items + x.bytes.length := by rw [It.body_eq]; omega
      rw [hi] at h2
      simp only [It.wholes] at h2
      have h3 := It.body_le_whole i0
      have h4 := It.body_le_whole i1x
      have h5 := It.length_le_wholes i0.items
      have h6 := It.length_le_wholes i1x.items
      have h7 := It.body_eq i0
      have h8 := It.body_eq i1x
      omega
    have hwd := witDecode_pos bs x i0 i1x HR.out HIL.out.symm hi
    have HWD := Lib.hid hwd
    have HI := Lib.hid hi
    have HL0 := Lib.hid hl0
    rcases SliceAt.split hits with ⟨hh, _⟩ | ⟨b, o, rfl, -, -, hfb⟩
    · cases hh
    obtain ⟨A1, N1, C1, A2, N2, C2, g0, g1, g2, git⟩ := ItemsAt.cell hits 0 (by simp)
    obtain ⟨A3, N3, C3, A4, N4, C4, g3, g4, g5, git'⟩ := ItemsAt.cell hits 1 (by simp)
    simp only [Nat.zero_mul, Nat.one_mul, Nat.add_zero, List.getElem_cons_zero, List.getElem_cons_succ] at g0 g1 g2 g3 g4 g5 git git'
    have hblt := cell_lt g0
    have hbne : b ≠ w.heap.size := by
      have h9 : (w.alloc (.cells #[.slice none 0 0, .slice none 0 0] 24)).heap.size ≤ b := hfb.1
      simp only [World.size_alloc] at h9; omega
    obtain ⟨L0, hL0⟩ : ∃ L, L = i0.isList := ⟨_, rfl⟩
    obtain ⟨L1, hL1⟩ : ∃ L, L = i1x.isList := ⟨_, rfl⟩
    rw [← hL0] at g0 git
    rw [← hL1] at g3 git'
    have GIT := Lib.hid git
    have GIT' := Lib.hid git'
    clear hb hfit hbl hits hl0 hwd hi git git' hL0 hL1 hfb
    obtain ⟨W1, hW1⟩ : ∃ W, W = w5.alloc (.cells #[.bool true, .slice i1 y1 z1, .slice (some ⟨b, o, none⟩) 2 z3] 65) := ⟨_, rfl⟩
    have hbw1 : Below w5.heap.size w5 W1 := by rw [hW1]; exact Bel.alloc (Bel.refl w5) _
    have hx1 : W1.heap[w5.heap.size]? = some (.cells #[.bool true, .slice i1 y1 z1, .slice (some ⟨b, o, none⟩) 2 z3] 65 (0, 0)) := by rw [hW1]; exact heap_alloc_new w5 _
    have hs1 : W1.heap.size = w5.heap.size + 1 := by rw [hW1]; simp
    have HW1 := Lib.hid hW1
    have HBW1 := Lib.hid hbw1
    have HX1 := Lib.hid hx1
    have HS1 := Lib.hid hs1
    clear hW1 hbw1 hx1 hs1
    go_wp2_with fail
    rw [← HW1.out]
    refine (readO_any _ W1 7 i0 L0 A1 A2 N1 C1 N2 C2 (ItemAt.below GIT.out HBW1.out) HL0.out.1).mono ?_
    rintro e w2 ⟨v1, rfl, m1, m2⟩
    have hb02 : Below w5.heap.size w5 w2 := HBW1.out.trans (m2.mono HBW1.out.size)
    have p2 := cell_below hb02 g3
    have p3 := cell_below hb02 g4
    have p4 := cell_below hb02 g5
    have hx2 := (m2.block w5.heap.size (by rw [HS1.out]; omega)).trans HX1.out
    obtain ⟨r0, r1, r2⟩ := cells3 hx2
    have HB02 := Lib.hid hb02
    have M1 := Lib.hid m1
    have GIT2 := Lib.hid (ItemAt.below GIT'.out hb02)
    have HBM := Lib.hid m2
    have HSW1 := HS1
    clear m1 m2 hb02 hx2 g0 g1 g2 g3 g4 g5 q0 q1 f0 f1
    go_wp2_with fail
    refine (readO_any _ w2 7 i1x L1 A3 A4 N3 C3 N4 C4 GIT2.out HL0.out.2).mono ?_
    rintro e w3 ⟨v2, rfl, m3, m4⟩
    have hb03 : Below w5.heap.size w5 w3 := HB02.out.trans (m4.mono HB02.out.size)
    have hb3 := (hb03.block w.heap.size h0).trans HB5.out
    obtain ⟨q0, q1⟩ := cells2 hb3
    have f0 := frozen_of_row w3 w.heap.size 0 _ _ hb3
    have f1 := frozen_of_row w3 w.heap.size 1 _ _ hb3
    have hlt3 : w.heap.size < w3.heap.size := Nat.lt_of_lt_of_le h0 hb03.size
    have HB3 := Lib.hid hb3
    have HB03 := Lib.hid (HBL.out.trans (hb03.mono (Nat.le_of_lt h0)))
    have M3 := Lib.hid m3
    have HB34 := Lib.hid m4
    clear m3 m4 hb03 hb3 r0 r1 r2 p2 p3 p4
    obtain ⟨s0, hs0⟩ : ∃ s, s = readOk i0 := ⟨_, rfl⟩
    obtain ⟨s1, hs1⟩ : ∃ s, s = readOk i1x := ⟨_, rfl⟩
    rw [← hs0] at M1 HWD ⊢
    rw [← hs1] at M3 HWD ⊢
    have HS0 := Lib.hid hs0
    have HS1 := Lib.hid hs1
    clear hs0 hs1
    by_cases hok : s0 = true ∧ s1 = true
    · obtain ⟨rfl, rfl⟩ := hok
      obtain ⟨w1a, w1c, hv1, -, -, -⟩ := OwnList.len (M1.out rfl)
      obtain ⟨w2a, w2c, hv2, -, -, -⟩ := OwnList.len (M3.out rfl)
      have M1' := M1.out rfl
      have M3' := M3.out rfl
      obtain ⟨P, hP⟩ : ∃ P, P = i0.items.map It.bytes := ⟨_, rfl⟩
      obtain ⟨Q, hQ⟩ : ∃ P, P = i1x.items.map It.bytes := ⟨_, rfl⟩
      rw [← hP] at hv1 M1'
      rw [← hQ] at hv2 M3'
      have hfin : witDecode bs = (P, Q, 0) := by rw [HWD.out, if_pos ⟨rfl, rfl⟩, hP, hQ]
      have HF := Lib.hid hfin
      subst hv1 hv2
      have N1' := Lib.hid M1'
      have N3' := Lib.hid M3'
      clear hfin hP hQ M1' M3' M1 M3
      go_wp2_with fail
      have hbx := box2 HB3.out (.slice w1a P.length w1c) (.slice w2a Q.length w2c)
      obtain ⟨W, hW⟩ : ∃ W, W = (w3.setCell ⟨w.heap.size, 0, none⟩ (.slice w1a P.length w1c)).setCell ⟨w.heap.size, 1, none⟩ (.slice w2a Q.length w2c) := ⟨_, rfl⟩
      rw [← hW] at hbx ⊢
      obtain ⟨r0, r1⟩ := cells2 hbx.at_
      refine bodyPost_ret (v := .tuple #[.agg #[.slice w1a P.length w1c, .slice w2a Q.length w2c], .int .i64 ((0 : Nat) : Int)]) (by simp [results, Try.results16, go_sem, r0, r1]) rfl ?_
      rw [HF.out]
      have hfar : ∀ b, w.heap.size < b → W.heap[b]? = w3.heap[b]? := fun b hb => hbx.other b (by omega)
      have hs02 := HB02.out.size
      have hs1 := HSW1.out
      have hsW1 : W1.heap.size ≤ w2.heap.size := HBM.out.size
      have h00 : w.heap.size < W1.heap.size := by rw [hs1]; exact Nat.lt_succ_of_lt h0
      refine ⟨W1.heap.size + 1, w1a, P.length, w1c, w2a, Q.length, w2c, rfl, by omega, ?_, ?_, HB03.out.trans (hbx.chg.toBelowAt (by omega) (fun k hk e => by omega))⟩
      · refine OwnList.weaken (OwnList.carry carriedRow (N1'.out.call carriedRow HB34.out) (by rw [hbx.size]; exact Nat.le_refl _) (fun b hb _ => hfar b ?_) (fun k hk => hfar k ?_)) (fun b hb => ?_) (by omega)
        · have h9 := hb.1.1; simp only [World.size_alloc] at h9; omega
        · have := (N1'.out.own k hk).1; omega
        · have h9 := hb.1.1; have := hb.2; simp only [World.size_alloc] at h9; exact ⟨by omega, by omega⟩
      · refine OwnList.weaken (OwnList.carry carriedRow N3'.out (by rw [hbx.size]; exact Nat.le_refl _) (fun b hb _ => hfar b ?_) (fun k hk => hfar k ?_)) (fun b hb => ?_) (by omega)
        · have h9 := hb.1.1; simp only [World.size_alloc] at h9; omega
        · have := (N3'.out.own k hk).1; omega
        · have h9 := hb.1.1; have := hb.1.2; simp only [World.size_alloc] at h9; exact ⟨by omega, by omega⟩
    · have hfin : witDecode bs = ([], [], 210) := by rw [HWD.out, if_neg hok]
      have HF := Lib.hid hfin
      have hcase : s0 = false ∨ (s0 = true ∧ s1 = false) := by
        cases s0
        · exact .inl rfl
        · cases s1
          · exact .inr ⟨rfl, rfl⟩
          · exact absurd ⟨rfl, rfl⟩ hok
      clear hfin hok M1 M3 HWD
      rcases hcase with rfl | ⟨rfl, rfl⟩
      all_goals
        go_wp2_with fail
        have hbx := box2 HB3.out (.slice none 0 0) (.slice none 0 0)
        obtain ⟨W, hW⟩ : ∃ W, W = (w3.setCell ⟨w.heap.size, 0, none⟩ (.slice none 0 0)).setCell ⟨w.heap.size, 1, none⟩ (.slice none 0 0) := ⟨_, rfl⟩
        rw [← hW] at hbx ⊢
        obtain ⟨r0, r1⟩ := cells2 hbx.at_
        refine bodyPost_ret (v := .tuple #[.agg #[.slice none 0 0, .slice none 0 0], .int .i64 ((210 : Nat) : Int)]) (by simp [results, Try.results16, go_sem, r0, r1]) rfl ?_
        rw [HF.out]
        exact ⟨w.heap.size + 1, none, 0, 0, none, 0, 0, rfl, Nat.lt_succ_self _, OwnList.nil, OwnList.nil, HB03.out.trans (hbx.chg.toBelowAt (by omega) (fun k hk e => by omega))⟩
  · have hfin : witDecode bs = ([], [], 210) := by
      refine witDecode_no bs e1 x HR.out ?_
      by_cases he : e1 = 0
      · by_cases hl : il = true
        · by_cases hy : y3 = 2
          · exact absurd ⟨he, hl, hy⟩ hgood
          · exact .inr (.inr (by rw [← HN3.out]; exact hy))
        · exact .inr (.inl (by rw [← HIL.out]; simpa using hl))
      · exact .inl he
    have HF := Lib.hid hfin
    have hcase : (((e1 : Nat) : Int) != 0) = true ∨ (e1 = 0 ∧ il = false) ∨ (e1 = 0 ∧ il = true ∧ (((y3 : Nat) : Int) != 2) = true) := by
      by_cases he : e1 = 0
      · by_cases hl : il = true
        · by_cases hy : y3 = 2
          · exact absurd ⟨he, hl, hy⟩ hgood
          · exact .inr (.inr ⟨he, hl, by simp; omega⟩)
        · exact .inr (.inl ⟨he, by simpa using hl⟩)
      · exact .inl (by simp; omega)
    clear hfin hgood
    rcases hcase with h | ⟨rfl, rfl⟩ | ⟨rfl, rfl, h⟩
    all_goals
      go_wp2_with fail
      have hbx := box2 HB5.out (.slice none 0 0) (.slice none 0 0)
      obtain ⟨W, hW⟩ : ∃ W, W = (w5.setCell ⟨w.heap.size, 0, none⟩ (.slice none 0 0)).setCell ⟨w.heap.size, 1, none⟩ (.slice none 0 0) := ⟨_, rfl⟩
      rw [← hW] at hbx ⊢
      obtain ⟨r0, r1⟩ := cells2 hbx.at_
      have hlw : w.heap.size < W.heap.size := by rw [hbx.size]; exact h0
      refine bodyPost_ret (v := .tuple #[.agg #[.slice none 0 0, .slice none 0 0], .int .i64 ((210 : Nat) : Int)]) (by simp [results, Try.results16, go_sem, r0, r1, hlw]) rfl ?_
      rw [HF.out]
      exact WDecdO.bad HBL.out hbx
end Go.Proofs.Ytndkkgkcbbmnpaa
namespace Go.Pg
theorem whole_memE (l : List (List UInt8)) (x : List UInt8) (h : x ∈ l) : x.length ≤ It.wholes (l.map .text) := by
  induction l with
  | nil => cases h
  | cons y r ih =>
    simp only [List.map_cons, It.wholes]
    rcases List.mem_cons.1 h with rfl | h
    · have := It.body_le_whole (.text x); simp only [It.body] at this; omega
    · have := ih h; omega
theorem textsI_leE (l : List (List UInt8)) : It.wholes (l.map .text) ≤ (textsI l).whole := by
  have := sz_ge (It.wholes (l.map .text))
  unfold textsI; simp only [It.whole]; omega
theorem witI_leE (N C : List (List UInt8)) : (textsI N).whole + (textsI C).whole ≤ (witI N C).whole := by
  have := sz_ge (It.wholes [textsI N, textsI C])
  unfold witI; simp only [It.whole]
  have : It.wholes [textsI N, textsI C] = (textsI N).whole + (textsI C).whole := by simp [It.wholes]
  omega
/-- what was read is no more than its bytes -/
theorem witDecode_smallE (B : List UInt8) (N C : List (List UInt8)) (h : witDecode B = (N, C, 0)) : (witI N C).whole = B.length ∧ N.length ≤ B.length ∧ C.length ≤ B.length ∧ (∀ x ∈ N, x.length ≤ B.length) ∧ (∀ x ∈ C, x.length ≤ B.length) := by
  obtain ⟨-, h2, -⟩ := witDecode_sound B N C h
  obtain ⟨h3, -⟩ := rdWhole_sound B _ h2
  have hw : (witI N C).whole = B.length := by rw [← It.enc_length, ← h3]
  have h4 := witI_leE N C
  have h5 := textsI_leE N
  have h6 := textsI_leE C
  have h7 := It.length_le_wholes (N.map .text)
  have h8 := It.length_le_wholes (C.map .text)
  rw [List.length_map] at h7 h8
  exact ⟨hw, by omega, by omega, fun x hx => by have := whole_memE N x hx; omega, fun x hx => by have := whole_memE C x hx; omega⟩
theorem witDecode_len (B : List UInt8) : (witDecode B).1.length ≤ B.length ∧ (witDecode B).2.1.length ≤ B.length ∧ (∀ x ∈ (witDecode B).1, x.length ≤ B.length) ∧ (∀ x ∈ (witDecode B).2.1, x.length ≤ B.length) := by
  rcases witDecode_cases B with ⟨N, C, h⟩ | h
  · obtain ⟨-, h2, h3, h4, h5⟩ := witDecode_smallE B N C h
    rw [h]; exact ⟨h2, h3, h4, h5⟩
  · rw [h]; simp
theorem OwnList.one {G : Nat → Prop} {n : Nat} {W : World} {e : TypeId} {v : Value} {l : List (List UInt8)} (h : OwnList rowR G n W e 1 v l) : OwnAt W n e 1 (rowR G W) v l := by
  obtain ⟨F, h1, h2, h3⟩ := h
  exact h3.mono fun cs x _ hx => carriedRow.carry hx (fun b _ hb => (h1 b hb).1) (fun _ _ _ => rfl)
end Go.Pg
namespace Go.Proofs.Ytndkkgkcbbmnpaa
open Go.RowKit Go.Pg

set_option maxRecDepth 100000 in
set_option maxHeartbeats 4000000 in
theorem told_any (F : Nat → Prop) (w : World) (a : Option Addr) (n c : Nat) (bs : List UInt8) (h : BytesAt F w (.slice a n c) bs) (hn : n ≤ 1073741824) :
    Calls Try.prog 38 #[.slice a n c] w (SortD w ((witDecode bs).1 ++ (witDecode bs).2.1)) := by
  have hnl := (BytesAt.n h).1
  obtain ⟨l1, l2, l3, l4⟩ := witDecode_len bs
  have hd := wdecodeO_any F w a n c bs h (by omega)
  obtain ⟨N, C, d, hD⟩ : ∃ N C d, witDecode bs = (N, C, d) := ⟨_, _, _, rfl⟩
  rw [hD] at l1 l2 l3 l4 hd
  rw [hD]
  simp only at l1 l2 l3 l4 ⊢
  obtain ⟨i0, hi, hz0, hz1, hz2⟩ := info_parts infoRow
  have HL1 := Lib.hid l1
  have HL2 := Lib.hid l2
  have HL3 := Lib.hid l3
  have HL4 := Lib.hid l4
  have HNL := Lib.hid hnl
  have HDEC := Lib.hid hd
  clear l1 l2 l3 l4 hnl hd hD h
  go_enter Try.func38, Try.ntmps38
  go_wp2_with fail
  refine HDEC.out.mono ?_
  rintro e w3 ⟨N0, a1, n1, c1, a2, n2, c2, rfl, hN0, ho1, ho2, hb3⟩
  try simp only at ho1 ho2 ⊢
  obtain ⟨W3, hW3⟩ : ∃ W : World, W = w3.alloc (.cells #[.slice a1 n1 c1, .slice a2 n2 c2] 24) := ⟨_, rfl⟩
  have hbx : Below w3.heap.size w3 W3 := by rw [hW3]; exact Bel.alloc (Bel.refl w3) _
  have hk3 : W3.heap[w3.heap.size]? = some (.cells #[.slice a1 n1 c1, .slice a2 n2 c2] 24 (0, 0)) := by rw [hW3]; exact heap_alloc_new w3 _
  have hsW : W3.heap.size = w3.heap.size + 1 := by rw [hW3]; simp
  obtain ⟨p0, p1⟩ := cells2 hk3
  have hO1 := (ho1.call carriedRow hbx)
  have hO2 := (ho2.call carriedRow hbx)
  have hbase : N0 ≤ W3.heap.size ∨ (a1 = none ∧ a2 = none) := by
    by_cases hle : N0 ≤ W3.heap.size
    · exact .inl hle
    · refine .inr ⟨?_, ?_⟩
      · cases a1 with
        | none => rfl
        | some ad => have := ho1.own ad.block rfl; omega
      · cases a2 with
        | none => rfl
        | some ad => have := ho2.own ad.block rfl; omega
  have hlow1 : OwnList rowR (fun b => w.heap.size ≤ b ∧ b < N0) (min N0 W3.heap.size) W3 25 1 (.slice a1 n1 c1) N := hO1.weaken (fun _ h => h) (Nat.min_le_left _ _)
  have hown := OwnList.one hlow1
  have hsrc : SliceAt (fun _ => True) W3 1 (rowR (fun b => w.heap.size ≤ b ∧ b < N0) W3) (.slice a2 n2 c2) C := (OwnList.one hO2).at (fun _ _ _ _ => trivial) (by decide)
  have hle : (N.length + C.length) * 24 ≤ 140737488355328 := by have := HL1.out; have := HL2.out; have := HNL.out; omega
  have HW3 := Lib.hid hW3
  have HOWN := Lib.hid hown
  have HSRC := Lib.hid hsrc
  have HB3 := Lib.hid (Bel.call hb3 hbx)
  have HO1 := Lib.hid hO1
  have HBASE := Lib.hid hbase
  have HN0 := Lib.hid hN0
  clear ho1 ho2 hb3 hbx hk3 hsW hO1 hO2 hlow1 hown hsrc hbase hN0 hW3
  go_wp2_with (at_builtin; (try rw [← HW3.out]); refine wpList_append_at rfl (.tmp 11) (.tmp 13) 22 rfl (min N0 W3.heap.size) 25 i0 (.slice none 0 0) 1 24 underlyingRows hi hz0 hz1 hz2 rfl (by decide) (by decide) (fun cs x hx => rowR.one cs x hx) (.slice a1 n1 c1) N rfl HOWN.out (.slice a2 n2 c2) C (fun _ => True) rfl HSRC.out hle (Nat.min_le_right _ _) ?next)
  case next =>
  intro v' w4 ho hg hm
  have hrows : RowsAt (fresh w) w4 v' (N ++ C) := by
    have h1 : OwnAt w4 (min N0 W3.heap.size) 25 1 (rowR (fresh w) w4) v' (N ++ C) := ho.mono fun cs x _ hx => carriedRow.carry hx (fun b _ hb => hb.1) (fun b hb hlt => hg.block b hlt (fun e => by
      have h2 := (HO1.out.own b e.symm).1
      have h3 := hb.2
      omega))
    exact h1.at (fun b _ hb _ => by
      have h2 := HN0.out
      have h3 := HB3.out.size
      show w.heap.size ≤ b
      have : min N0 W3.heap.size ≤ b := hb
      omega) (by decide)
  obtain ⟨a4, c4, hv4, -, -, -⟩ := ho.len
  obtain ⟨m4, hm4⟩ : ∃ m, m = (N ++ C).length := ⟨_, rfl⟩
  rw [← hm4] at hv4
  subst hv4
  have hb4 : Below w.heap.size w w4 := HB3.out.grown hg HB3.out.size (fun k hk => by have := (HO1.out.own k hk).1; have := HN0.out; omega)
  have hm4b : m4 ≤ 1099511627776 := by rw [hm4, List.length_append]; have := HL1.out; have := HL2.out; have := HNL.out; omega
  have hcall := sorted_any (fresh w) w4 a4 m4 c4 (N ++ C) hrows hm4b (fun x hx => by
    have := HNL.out
    rcases List.mem_append.1 hx with hx | hx
    · have := HL3.out x hx; omega
    · have := HL4.out x hx; omega)
  have HCALL := Lib.hid hcall
  have HB4 := Lib.hid hb4
  clear ho hg hm hrows hm4 hb4 hcall p0 p1
  go_wp2_with fail
  refine HCALL.out.mono ?_
  rintro e w5 ⟨a5, n5, c5, ts, rfl, r1, r2, hb5⟩
  have HR1 := Lib.hid r1
  have HR2 := Lib.hid r2
  have HB5 := Lib.hid hb5
  clear r1 r2 hb5
  go_wp2_with fail
  go_ret
  exact ⟨a5, n5, c5, ts, rfl, RowsAt.carry HR1.out (fun b _ hb => Nat.le_trans HB4.out.size hb) (fun _ _ _ => rfl), HR2.out, Bel.call HB4.out HB5.out⟩
end Go.Proofs.Ytndkkgkcbbmnpaa
namespace Go.Pg
open Go.RowKit
/-- texts laid in, one behind the other -/
def puts (l : List (List UInt8)) : List (List UInt8) := l.foldl put []
theorem puts_snoc (l : List (List UInt8)) (x : List UInt8) : puts (l ++ [x]) = put (puts l) x := by simp [puts]
theorem put_mem (l : List (List UInt8)) (b x : List UInt8) : x ∈ put l b ↔ x ∈ l ∨ x = b := by
  induction l with
  | nil => simp [put]
  | cons y r ih =>
    simp only [put]
    split
    · simp only [List.mem_cons, ih, or_assoc]
    · split
      · rename_i h; subst h; simp only [List.mem_cons]
        constructor
        · exact fun h => .inl h
        · rintro (h | h)
          · exact h
          · exact .inl h
      · simp only [List.mem_cons]
        constructor
        · rintro (h | h)
          · exact .inr h
          · exact .inl h
        · rintro (h | h)
          · exact .inr h
          · exact .inl h
theorem put_length (l : List (List UInt8)) (b : List UInt8) : (put l b).length ≤ l.length + 1 := by
  induction l with
  | nil => simp [put]
  | cons y r ih =>
    simp only [put]
    split
    · simp; omega
    · split <;> simp
theorem cmp_lt (x y : List UInt8) : (Lib.compareBytes x y < 0) ↔ x < y := decide_eq_decide.1 (lt_cmp x y)
theorem put_rising (l : List (List UInt8)) (b : List UInt8) (h : l.Pairwise (· < ·)) : (put l b).Pairwise (· < ·) := by
  induction l with
  | nil => simp [put]
  | cons y r ih =>
    obtain ⟨h1, h2⟩ := List.pairwise_cons.1 h
    simp only [put]
    split
    · rename_i hlt
      refine List.pairwise_cons.2 ⟨fun z hz => ?_, ih h2⟩
      rcases (put_mem _ _ _).1 hz with hz | rfl
      · exact h1 z hz
      · exact (cmp_lt _ _).1 hlt
    · rename_i hge
      split
      · exact h
      · rename_i hne
        have hb : b < y := by
          have h3 : ¬ y < b := fun e => hge ((cmp_lt _ _).2 e)
          rcases Std.lt_trichotomy (α := List UInt8) y b with h4 | h4 | h4
          · exact absurd h4 h3
          · exact absurd h4 hne
          · exact h4
        refine List.pairwise_cons.2 ⟨fun z hz => ?_, h⟩
        rcases List.mem_cons.1 hz with rfl | hz
        · exact hb
        · exact List.lt_trans hb (h1 z hz)
theorem puts_of (l m : List (List UInt8)) (h : m.Pairwise (· < ·)) : (l.foldl put m).Pairwise (· < ·) ∧ (l.foldl put m).length ≤ l.length + m.length ∧ ∀ x, x ∈ l.foldl put m ↔ x ∈ m ∨ x ∈ l := by
  induction l generalizing m with
  | nil => exact ⟨h, by simp, by simp⟩
  | cons y r ih =>
    obtain ⟨i1, i2, i3⟩ := ih (put m y) (put_rising m y h)
    have := put_length m y
    refine ⟨i1, by simp only [List.foldl_cons, List.length_cons]; omega, fun x => ?_⟩
    rw [List.foldl_cons, i3, put_mem, List.mem_cons, or_assoc]
theorem puts_rising (l : List (List UInt8)) : (puts l).Pairwise (· < ·) := (puts_of l [] List.Pairwise.nil).1
theorem puts_mem (l : List (List UInt8)) (x : List UInt8) : x ∈ puts l ↔ x ∈ l := by
  rw [puts, (puts_of l [] List.Pairwise.nil).2.2]; simp
theorem puts_small (l : List (List UInt8)) : (puts l).length ≤ l.length ∧ ∀ x, x ∈ puts l → x ∈ l := ⟨by have := (puts_of l [] List.Pairwise.nil).2.1; simpa [puts] using this, fun x hx => (puts_mem l x).1 hx⟩
/-- rising lists of the same things are the same -/
theorem rising_ext : ∀ (a b : List (List UInt8)) (_ : a.Pairwise (· < ·)) (_ : b.Pairwise (· < ·)) (_ : ∀ x, x ∈ a ↔ x ∈ b), a = b
  | [], [], _, _, _ => rfl
  | [], y :: r, _, _, h => by have := (h y).2 (List.mem_cons_self ..); cases this
  | x :: q, [], _, _, h => by have := (h x).1 (List.mem_cons_self ..); cases this
  | x :: q, y :: r, ha, hb, h => by
    obtain ⟨a1, a2⟩ := List.pairwise_cons.1 ha
    obtain ⟨b1, b2⟩ := List.pairwise_cons.1 hb
    have hxy : x = y := by
      rcases List.mem_cons.1 ((h x).1 (List.mem_cons_self ..)) with e | e
      · exact e
      · rcases List.mem_cons.1 ((h y).2 (List.mem_cons_self ..)) with e2 | e2
        · exact e2.symm
        · exact absurd (List.lt_trans (b1 x e) (a1 y e2)) (List.lt_irrefl y)
    subst hxy
    have : q = r := rising_ext q r a2 b2 fun z => by
      constructor
      · intro hz
        rcases List.mem_cons.1 ((h z).1 (List.mem_cons_of_mem _ hz)) with rfl | e
        · exact absurd (a1 z hz) (List.lt_irrefl z)
        · exact e
      · intro hz
        rcases List.mem_cons.1 ((h z).2 (List.mem_cons_of_mem _ hz)) with rfl | e
        · exact absurd (b1 z hz) (List.lt_irrefl z)
        · exact e
    rw [this]
end Go.Pg
namespace Go.Proofs.Ytndkkgkcbbmnpaa
open Go.RowKit Go.Pg

/-- rows in new memory -/
def RowsD (w : World) (l : List (List UInt8)) (e : Ending) (w' : World) : Prop :=
  ∃ a n c, e = .returned (.slice a n c) ∧ RowsAt (fresh w) w' (.slice a n c) l ∧ Below w.heap.size w w'

set_option maxRecDepth 100000 in
set_option maxHeartbeats 8000000 in
theorem rtold_any (F : Nat → Prop) (w : World) (a : Option Addr) (n c : Nat) (bs : List UInt8) (h : BytesAt F w (.slice a n c) bs) (hn : n ≤ 1048576) :
    Calls Try.prog 39 #[.slice a n c] w (RowsD w (puts ((witDecode bs).1 ++ (witDecode bs).2.1))) := by
  have hnl := (BytesAt.n h).1
  obtain ⟨l1, l2, l3, l4⟩ := witDecode_len bs
  have hd := rwdecode_any F w a n c bs h hn
  rw [refDecode_eq] at hd
  obtain ⟨N, C, d, hD⟩ := triple (witDecode bs)
  rw [hD] at l1 l2 l3 l4 hd
  rw [hD]
  simp only at l1 l2 l3 l4 ⊢
  have HXN : Hid (∀ x ∈ N, x.length ≤ 1048576) := Lib.hid fun x hx => by have := l3 x hx; omega
  have HXC : Hid (∀ x ∈ C, x.length ≤ 1048576) := Lib.hid fun x hx => by have := l4 x hx; omega
  have HBN : Hid (N.length ≤ 1048576) := Lib.hid (by omega)
  have HBC : Hid (C.length ≤ 1048576) := Lib.hid (by omega)
  have HDEC := Lib.hid hd
  clear l1 l2 l3 l4 hnl hd hD h
  go_enter Try.func39, Try.ntmps39
  go_wp2_with fail
  refine HDEC.out.mono ?_
  rintro e w3 ⟨a1, n1, c1, a2, n2, c2, rfl, hN0, hC0, hb3⟩
  try simp only at hN0 hC0 ⊢
  obtain ⟨W3, hW3⟩ : ∃ W : World, W = w3.alloc (.cells #[.slice a1 n1 c1, .slice a2 n2 c2] 24) := ⟨_, rfl⟩
  have hbx : Below w3.heap.size w3 W3 := by rw [hW3]; exact Bel.alloc (Bel.refl w3) _
  have hk3 : W3.heap[w3.heap.size]? = some (.cells #[.slice a1 n1 c1, .slice a2 n2 c2] 24 (0, 0)) := by rw [hW3]; exact heap_alloc_new w3 _
  have hsW : w3.heap.size < W3.heap.size := by rw [hW3]; simp
  obtain ⟨p0, p1⟩ := cells2 hk3
  have hn1 : n1 = N.length := by
    obtain ⟨a', c', hv, -⟩ := SliceAt.len hN0
    simp only [Value.slice.injEq] at hv
    exact hv.2.1
  have hn2 : n2 = C.length := by
    obtain ⟨a', c', hv, -⟩ := SliceAt.len hC0
    simp only [Value.slice.injEq] at hv
    exact hv.2.1
  have HN1 := Lib.hid hn1
  have HN2 := Lib.hid hn2
  have HRN := Lib.hid (RowsAt.below hN0 hbx)
  have HRC := Lib.hid (RowsAt.below hC0 hbx)
  have HB3 := Lib.hid (Bel.call hb3 hbx)
  have HW3 := Lib.hid hW3
  have HK3 := Lib.hid hk3
  have HSW := Lib.hid hsW
  have HWW : Hid (w.heap.size ≤ W3.heap.size) := Lib.hid HB3.out.size
  have hn1b : n1 ≤ 1048576 := by have := HBN.out; omega
  have hn2b : n2 ≤ 1048576 := by have := HBC.out; omega
  clear hN0 hC0 hb3 hbx hk3 hsW hn1 hn2 hW3
  go_wp2_with (fail)
  try rw [← HW3.out]
  go_loopw [3, 6] (fun lv i wr => ∃ (k : Nat) (a4 : Option Addr) (m4 c4 : Nat), k ≤ n1 ∧ i = .int .i64 k ∧ lv = .slice a4 m4 c4 ∧ Hid (RowsAt (fresh w) wr (.slice a4 m4 c4) (puts ([] ++ N.take k))) ∧ Hid (Below W3.heap.size W3 wr)) (fun _ i _ => n1 - (intOf i).toNat)
  case atStart => exact ⟨0, none, 0, 0, Nat.zero_le _, rfl, rfl, Lib.hid (SliceAt.nil _ _ _ _), Lib.hid (Below.refl _ _)⟩
  case round =>
    obtain ⟨k, a4, m4, c4, hk, rfl, rfl, HR, HB⟩ := hrel
    obtain ⟨p0, p1⟩ := cells2 ((HB.out.block _ HSW.out).trans HK3.out)
    by_cases hlt : k < n1
    · rcases SliceAt.split HRN.out with ⟨_, h0⟩ | ⟨b, o, rfl, -, -, -⟩
      · omega
      have hkl : k < N.length := by have := HN1.out; omega
      obtain ⟨u, c0, t0⟩ := RowsAt.cell (RowsAt.below HRN.out HB.out) k hkl
      obtain ⟨au, cu, rfl, -, -, -⟩ := SliceAt.len t0
      obtain ⟨hlen, hmem⟩ := puts_small ([] ++ N.take k)
      have hm4 : m4 = (puts ([] ++ N.take k)).length := by
        obtain ⟨a', c', hv, -⟩ := SliceAt.len HR.out
        simp only [Value.slice.injEq] at hv
        exact hv.2.1
      have hle : ([] ++ N.take k).length ≤ 2097152 := by
        have h1 := HBN.out; have h2 := HBC.out; have h3 : (N.take k).length ≤ N.length := by rw [List.length_take]; exact Nat.min_le_right ..
        simp only [List.length_append]; try simp only [List.length_nil]
        omega
      have hcall := put_any (fresh w) _ wr a4 m4 c4 (puts ([] ++ N.take k)) au _ cu N[k] HR.out t0 (by omega) (by have := HXN.out _ (List.getElem_mem hkl); omega) (fun x hx => by
        have h1 := hmem x hx
        rcases List.mem_append.1 h1 with h1 | h1
        · cases h1
        · have := HXN.out x (List.mem_of_mem_take h1); omega)
      rw [← puts_snoc, List.append_assoc, ← List.take_succ_eq_append_getElem hkl] at hcall
      obtain ⟨m, hm⟩ : ∃ m, m = (N[k]).length := ⟨_, rfl⟩
      rw [← hm] at c0 hcall
      have HCALL := Lib.hid hcall
      have hkz : (0 : Int) ≤ (k : Int) := by omega
      have hkn : (k : Int) < (n1 : Int) := by omega
      clear t0 hlen hmem hm4 hle hcall hm
      go_wp2_with fail
      refine HCALL.out.mono ?_
      rintro e w4 ⟨a5, n5, c5, rfl, hr5, hb5⟩
      have hr6 : RowsAt (fresh w) w4 (.slice a5 n5 c5) (puts ([] ++ N.take (k + 1))) := RowsAt.carry hr5 (fun b _ hb => by rcases hb with hb | hb; exact hb; exact Nat.le_trans (Nat.le_trans HWW.out HB.out.size) hb) (fun _ _ _ => rfl)
      have HR6 := Lib.hid hr6
      have HB6 := Lib.hid (Bel.call HB.out hb5)
      clear hr5 hr6 hb5 p0 p1 c0
      go_wp2_with fail
      go_roundw
      case rel => exact ⟨k + 1, a5, n5, c5, by omega, num_eq (by omega), rfl, HR6, HB6⟩
      case measure => simp [intOf]; omega
    · obtain rfl : n1 = k := by omega
      obtain ⟨n1, rfl⟩ : ∃ q, q = n1 := ⟨_, rfl⟩
      obtain ⟨wo, rfl⟩ : ∃ W, W = wr := ⟨_, rfl⟩
      go_wp2_with fail
      go_loopw [3, 7] (fun lv i wr => ∃ (k : Nat) (a4 : Option Addr) (m4 c4 : Nat), k ≤ n2 ∧ i = .int .i64 k ∧ lv = .slice a4 m4 c4 ∧ Hid (RowsAt (fresh w) wr (.slice a4 m4 c4) (puts (N ++ C.take k))) ∧ Hid (Below W3.heap.size W3 wr)) (fun _ i _ => n2 - (intOf i).toNat)
      case atStart => exact ⟨0, a4, m4, c4, Nat.zero_le _, rfl, rfl, Lib.hid (by rw [List.take_zero, List.append_nil]; have := HR.out; rw [List.nil_append, List.take_of_length_le (by have := HN1.out; omega)] at this; exact this), HB⟩
      case round =>
        clear p0 p1
        clear HR HB
        obtain ⟨k, a4, m4, c4, hk, rfl, rfl, HR, HB⟩ := hrel
        obtain ⟨p0, p1⟩ := cells2 ((HB.out.block _ HSW.out).trans HK3.out)
        by_cases hlt : k < n2
        · rcases SliceAt.split HRC.out with ⟨_, h0⟩ | ⟨b, o, rfl, -, -, -⟩
          · omega
          have hkl : k < C.length := by have := HN2.out; omega
          obtain ⟨u, c0, t0⟩ := RowsAt.cell (RowsAt.below HRC.out HB.out) k hkl
          obtain ⟨au, cu, rfl, -, -, -⟩ := SliceAt.len t0
          obtain ⟨hlen, hmem⟩ := puts_small (N ++ C.take k)
          have hm4 : m4 = (puts (N ++ C.take k)).length := by
            obtain ⟨a', c', hv, -⟩ := SliceAt.len HR.out
            simp only [Value.slice.injEq] at hv
            exact hv.2.1
          have hle : (N ++ C.take k).length ≤ 2097152 := by
            have h1 := HBN.out; have h2 := HBC.out; have h3 : (C.take k).length ≤ C.length := by rw [List.length_take]; exact Nat.min_le_right ..
            simp only [List.length_append]; try simp only [List.length_nil]
            omega
          have hcall := put_any (fresh w) _ wr a4 m4 c4 (puts (N ++ C.take k)) au _ cu C[k] HR.out t0 (by omega) (by have := HXC.out _ (List.getElem_mem hkl); omega) (fun x hx => by
            have h1 := hmem x hx
            rcases List.mem_append.1 h1 with h1 | h1
            · have := HXN.out x h1; omega
            · have := HXC.out x (List.mem_of_mem_take h1); omega)
          rw [← puts_snoc, List.append_assoc, ← List.take_succ_eq_append_getElem hkl] at hcall
          obtain ⟨m, hm⟩ : ∃ m, m = (C[k]).length := ⟨_, rfl⟩
          rw [← hm] at c0 hcall
          have HCALL := Lib.hid hcall
          have hkz : (0 : Int) ≤ (k : Int) := by omega
          have hkn : (k : Int) < (n2 : Int) := by omega
          clear t0 hlen hmem hm4 hle hcall hm
          go_wp2_with fail
          refine HCALL.out.mono ?_
          rintro e w4 ⟨a5, n5, c5, rfl, hr5, hb5⟩
          have hr6 : RowsAt (fresh w) w4 (.slice a5 n5 c5) (puts (N ++ C.take (k + 1))) := RowsAt.carry hr5 (fun b _ hb => by rcases hb with hb | hb; exact hb; exact Nat.le_trans (Nat.le_trans HWW.out HB.out.size) hb) (fun _ _ _ => rfl)
          have HR6 := Lib.hid hr6
          have HB6 := Lib.hid (Bel.call HB.out hb5)
          clear hr5 hr6 hb5 p0 p1 c0
          go_wp2_with fail
          go_roundw
          case rel => exact ⟨k + 1, a5, n5, c5, by omega, num_eq (by omega), rfl, HR6, HB6⟩
          case measure => simp [intOf]; omega
        · obtain rfl : n2 = k := by omega
          obtain ⟨n2, rfl⟩ : ∃ q, q = n2 := ⟨_, rfl⟩
          go_wp2_with fail
          go_ret
          exact ⟨a4, m4, c4, rfl, by have := HR.out; rw [List.take_of_length_le (l := C) (by have := HN2.out; omega)] at this; exact this, HB3.out.trans (HB.out.mono HWW.out)⟩
end Go.Proofs.Ytndkkgkcbbmnpaa
namespace Go.Pg
open Go.RowKit
theorem BytesAt.ofBlk {w : World} {g : Nat} {e : TypeId} {l : List UInt8} (h : w.heap[g]? = some (.cells (cellsOf l) e (0, 0))) (hm : l.length ≤ maxLen) : BytesAt (fun b => b = g) w (.slice (some ⟨g, 0, none⟩) l.length l.length) l :=
  (OwnAt.ofBlk (base := g) (Nat.le_refl _) h hm).at (fun b hb _ _ => by simpa [Value.ownBlock] using hb.symm) (by decide)
end Go.Pg
namespace Go.Proofs.Ytndkkgkcbbmnpaa
open Go.RowKit Go.Pg

/-- an item of bytes in new memory -/
def ItD (w : World) (bs : List UInt8) (e : Ending) (w' : World) : Prop :=
  ∃ v1, e = .returned (.agg #[.bool false, v1, .slice none 0 0]) ∧ ItemAt (fresh w) w' 1 [.bool false, v1, .slice none 0 0] (.text bs) ∧ Below w.heap.size w w'
/-- the end: the item is laid into the result's box -/
theorem ItD.doneAt {w w1 W : World} {bs : List UInt8} {a : Option Addr} {n c b : Nat} (hb : Below w.heap.size w w1) (hwb : w.heap.size ≤ b) (hB : BytesAt (fun x => w.heap.size ≤ x ∧ x ≠ b) w1 (.slice a n c) bs)
    (hbx : Box3 w1 W b (.bool false) (.slice a n c) (.slice none 0 0) 65) : ItD w bs (.returned (.agg #[.bool false, .slice a n c, .slice none 0 0])) W :=
  ⟨_, rfl, ⟨_, _, rfl, BytesAt.carry hB (fun b _ h => h.1) (fun b h _ => hbx.other b h.2), SliceAt.nil _ _ _ _⟩, hb.trans (hbx.chg.toBelowAt hb.size (fun k hk e => by omega))⟩
theorem ItD.done {w w1 W : World} {bs : List UInt8} {a : Option Addr} {n c : Nat} (hb : Below w.heap.size w w1) (hB : BytesAt (fun b => w.heap.size < b) w1 (.slice a n c) bs)
    (hbx : Box3 w1 W w.heap.size (.bool false) (.slice a n c) (.slice none 0 0) 65) : ItD w bs (.returned (.agg #[.bool false, .slice a n c, .slice none 0 0])) W :=
  ItD.doneAt hb (Nat.le_refl _) (BytesAt.carry hB (fun b _ h => ⟨Nat.le_of_lt h, by have : w.heap.size < b := h; omega⟩) (fun _ _ _ => rfl)) hbx

set_option maxRecDepth 100000 in
set_option maxHeartbeats 1000000 in
theorem bword_any (n : Nat) (w : World) (hn : (n : Int) < 18446744073709551616) : Calls Try.prog 52 #[.int .u64 n] w (ItD w (wordB n)) := by
  obtain ⟨L, hL⟩ : ∃ L, L = wordB n := ⟨_, rfl⟩
  have hLl : L.length ≤ 8 := by rw [hL]; exact wordB_le n hn
  have hcall : ∀ W : World, Calls Try.prog 80 #[.int .u64 n] W (Fresh W 5 1 byteR L) := fun W => by rw [hL]; exact wbytes_any n W hn
  rw [← hL]
  have HC := Lib.hid hcall
  clear hL hn hcall
  go_enter Try.func52, Try.ntmps52
  go_wp2_with fail
  refine (HC.out _).mono ?_
  rintro e w1 ⟨v1, rfl, ho, hb1⟩
  obtain ⟨a1, c1, rfl, -, -, -⟩ := ho.len
  have hat := ho.at (F := fun _ => True) (fun _ _ _ _ => trivial) (by decide)
  have hk1 := boxblock hb1
  have hb01 := Bel.call (Bel.alloc (Bel.refl w) (.cells #[.bool false, .slice none 0 0, .slice none 0 0] 65)) hb1
  have HK1 := Lib.hid hk1
  have HB1 := Lib.hid hb01
  have HAT := Lib.hid hat
  have hsz1 := (Array.getElem?_eq_some_iff.1 hk1).1
  clear ho hat hb1 hk1 hb01
  go_wp2_with fail
  refine (text_any _ w1 _ L HAT.out (by omega)).mono ?_
  rintro e w2 ⟨v2, rfl, hit, hb2⟩
  obtain ⟨-, a2, m2, c2, a3, m3, c3, e1, e2, -, -⟩ := ItemAt.form hit
  subst e1
  have hk2 := (hb2.block _ hsz1).trans HK1.out
  have hB2 : BytesAt (fun b => w.heap.size < b) w2 (.slice a2 m2 c2) L := BytesAt.carry (ItemAt.bytes hit) (fun b _ h => by have : w1.heap.size ≤ b := h; omega) (fun _ _ _ => rfl)
  have hb02 := HB1.out.trans (hb2.mono HB1.out.size)
  obtain ⟨q0, q1, q2⟩ := cells3 hk2
  have f0 := frozen_of_row w2 w.heap.size 0 _ _ hk2
  have f1 := frozen_of_row w2 w.heap.size 1 _ _ hk2
  have f2 := frozen_of_row w2 w.heap.size 2 _ _ hk2
  have HK2 := Lib.hid hk2
  have HB2 := Lib.hid hB2
  have HB02 := Lib.hid hb02
  clear hit hb2 hk2 hB2 hb02 e2
  go_wp2_with fail
  have hbx := box3 HK2.out (.bool false) (.slice a2 m2 c2) (.slice none 0 0)
  obtain ⟨W, hW⟩ : ∃ W, W = ((w2.setCell ⟨w.heap.size, 0, none⟩ (.bool false)).setCell ⟨w.heap.size, 1, none⟩ (.slice a2 m2 c2)).setCell ⟨w.heap.size, 2, none⟩ (.slice none 0 0) := ⟨_, rfl⟩
  rw [← hW] at hbx ⊢
  obtain ⟨r0, r1, r2⟩ := cells3 hbx.at_
  refine bodyPost_ret (v := .agg #[.bool false, .slice a2 m2 c2, .slice none 0 0]) (by simp [results, Try.results52, go_sem, r0, r1, r2]) rfl ?_
  exact ItD.done HB02.out HB2.out hbx

set_option maxRecDepth 100000 in
set_option maxHeartbeats 1000000 in
theorem rwordI_any (n : Nat) (w : World) (hn : (n : Int) < 18446744073709551616) : Calls Try.prog 54 #[.int .u64 n] w (ItD w (wordB n)) := by
  obtain ⟨L, hL⟩ : ∃ L, L = wordB n := ⟨_, rfl⟩
  have hcall : ∀ W : World, Calls Try.prog 81 #[.int .u64 n] W (Fresh W 5 1 byteR L) := fun W => by rw [hL]; exact r3bytes_any n W hn
  rw [← hL]
  have HC := Lib.hid hcall
  clear hL hn hcall
  go_enter Try.func54, Try.ntmps54
  go_wp2_with fail
  refine (HC.out _).mono ?_
  rintro e w2 ⟨v1, rfl, ho, hb1⟩
  obtain ⟨a2, c2, rfl, -, -, -⟩ := ho.len
  have hat := ho.at (F := fun b => w.heap.size < b) (fun g _ hg _ => by simp at hg; omega) (by decide)
  have hk2 := boxblock hb1
  have hb02 := Bel.call (Bel.alloc (Bel.refl w) (.cells #[.bool false, .slice none 0 0, .slice none 0 0] 65)) hb1
  obtain ⟨m2, hm2⟩ : ∃ m, m = L.length := ⟨_, rfl⟩
  rw [← hm2] at hat ⊢
  obtain ⟨q0, q1, q2⟩ := cells3 hk2
  have f0 := frozen_of_row w2 w.heap.size 0 _ _ hk2
  have f1 := frozen_of_row w2 w.heap.size 1 _ _ hk2
  have f2 := frozen_of_row w2 w.heap.size 2 _ _ hk2
  have HK2 := Lib.hid hk2
  have HB02 := Lib.hid hb02
  have HB2 := Lib.hid hat
  clear ho hat hb1 hk2 hb02 hm2
  go_wp2_with fail
  have hbx := box3 HK2.out (.bool false) (.slice a2 m2 c2) (.slice none 0 0)
  obtain ⟨W, hW⟩ : ∃ W, W = ((w2.setCell ⟨w.heap.size, 0, none⟩ (.bool false)).setCell ⟨w.heap.size, 1, none⟩ (.slice a2 m2 c2)).setCell ⟨w.heap.size, 2, none⟩ (.slice none 0 0) := ⟨_, rfl⟩
  rw [← hW] at hbx ⊢
  obtain ⟨r0, r1, r2⟩ := cells3 hbx.at_
  refine bodyPost_ret (v := .agg #[.bool false, .slice a2 m2 c2, .slice none 0 0]) (by simp [results, Try.results54, go_sem, r0, r1, r2]) rfl ?_
  exact ItD.done HB02.out HB2.out hbx

set_option maxRecDepth 100000 in
set_option maxHeartbeats 1000000 in
theorem bname_any (d : List UInt8) (w : World) (hd : d.length = 32) : Calls Try.prog 51 #[.agg (cellsOf d)] w (ItD w d) := by
  have hbox : (w.alloc (.cells (cellsOf d) 37)).heap[w.heap.size]? = some (.cells (cellsOf d) 37 (0, 0)) := heap_alloc_new w _
  have hB0 : BytesAt (fun _ => True) ((w.alloc (.cells (cellsOf d) 37)).alloc (.cells #[.bool false, .slice none 0 0, .slice none 0 0] 65)) (.slice (some ⟨w.heap.size, 0, none⟩) 32 32) d := by
    have := BytesAt.ofBlk hbox (by rw [hd]; decide)
    rw [hd] at this
    exact BytesAt.below (BytesAt.carry this (fun _ _ _ => trivial) (fun _ _ _ => rfl)) (Bel.alloc (Bel.refl _) _)
  have HB0 := Lib.hid hB0
  have HD := Lib.hid hd
  clear hbox hB0 hd
  go_enter Try.func51, Try.ntmps51
  go_wp2_with fail
  refine (text_any _ _ _ d HB0.out (by have := HD.out; omega)).mono ?_
  rintro e w2 ⟨v2, rfl, hit, hb2⟩
  obtain ⟨-, a2, m2, c2, a3, m3, c3, e1, e2, -, -⟩ := ItemAt.form hit
  subst e1
  have hbb := boxblock hb2
  simp only [World.size_alloc] at hbb
  have hb02 := Bel.call (Bel.alloc (Bel.alloc (Bel.refl w) (.cells (cellsOf d) 37)) (.cells #[.bool false, .slice none 0 0, .slice none 0 0] 65)) hb2
  have hB2 : BytesAt (fun b => w.heap.size ≤ b ∧ b ≠ w.heap.size + 1) w2 (.slice a2 m2 c2) d := BytesAt.carry (ItemAt.bytes hit) (fun b _ h => by simp only [World.size_alloc] at h; exact ⟨by omega, by omega⟩) (fun _ _ _ => rfl)
  obtain ⟨q0, q1, q2⟩ := cells3 hbb
  have f0 := frozen_of_row w2 (w.heap.size + 1) 0 _ _ hbb
  have f1 := frozen_of_row w2 (w.heap.size + 1) 1 _ _ hbb
  have f2 := frozen_of_row w2 (w.heap.size + 1) 2 _ _ hbb
  have HK2 := Lib.hid hbb
  have HB2 := Lib.hid hB2
  have HB02 := Lib.hid hb02
  clear hit hb2 hbb hB2 hb02 e2
  go_wp2_with fail
  have hbx := box3 HK2.out (.bool false) (.slice a2 m2 c2) (.slice none 0 0)
  obtain ⟨W, hW⟩ : ∃ W, W = ((w2.setCell ⟨w.heap.size + 1, 0, none⟩ (.bool false)).setCell ⟨w.heap.size + 1, 1, none⟩ (.slice a2 m2 c2)).setCell ⟨w.heap.size + 1, 2, none⟩ (.slice none 0 0) := ⟨_, rfl⟩
  rw [← hW] at hbx ⊢
  obtain ⟨r0, r1, r2⟩ := cells3 hbx.at_
  refine bodyPost_ret (v := .agg #[.bool false, .slice a2 m2 c2, .slice none 0 0]) (by simp [results, Try.results51, go_sem, r0, r1, r2]) rfl ?_
  exact ItD.doneAt HB02.out (Nat.le_succ _) HB2.out hbx

set_option maxRecDepth 100000 in
set_option maxHeartbeats 1000000 in
theorem rname_any (d : List UInt8) (w : World) (hd : d.length = 32) : Calls Try.prog 53 #[.agg (cellsOf d)] w (ItD w d) := by
  obtain ⟨i0, hi, hz0, hz1, hz2⟩ := info_parts infoU8
  obtain ⟨W0, hW0⟩ : ∃ W, W = (w.alloc (.cells (cellsOf d) 37)).alloc (.cells #[.bool false, .slice none 0 0, .slice none 0 0] 65) := ⟨_, rfl⟩
  have hb0 : Below w.heap.size w W0 := by rw [hW0]; exact Bel.alloc (Bel.alloc (Bel.refl w) _) _
  have hd0 : W0.heap[w.heap.size]? = some (.cells (cellsOf d) 37 (0, 0)) := by rw [hW0]; exact (Below.heap_alloc _ _ _ (by simp)).trans (heap_alloc_new w _)
  have hr0 : W0.heap[w.heap.size + 1]? = some (.cells #[.bool false, .slice none 0 0, .slice none 0 0] 65 (0, 0)) := by
    rw [hW0]
    have := heap_alloc_new (w.alloc (.cells (cellsOf d) 37)) (.cells #[.bool false, .slice none 0 0, .slice none 0 0] 65)
    simpa using this
  have HI : Hid (Below w.heap.size w W0 ∧ W0.heap[w.heap.size]? = some (.cells (cellsOf d) 37 (0, 0)) ∧ W0.heap[w.heap.size + 1]? = some (.cells #[.bool false, .slice none 0 0, .slice none 0 0] 65 (0, 0)) ∧ OwnAt W0 (w.heap.size + 2) 5 1 byteR (.slice none 0 0) (d.take 0)) :=
    ⟨hb0, hd0, hr0, OwnAt.nil _ _ _ _ _⟩
  have HW0 := Lib.hid hW0
  have HD := Lib.hid hd
  clear hb0 hd0 hr0 hW0 hd
  go_enter Try.func53, Try.ntmps53
  go_wp2_with fail
  rw [← HW0.out]
  go_loopw [3, 4] (fun v i wr => ∃ (k : Nat) (ax : Option Addr) (cx : Nat), i = .int .i64 k ∧ k ≤ 32 ∧ v = .slice ax k cx ∧ Hid (Below w.heap.size w wr ∧ wr.heap[w.heap.size]? = some (.cells (cellsOf d) 37 (0, 0)) ∧ wr.heap[w.heap.size + 1]? = some (.cells #[.bool false, .slice none 0 0, .slice none 0 0] 65 (0, 0)) ∧ OwnAt wr (w.heap.size + 2) 5 1 byteR (.slice ax k cx) (d.take k))) (fun _ i _ => 32 - (intOf i).toNat)
  case atStart => exact ⟨0, none, 0, rfl, by omega, rfl, HI⟩
  case round =>
    obtain ⟨k, ax, cx, rfl, hk, rfl, HS⟩ := hrel
    by_cases hlt : k < 32
    · obtain ⟨h1, h2, h3, h4⟩ := HS.out
      have hkd : k < d.length := by rw [HD.out]; exact hlt
      obtain ⟨x, hx⟩ : ∃ x, x = d[k]'hkd := ⟨_, rfl⟩
      have hc : wr.cell? ⟨w.heap.size, k, none⟩ = some (.int .u8 (x.toNat : Int)) := by rw [cell_of_row _ _ _ _ _ _ h2, cellsOf_get _ _ hkd, hx]
      obtain ⟨LT, hLT⟩ : ∃ LT, LT = d.take k := ⟨_, rfl⟩
      have hLn : LT ++ [x] = d.take (k + 1) := by rw [hLT, hx, List.take_succ_eq_append_getElem hkd]
      have hLl : LT.length = k := by rw [hLT, List.length_take]; omega
      rw [← hLT] at h4
      have hlo := (Array.getElem?_eq_some_iff.1 h3).1
      have hbase2 : w.heap.size + 2 ≤ (wr.alloc (.cells #[.int .u8 (x.toNat : Int)] 5)).heap.size := by simp; omega
      have hle : (LT.length + ([x] : List UInt8).length) * 1 ≤ 140737488355328 := by rw [hLl]; simp; omega
      have HO := Lib.hid (h4.carry (w' := wr.alloc (.cells #[.int .u8 (x.toNat : Int)] 5)) (fun g _ _ hlt => Below.heap_alloc _ _ _ hlt))
      have HS2 := Lib.hid (show BytesAt (fun _ => True) (wr.alloc (.cells #[.int .u8 (x.toNat : Int)] 5)) (.slice (some ⟨wr.heap.size, 0, none⟩) 1 1) [x] from (OwnAt.lit' wr 5 x).at (F := fun _ => True) (fun _ _ _ _ => trivial) (by decide))
      have HLE := Lib.hid hle
      have HLN := Lib.hid hLn
      have HLL := Lib.hid hLl
      have H1 := Lib.hid h1
      have H2 := Lib.hid h2
      have H3 := Lib.hid h3
      have hk0 : (0 : Int) ≤ (k : Int) := by omega
      have hk1 : (k : Int) < 32 := by omega
      clear h1 h2 h3 h4 hx hLT hLn hLl hle HS
      go_wp2_with (at_builtin; refine wpList_append_at rfl (.tmp 9) (.tmp 13) 25 rfl (w.heap.size + 2) 5 i0 (.int .u8 0) 1 1 underlying25 hi hz0 hz1 hz2 rfl (by decide) (by decide) byteR.one (.slice ax k cx) LT rfl HO.out _ [x] (fun _ => True) rfl HS2.out HLE.out hbase2 ?next)
      case next =>
      intro v4 w4 ho hg hm
      have hown := (HO.out).own
      have hb4 : Below w.heap.size w w4 := (Bel.alloc H1.out _).grown hg (by omega) (fun k hk => by have := (hown k hk).1; omega)
      have hd4 : w4.heap[w.heap.size]? = some (.cells (cellsOf d) 37 (0, 0)) := (hg.block _ (by simp; omega) (fun e => by have := (hown _ e.symm).1; omega)).trans ((Below.heap_alloc _ _ _ (by omega)).trans H2.out)
      have hr4 : w4.heap[w.heap.size + 1]? = some (.cells #[.bool false, .slice none 0 0, .slice none 0 0] 65 (0, 0)) := (hg.block _ (by simp; omega) (fun e => by have := (hown _ e.symm).1; omega)).trans ((Below.heap_alloc _ _ _ (by omega)).trans H3.out)
      obtain ⟨a4, c4, rfl, -, -, -⟩ := ho.len
      have e : (LT ++ [x]).length = k + 1 := by rw [List.length_append, HLL.out]; rfl
      rw [e] at ho ⊢
      rw [HLN.out] at ho
      have HN4 := Lib.hid (And.intro hb4 (And.intro hd4 (And.intro hr4 ho)))
      clear e hb4 hd4 hr4 ho hg hm hown
      go_wp2_with fail
      go_roundw
      case rel => exact ⟨k + 1, a4, c4, num_eq (by omega), by omega, rfl, HN4⟩
      case measure => simp [intOf]; omega
    · obtain rfl : k = 32 := by omega
      obtain ⟨h1, h2, h3, h4⟩ := HS.out
      rw [List.take_of_length_le (by rw [HD.out]; exact Nat.le_refl _)] at h4
      have hB2 := h4.at (F := fun b => w.heap.size ≤ b ∧ b ≠ w.heap.size + 1) (fun g _ hg _ => ⟨by omega, by omega⟩) (by decide)
      obtain ⟨q0, q1, q2⟩ := cells3 h3
      have f0 := frozen_of_row wr (w.heap.size + 1) 0 _ _ h3
      have f1 := frozen_of_row wr (w.heap.size + 1) 1 _ _ h3
      have f2 := frozen_of_row wr (w.heap.size + 1) 2 _ _ h3
      have HK2 := Lib.hid h3
      have HB2 := Lib.hid hB2
      have HB02 := Lib.hid h1
      clear h1 h2 h3 h4 hB2 HS
      go_wp2_with fail
      have hbx := box3 HK2.out (.bool false) (.slice ax 32 cx) (.slice none 0 0)
      obtain ⟨W, hW⟩ : ∃ W, W = ((wr.setCell ⟨w.heap.size + 1, 0, none⟩ (.bool false)).setCell ⟨w.heap.size + 1, 1, none⟩ (.slice ax 32 cx)).setCell ⟨w.heap.size + 1, 2, none⟩ (.slice none 0 0) := ⟨_, rfl⟩
      rw [← hW] at hbx ⊢
      obtain ⟨r0, r1, r2⟩ := cells3 hbx.at_
      refine bodyPost_ret (v := .agg #[.bool false, .slice ax 32 cx, .slice none 0 0]) (by simp [results, Try.results53, go_sem, r0, r1, r2]) rfl ?_
      exact ItD.doneAt HB02.out (Nat.le_succ _) HB2.out hbx
end Go.Proofs.Ytndkkgkcbbmnpaa
