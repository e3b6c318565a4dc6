/-
  Contracts of pergolaref02.first, items at every depth.
  Contract of pergolaref02.Decode.
  Contract of witness.Encode.
  Which items have an encoding; witnesses: reading and writing them are one another's inverse (plain law).
-/
import Derived.Test.YtndkkgkcbbmnpaaEcAJ
import Derived.Deep.LoopGhost
namespace Go.Pg
/-- how far a list's reading has come -/
def AllSt (f K : Nat) (L : List UInt8) (its : List It) (rest : List UInt8) : Prop :=
  ∃ j, rest.length ≤ j ∧ (rdAll (rdItem f) K L).1 = (rdAll (rdItem f) j rest).1 ∧ (rdAll (rdItem f) K L).2 = its ++ (rdAll (rdItem f) j rest).2
theorem AllSt.start (f K : Nat) (L : List UInt8) (h : L.length ≤ K) : AllSt f K L [] L := ⟨K, h, rfl, rfl⟩
theorem AllSt.bad {f K : Nat} {L : List UInt8} {its : List It} {c : UInt8} {t : List UInt8} (h : AllSt f K L its (c :: t)) (he : (rdItem f (c :: t)).1 ≠ 0) : (rdAll (rdItem f) K L).1 = (rdItem f (c :: t)).1 := by
  obtain ⟨j, h1, h2, h3⟩ := h
  cases j with
  | zero => simp at h1
  | succ j =>
    simp only [rdAll] at h2
    rw [if_neg (by simp), if_pos he] at h2
    exact h2
theorem AllSt.step {f K : Nat} {L : List UInt8} {its : List It} {c : UInt8} {t : List UInt8} (h : AllSt f K L its (c :: t)) (he : (rdItem f (c :: t)).1 = 0) : AllSt f K L (its ++ [(rdItem f (c :: t)).2.1]) (rdItem f (c :: t)).2.2 := by
  obtain ⟨j, h1, h2, h3⟩ := h
  have hr := rdItem_rest f c t
  cases j with
  | zero => simp at h1
  | succ j =>
    simp only [rdAll] at h2 h3
    rw [if_neg (by simp), if_neg (by simp [he])] at h2 h3
    exact ⟨j, by simp at h1; omega, h2, by rw [h3]; simp⟩
theorem AllSt.done {f K : Nat} {L : List UInt8} {its : List It} (h : AllSt f K L its []) : rdAll (rdItem f) K L = (0, its) := by
  obtain ⟨j, h1, h2, h3⟩ := h
  have : rdAll (rdItem f) j [] = (0, []) := by cases j <;> simp [rdAll]
  rw [this] at h2 h3
  rw [show rdAll (rdItem f) K L = ((rdAll (rdItem f) K L).1, (rdAll (rdItem f) K L).2) from rfl, h2, h3]
  simp
/-- what is left of bytes behind an item is their end -/
theorem rdItem_seg (f : Nat) (B : List UInt8) (p en : Nat) (x : It) (r : List UInt8) (h : rdItem f (seg B p en) = (0, x, r)) (hl : en ≤ B.length) (hp : p ≤ en) : r = seg B (en - r.length) en ∧ r.length ≤ en - p := by
  obtain ⟨e1, -⟩ := rdItem_sound f _ _ _ h
  have h1 := congrArg List.length e1
  rw [seg_len _ _ _ hl, List.length_append] at h1
  refine ⟨?_, by omega⟩
  have h2 := congrArg (List.drop x.enc.length) e1
  rw [seg_drop, List.drop_left] at h2
  rw [show en - r.length = p + x.enc.length by omega]; exact h2.symm
end Go.Pg
namespace Go.Proofs.Ytndkkgkcbbmnpaa
open Go.RowKit Go.Pg

theorem rfirst_some (f : Nat) (hi0 : ∀ f', f = f' + 1 → RItemsC f') (F0 : Nat → Prop) (w : World) (a : Option Addr) (n c p en deep : Nat) (B : List UInt8) (h0 : BytesAt F0 w (.slice a n c) B) (hp : p < en) (hen : en ≤ n) (hn : n ≤ 70368744177664) (hd : deep + f = 8) :
    Calls Try.prog 96 #[.slice a n c, .int .i64 p, .int .i64 en, .int .i64 deep] w (RFirstd w (f + 1) en (rdItem f (seg B p en))) := by
  obtain ⟨hnB, hnc, hcm⟩ := BytesAt.n h0
  have h : BytesAt (fun b => b < w.heap.size) w (.slice a n c) B := h0.carry (fun b hb _ => hb) (fun _ _ _ => rfl)
  rcases SliceAt.split h with ⟨hB, h00⟩ | ⟨b, o, rfl, -, -, hbw⟩
  · omega
  have hcell := fun i (hi : i < B.length) => BytesAt.cellD h i hi
  have hsc := seg_getD B p en hp (by omega)
  have hc0 := hcell p (by omega)
  obtain ⟨x, hx⟩ : ∃ x, x = B.getD p 0 := ⟨_, rfl⟩
  rw [← hx] at hsc hc0
  obtain ⟨t, ht⟩ : ∃ t, t = seg B (p + 1) en := ⟨_, rfl⟩
  rw [hsc, ← ht]
  unfold maxLen at hcm
  have hxl := x.toNat_lt
  by_cases h128 : x.toNat < 128
  · exact rfirst_plain f w n c p en deep B b o x t (Lib.hid h) (Lib.hid hnB) (Lib.hid hcell) hp hen hn hd hnc hcm hbw hc0 (Lib.hid ht) (by omega)
  · by_cases h192 : x.toNat < 192
    · obtain ⟨m, hm⟩ : ∃ m : Nat, x.toNat = m + 128 := ⟨x.toNat - 128, by omega⟩
      by_cases h58 : 58 < m
      · exact rfirst_textB f w n c p en deep B b o x t m (Lib.hid h) (Lib.hid hnB) (Lib.hid hcell) hp hen hn hd hnc hcm hbw hc0 (Lib.hid ht) hm h192 h58
      · by_cases h55 : m ≤ 55
        · exact rfirst_textA f w n c p en deep B b o x t m (Lib.hid h) (Lib.hid hnB) (Lib.hid hcell) hp hen hn hd hnc hcm hbw hc0 (Lib.hid ht) hm h192 h55
        · exact rfirst_textC f w n c p en deep B b o x t m (Lib.hid h) (Lib.hid hnB) (Lib.hid hcell) hp hen hn hd hnc hcm hbw hc0 (Lib.hid ht) hm h192 (by omega) (by omega)
    · obtain ⟨m, hm⟩ : ∃ m : Nat, x.toNat = m + 192 := ⟨x.toNat - 192, by omega⟩
      cases f with
      | zero => exact rfirst_deep 0 w n c p en deep B b o x t (Lib.hid h) (Lib.hid hnB) (Lib.hid hcell) hp hen hn hd hnc hcm hbw hc0 (Lib.hid ht) (by omega) rfl
      | succ f' =>
        by_cases h58 : 58 < m
        · exact rfirst_listB (f' + 1) w n c p en deep B b o x t m (Lib.hid h) (Lib.hid hnB) (Lib.hid hcell) hp hen hn hd hnc hcm hbw hc0 (Lib.hid ht) f' rfl hm (Lib.hid (hi0 f' rfl)) h58
        · by_cases h55 : m ≤ 55
          · exact rfirst_listA (f' + 1) w n c p en deep B b o x t m (Lib.hid h) (Lib.hid hnB) (Lib.hid hcell) hp hen hn hd hnc hcm hbw hc0 (Lib.hid ht) f' rfl hm (Lib.hid (hi0 f' rfl)) h55
          · exact rfirst_listC (f' + 1) w n c p en deep B b o x t m (Lib.hid h) (Lib.hid hnB) (Lib.hid hcell) hp hen hn hd hnc hcm hbw hc0 (Lib.hid ht) f' rfl hm (Lib.hid (hi0 f' rfl)) (by omega) (by omega)
theorem rfirst_of (f : Nat) (hi0 : ∀ f', f = f' + 1 → RItemsC f') : RFirstC f := by
  intro F w a pi ei di n c p en deep B hpi hei hdi h0 hp hen hn hd
  subst hpi hei hdi
  by_cases hlt : p < en
  · exact rfirst_some f hi0 F w a n c p en deep B h0 hlt hen hn hd
  · obtain rfl : p = en := by omega
    exact rfirst_end f w a n c p deep B

set_option maxRecDepth 100000 in
set_option maxHeartbeats 2000000 in
theorem ritems_of (f : Nat) (hf0 : RFirstC f) : RItemsC f := by
  intro F0 w a pi ei di n c p en deep B hpi hei hdi h0 hp hpe hen hn hd
  subst hpi hei hdi
  obtain ⟨hnB, hnc, hcm⟩ := BytesAt.n h0
  have h : BytesAt (fun b => b < w.heap.size) w (.slice a n c) B := h0.carry (fun b hb _ => hb) (fun _ _ _ => rfl)
  obtain ⟨i0, hi, hz0, hz1, hz2⟩ := info_parts infoItem
  obtain ⟨K, hK⟩ : ∃ K, K = en - p := ⟨_, rfl⟩
  obtain ⟨L, hL⟩ : ∃ L, L = seg B p en := ⟨_, rfl⟩
  rw [← hK, ← hL]
  have hLK : L.length ≤ K := by rw [hL, hK, seg_len _ _ _ (by omega)]; exact Nat.le_refl _
  have hS0 : AllSt f K L [] (seg B p en) := by rw [← hL]; exact AllSt.start f K L hLK
  obtain ⟨r, hrr⟩ : ∃ r, r = rdAll (rdItem f) K L := ⟨_, rfl⟩
  rw [← hrr]
  have HB := Lib.hid h
  have HNB := Lib.hid hnB
  have HF := Lib.hid hf0
  have HR := Lib.hid hrr
  have HS0 := Lib.hid hS0
  have HLK := Lib.hid hLK
  have HKK := Lib.hid hK
  clear h0 h hnB hf0 hrr hS0 hLK hK hL
  go_enter Try.func112, Try.ntmps112
  go_wp2
  go_loopw [1] (fun i wr => ∃ (q : Nat) (its : List It) (a1 : Option Addr) (c1 m : Nat), i = .int .i64 q ∧ q ≤ en ∧ p ≤ q ∧ m + p ≤ q ∧ Hid (m = its.length ∧ AllSt f K L its (seg B q en)) ∧ Hid (OwnList (fun F w cs x => ItemAt F w (f + 1) cs x) (fun b => w.heap.size + 1 < b) (w.heap.size + 2) wr 65 3 (.slice a1 m c1) its) ∧
      Hid (Below w.heap.size w wr ∧ wr.heap[w.heap.size]? = some (.cells #[.bool false, .slice none 0 0, .slice none 0 0] 65 (0, 0)) ∧ wr.heap[w.heap.size + 1]? = some (.cells #[.bool true, .slice none 0 0, .slice a1 m c1] 65 (0, 0)))) (fun i _ => en - (intOf i).toNat)
  case atStart =>
    refine ⟨p, [], none, 0, 0, rfl, hp, Nat.le_refl _, by omega, ⟨rfl, HS0.out⟩, OwnList.nil, Bel.alloc (Bel.alloc (Bel.refl w) _) _, ?_, ?_⟩
    · exact (Below.heap_alloc _ _ _ (by simp)).trans (heap_alloc_new w _)
    · have := heap_alloc_new (w.alloc (.cells #[.bool false, .slice none 0 0, .slice none 0 0] 65)) (.cells #[.bool true, .slice none 0 0, .slice none 0 0] 65)
      simpa using this
  case round =>
    obtain ⟨q, its, a1, c1, m, rfl, hq, hpq, hmq, HS, HO, HB0⟩ := hrel
    obtain ⟨p0, p1, p2⟩ := cells3 HB0.out.2.2
    obtain ⟨q0, q1, q2⟩ := cells3 HB0.out.2.1
    have fq := frozen_of_row wr (w.heap.size + 1) 2 _ _ HB0.out.2.2
    have f0 := frozen_of_row wr w.heap.size 0 _ _ HB0.out.2.1
    have f1 := frozen_of_row wr w.heap.size 1 _ _ HB0.out.2.1
    have f2 := frozen_of_row wr w.heap.size 2 _ _ HB0.out.2.1
    have hsw := (Array.getElem?_eq_some_iff.1 HB0.out.2.2).1
    by_cases hlt : q < en
    · have hseg := seg_getD B q en hlt (by have := HNB.out; omega)
      have hst := HS.out.2
      have hcall := HF.out (fun b => b < w.heap.size) wr a (q : Int) (en : Int) (deep : Int) n c q en deep B rfl rfl rfl (BytesAt.below HB.out HB0.out.1) hq hen hn hd
      have hrs := fun x r h => rdItem_seg f B q en x r h (by have := HNB.out; omega) hq
      rw [hseg] at hst hcall hrs
      obtain ⟨e5, y, t5, h5⟩ := triple (rdItem f (B.getD q 0 :: seg B (q + 1) en))
      have hbad := hst.bad
      have hstep := hst.step
      have hrest := rdItem_rest f (B.getD q 0) (seg B (q + 1) en)
      rw [seg_len _ _ _ (by have := HNB.out; omega)] at hrest
      rw [h5] at hcall hbad hstep hrest
      have hrs5 : e5 = 0 → t5 = seg B (en - t5.length) en := fun h => (hrs y t5 (by rw [h5, h])).1
      have HC := Lib.hid hcall
      have HBAD := Lib.hid hbad
      have HSTEP := Lib.hid hstep
      have HREST := Lib.hid hrest
      have HRS := Lib.hid hrs5
      clear hseg hst hcall hrs h5 hbad hstep hrest hrs5
      go_wp2_with fail
      refine HC.out.mono ?_
      rintro e w1 ⟨l5, i1, y1, z1, i3, y3, z3, m5, rfl, k1, k2, k3, hb1⟩
      have hs1 := hb1.size
      have hx1 : w1.heap[w.heap.size + 1]? = some (.cells #[.bool true, .slice none 0 0, .slice a1 m c1] 65 (0, 0)) := (hb1.block _ hsw).trans HB0.out.2.2
      have hy1 : w1.heap[w.heap.size]? = some (.cells #[.bool false, .slice none 0 0, .slice none 0 0] 65 (0, 0)) := (hb1.block _ (by omega)).trans HB0.out.2.1
      have hbel1 := Bel.call HB0.out.1 hb1
      have K1 := Lib.hid k1
      have K2 := Lib.hid k2
      have K3 := Lib.hid k3
      have HX1 := Lib.hid hx1
      have HY1 := Lib.hid hy1
      have HBL := Lib.hid hbel1
      have hO1 := (HO.out).call (carriedItem (f + 1)) hb1
      have HO1 := Lib.hid hO1
      have HSZ := Lib.hid hs1
      have hlt1 : w.heap.size + 1 < w1.heap.size := by omega
      have hlt0 : w.heap.size < w1.heap.size := by omega
      clear k1 k2 k3 p0 p1 p2 q0 q1 q2 fq f0 f1 f2 hb1 hbel1 hO1 hs1
      by_cases he : e5 = 0
      · subst he
        obtain ⟨p0, p1, p2⟩ := cells3 hx1
        have fq := frozen_of_row w1 (w.heap.size + 1) 2 _ _ hx1
        have howr := (HO1.out).own
        have hOa := (HO1.out).call (carriedItem (f + 1)) (Bel.alloc (Bel.refl w1) (.cells #[.bool l5, .slice i1 y1 z1, .slice i3 y3 z3] 65))
        have hit : ItemAt (fresh wr) (w1.alloc (.cells #[.bool l5, .slice i1 y1 z1, .slice i3 y3 z3] 65)) (f + 1) [.bool l5, .slice i1 y1 z1, .slice i3 y3 z3] y := K3.out.below (Bel.alloc (Bel.refl w1) _)
        have howr0 := (HO.out).own
        obtain ⟨R, hR1, hRo, hRs, hRn⟩ := hOa.push (carriedItem (f + 1)) hit rfl (by decide) (fun b' _ hb' => ⟨by have : wr.heap.size ≤ b' := hb'; show w.heap.size + 1 < b'; omega, fun e => by have h1 := (howr0 b' e).2; have h2 : wr.heap.size ≤ b' := hb'; omega⟩) 65
        simp only [World.size_alloc] at hRs
        have hmi : its.length = m := HS.out.1.symm
        have hle : (its.length + [y].length) * 56 ≤ 140737488355328 := by rw [hmi]; simp; omega
        have hbase : w.heap.size + 2 ≤ ((w1.alloc (.cells #[.bool l5, .slice i1 y1 z1, .slice i3 y3 z3] 65)).alloc (.cells [.bool l5, .slice i1 y1 z1, .slice i3 y3 z3].toArray 65)).heap.size := by simp; omega
        have hX : ∀ w2 : World, ((w1.alloc (.cells #[.bool l5, .slice i1 y1 z1, .slice i3 y3 z3] 65)).alloc (.cells [.bool l5, .slice i1 y1 z1, .slice i3 y3 z3].toArray 65)).grownBy w2 (Value.slice a1 m c1).ownBlock →
            Below w.heap.size w w2 ∧ w2.heap[w.heap.size]? = some (.cells #[.bool false, .slice none 0 0, .slice none 0 0] 65 (0, 0)) ∧ w2.heap[w.heap.size + 1]? = some (.cells #[.bool true, .slice none 0 0, .slice a1 m c1] 65 (0, 0)) := by
          intro w2 hg
          have hsz2 := hg.size
          simp only [World.size_alloc] at hsz2
          refine ⟨(Bel.alloc (Bel.alloc HBL.out _) _).grown hg (by simp; omega) (fun k hk => by have := (howr k hk).1; omega), ?_, ?_⟩
          · rw [hg.block _ (by simp; omega) (fun e => by have := (howr _ e.symm).1; omega), Below.heap_alloc _ _ _ (by simp; omega), Below.heap_alloc _ _ _ (by omega)]; exact HY1.out
          · rw [hg.block _ (by simp; omega) (fun e => by have := (howr _ e.symm).1; omega), Below.heap_alloc _ _ _ (by simp; omega), Below.heap_alloc _ _ _ (by omega)]; exact HX1.out
        have HX := Lib.hid hX
        have HRN := Lib.hid hRn
        have HRO := Lib.hid hRo
        have HRS' := Lib.hid hRs
        have HR1 := Lib.hid hR1
        have HMI := Lib.hid hmi
        have hln : (its ++ [y]).length = m + 1 := by rw [List.length_append, hmi]; rfl
        have HLN := Lib.hid hln
        clear hx1 hy1 hOa hit howr howr0 hRn hRo hRs hR1 hmi hX hln
        go_wp2_with (at_builtin; refine wpList_append_at rfl (.tmp 33) (.tmp 35) 63 rfl (w.heap.size + 2) 65 i0 (.agg #[.bool false, .slice none 0 0, .slice none 0 0]) 3 56 underlyingItems hi hz0 hz1 hz2 rfl (by decide) (by decide) HR1.out (.slice a1 m c1) its rfl HRO.out _ [y] (fun _ => True) rfl HRS'.out hle hbase ?_; intro v' w2 ho hg hm; obtain ⟨va, vc, hv', -, -, -⟩ := ho.len; rw [HLN.out] at hv'; subst hv'; have HON := Lib.hid (HRN.out _ _ ho hg hm); have HX2 := Lib.hid (HX.out _ hg); obtain ⟨r0, r1, r2⟩ := cells3 HX2.out.2.2; have fr := frozen_of_row w2 (w.heap.size + 1) 2 _ _ HX2.out.2.2; clear ho hg hm)
        have hme : m5 + t5.length = en := K1.out (by trivial)
        have hrl : t5.length ≤ en - (q + 1) := HREST.out
        have hown := HON.out.own
        have hsz2 := (Array.getElem?_eq_some_iff.1 HX2.out.2.2).1
        have hOs : Hid (OwnList (fun F w cs x => ItemAt F w (f + 1) cs x) (fun b => w.heap.size + 1 < b) (w.heap.size + 2) (w2.setCell ⟨w.heap.size + 1, 2, none⟩ (.slice va (m + 1) vc)) 65 3 (.slice va (m + 1) vc) (its ++ [y])) :=
          Lib.hid (HON.out.carry (carriedItem (f + 1)) (by simp) (fun b' hb' _ => Below.heap_setCell _ _ _ _ (by have : w.heap.size + 1 < b' := hb'; show b' ≠ w.heap.size + 1; omega)) (fun g' hg' => Below.heap_setCell _ _ _ _ (by have := (hown g' hg').1; show g' ≠ w.heap.size + 1; omega)))
        have hBs : Hid (Below w.heap.size w (w2.setCell ⟨w.heap.size + 1, 2, none⟩ (.slice va (m + 1) vc)) ∧ (w2.setCell ⟨w.heap.size + 1, 2, none⟩ (.slice va (m + 1) vc)).heap[w.heap.size]? = some (.cells #[.bool false, .slice none 0 0, .slice none 0 0] 65 (0, 0)) ∧
            (w2.setCell ⟨w.heap.size + 1, 2, none⟩ (.slice va (m + 1) vc)).heap[w.heap.size + 1]? = some (.cells #[.bool true, .slice none 0 0, .slice va (m + 1) vc] 65 (0, 0))) :=
          Lib.hid ⟨HX2.out.1.setCell (by show w.heap.size ≤ w.heap.size + 1; omega) _, by rw [Below.heap_setCell _ _ _ _ (by show w.heap.size ≠ w.heap.size + 1; omega)]; exact HX2.out.2.1, blk_setCell HX2.out.2.2⟩
        have hAS : Hid (m + 1 = (its ++ [y]).length ∧ AllSt f K L (its ++ [y]) (seg B m5 en)) := Lib.hid ⟨HLN.out.symm, by
          have h1 := HSTEP.out (by trivial)
          have h2 := HRS.out (by trivial)
          rw [show en - t5.length = m5 by omega] at h2
          rw [← h2]; exact h1⟩
        clear hown hsz2 r0 r1 r2 fr
        go_roundw
        case rel => exact ⟨m5, its ++ [y], va, vc, m + 1, rfl, by omega, by omega, by omega, hAS, hOs, hBs⟩
        case measure => simp [intOf]; omega
      · have hr1 : r.1 = e5 := by rw [HR.out]; exact HBAD.out he
        obtain ⟨q0, q1, q2⟩ := cells3 hy1
        have f0 := frozen_of_row w1 w.heap.size 0 _ _ hy1
        have f1 := frozen_of_row w1 w.heap.size 1 _ _ hy1
        have f2 := frozen_of_row w1 w.heap.size 2 _ _ hy1
        have hm5 : m5 = 0 := K2.out he
        have ht : (((e5 : Nat) : Int) != 0) = true := by simp; omega
        have HR1 := Lib.hid hr1
        have HE := Lib.hid he
        clear hx1 hy1 hr1 he hm5
        go_wp2_with fail
        have hbx := box3 HY1.out (.bool false) (.slice none 0 0) (.slice none 0 0)
        obtain ⟨W, hW⟩ : ∃ W, W = ((w1.setCell ⟨w.heap.size, 0, none⟩ (.bool false)).setCell ⟨w.heap.size, 1, none⟩ (.slice none 0 0)).setCell ⟨w.heap.size, 2, none⟩ (.slice none 0 0) := ⟨_, rfl⟩
        rw [← hW] at hbx ⊢
        obtain ⟨r0, r1, r2⟩ := cells3 hbx.at_
        have hlw : w.heap.size < W.heap.size := by rw [hbx.size]; exact hlt0
        refine bodyPost_ret (v := .tuple #[.agg #[.bool false, .slice none 0 0, .slice none 0 0], .int .i64 ((0 : Nat) : Int), .int .i64 (e5 : Int)]) (by simp [results, Try.results112, go_sem, r0, r1, r2, hlw]) rfl ?_
        refine ⟨false, none, 0, 0, none, 0, 0, 0, by rw [HR1.out], fun h => absurd (HR1.out.symm.trans h) HE.out, fun _ => rfl, ?_, (HBL.out.trans (hbx.chg.toBelowAt (by omega) (fun k hk e => by omega))).alloc (by omega) _⟩
        rw [if_neg (by rw [HR1.out]; exact HE.out)]
        exact ⟨_, _, rfl, BytesAt.nil _ _, SliceAt.nil _ _ _ _⟩
    · obtain rfl : q = en := by omega
      have hdone : r = (0, its) := by
        rw [HR.out]
        have := HS.out.2
        rw [seg_nil B q q (Nat.le_refl _)] at this
        exact this.done
      have hlt0 : w.heap.size < wr.heap.size := by omega
      have HD := Lib.hid hdone
      clear hdone
      go_wp2_with fail
      have hbx := box3 HB0.out.2.1 (.bool true) (.slice none 0 0) (.slice a1 m c1)
      obtain ⟨W, hW⟩ : ∃ W, W = ((wr.setCell ⟨w.heap.size, 0, none⟩ (.bool true)).setCell ⟨w.heap.size, 1, none⟩ (.slice none 0 0)).setCell ⟨w.heap.size, 2, none⟩ (.slice a1 m c1) := ⟨_, rfl⟩
      rw [← hW] at hbx ⊢
      obtain ⟨r0, r1, r2⟩ := cells3 hbx.at_
      refine bodyPost_ret (v := .tuple #[.agg #[.bool true, .slice none 0 0, .slice a1 m c1], .int .i64 (q : Int), .int .i64 ((0 : Nat) : Int)]) (by simp [results, Try.results112, go_sem, r0, r1, r2]) rfl ?_
      rw [HD.out]
      refine ⟨true, none, 0, 0, a1, m, c1, q, rfl, fun _ => rfl, fun h => absurd rfl h, ?_, HB0.out.1.trans (hbx.chg.toBelowAt (by omega) (fun k hk e => by omega))⟩
      rw [if_pos rfl]
      have hat := HO.out.at (carriedItem (f + 1)) (G' := fun b => w.heap.size + 1 < b) (fun _ h _ => h) (fun b h _ => by show w.heap.size + 1 < b; omega) (by decide)
      have hit : ItemAt (fun b => w.heap.size + 1 < b) wr (f + 2) [.bool true, .slice none 0 0, .slice a1 m c1] (.list its) := ⟨_, _, rfl, SliceAt.nil _ _ _ _, hat⟩
      exact hit.carry (fun b _ hb => by have : w.heap.size + 1 < b := hb; show w.heap.size ≤ b; omega) (fun b hb _ => hbx.other b (by have : w.heap.size + 1 < b := hb; omega))
theorem rfirst_all : ∀ f, RFirstC f ∧ RItemsC f
  | 0 => have h := rfirst_of 0 (fun f' h => by omega); ⟨h, ritems_of 0 h⟩
  | f + 1 => have h := rfirst_of (f + 1) (fun f' h => by obtain rfl : f = f' := by omega
                                                         exact (rfirst_all f).2); ⟨h, ritems_of (f + 1) h⟩

set_option maxRecDepth 100000 in
set_option maxHeartbeats 1000000 in
theorem rFirst_any (F0 : Nat → Prop) (w : World) (a : Option Addr) (n c : Nat) (bs : List UInt8) (h0 : BytesAt F0 w (.slice a n c) bs) (hn : n ≤ 70368744177664) :
    Calls Try.prog 78 #[.slice a n c] w (Firstd w n (rdItem 8 bs)) := by
  have hnl := (BytesAt.n h0).1
  have hcall := (rfirst_all 8).1 F0 (w.alloc (.cells #[.bool false, .slice none 0 0, .slice none 0 0] 65)) a 0 n 0 n c 0 n 0 bs rfl rfl rfl (BytesAt.below h0 (Bel.alloc (Bel.refl w) _)) (Nat.zero_le _) (Nat.le_refl _) hn rfl
  have hsa : seg bs 0 n = bs := by rw [hnl]; exact seg_all bs
  rw [hsa] at hcall
  have hbox := heap_alloc_new w (.cells #[.bool false, .slice none 0 0, .slice none 0 0] 65)
  have HBOX := Lib.hid hbox
  obtain ⟨r, hr⟩ : ∃ r, r = rdItem 8 bs := ⟨_, rfl⟩
  rw [← hr] at hcall ⊢
  have HC := Lib.hid hcall
  clear h0 hnl hcall hsa hbox hr
  go_enter Try.func78, Try.ntmps78
  go_wp2_with fail
  refine HC.out.mono ?_
  rintro e5 w1 ⟨l5, i1, y1, z1, i3, y3, z3, mm, rfl, k1, k2, k3, hb4⟩
  have hs4 := hb4.size
  simp only [World.size_alloc] at hs4
  have hb1 := (hb4.block w.heap.size (by simp)).trans HBOX.out
  have HB1 := Lib.hid hb1
  have HBL1 := Lib.hid (Below.trans (Bel.alloc (Bel.refl w) _) (hb4.mono (by simp)))
  have K1 := Lib.hid k1
  have K2 := Lib.hid k2
  have K3 := Lib.hid k3
  obtain ⟨q0, q1, q2⟩ := cells3 hb1
  have f0 := frozen_of_row w1 w.heap.size 0 _ _ hb1
  have f1 := frozen_of_row w1 w.heap.size 1 _ _ hb1
  have f2 := frozen_of_row w1 w.heap.size 2 _ _ hb1
  clear hb1 hb4 k1 k2 k3
  go_wp2_with fail
  have hbx := box3 HB1.out (.bool l5) (.slice i1 y1 z1) (.slice i3 y3 z3)
  obtain ⟨W, hW⟩ : ∃ W, W = ((w1.setCell ⟨w.heap.size, 0, none⟩ (.bool l5)).setCell ⟨w.heap.size, 1, none⟩ (.slice i1 y1 z1)).setCell ⟨w.heap.size, 2, none⟩ (.slice i3 y3 z3) := ⟨_, rfl⟩
  rw [← hW] at hbx ⊢
  obtain ⟨r0, r1, r2⟩ := cells3 hbx.at_
  refine bodyPost_ret (v := .tuple #[.agg #[.bool l5, .slice i1 y1 z1, .slice i3 y3 z3], .int .i64 (mm : Int), .int .i64 (r.1 : Int)]) (by simp [results, Try.results78, go_sem, r0, r1, r2]) rfl ?_
  refine ⟨l5, i1, y1, z1, i3, y3, z3, mm, rfl, K1.out, K2.out, K3.out.carry (fun b _ hb => Nat.le_trans (by simp) hb) (fun b hb _ => hbx.other b ?_), HBL1.out.trans (hbx.chg.toBelowAt (by omega) (fun k hk e => by omega))⟩
  have hb' : w.heap.size + 1 ≤ b := Nat.le_trans (by simp) hb
  omega
end Go.Proofs.Ytndkkgkcbbmnpaa
namespace Go.Proofs.Ytndkkgkcbbmnpaa
open Go.RowKit Go.Pg

set_option maxRecDepth 100000 in
set_option maxHeartbeats 2000000 in
theorem rdecode_any (F0 : Nat → Prop) (w : World) (a : Option Addr) (n c : Nat) (bs : List UInt8) (h0 : BytesAt F0 w (.slice a n c) bs) (hn : n ≤ 70368744177664) :
    Calls Try.prog 49 #[.slice a n c] w (Decd fresh w (rdWhole bs)) := by
  have hnl : n = bs.length := by
    obtain ⟨a', c', hv, h1, -⟩ := h0
    simp only [Value.slice.injEq] at hv
    exact hv.2.1
  obtain ⟨e1, y, t, hr⟩ : ∃ e1 y t, rdItem 8 bs = (e1, y, t) := ⟨_, _, _, rfl⟩
  have hrw : rdWhole bs = if e1 ≠ 0 then (e1, .text []) else if t ≠ [] then (24, .text []) else (0, y) := by unfold rdWhole; rw [hr]
  have herr := rdItem_err 8 bs
  rw [hr] at herr
  have hcall := rFirst_any F0 (w.alloc (.cells #[.bool false, .slice none 0 0, .slice none 0 0] 65)) a n c bs (BytesAt.below h0 (Bel.alloc (Bel.refl w) _)) hn
  rw [hr] at hcall
  have HC := Lib.hid hcall
  have HRW := Lib.hid hrw
  have HERR := Lib.hid herr
  have HNL := Lib.hid hnl
  clear h0 hnl hr hrw hcall herr
  go_enter Try.func49, Try.ntmps49
  go_wp2_with fail
  refine HC.out.mono ?_
  rintro e5 w5 ⟨l5, i1, y1, z1, i3, y3, z3, m, rfl, k1, k2, k3, k4⟩
  have hsz := k4.size
  simp only [World.size_alloc] at hsz
  have h0 : w.heap.size < w5.heap.size := by omega
  have hb5 := (k4.block w.heap.size (by simp)).trans (heap_alloc_new w _)
  have HB5 := Lib.hid hb5
  have K1 := Lib.hid k1
  have K2 := Lib.hid k2
  have K3 := Lib.hid k3
  have HBL := Lib.hid ((Bel.alloc (Bel.refl w) (.cells #[.bool false, .slice none 0 0, .slice none 0 0] 65)).trans (k4.mono (by simp)))
  obtain ⟨q0, q1, q2⟩ := cells3 hb5
  have f0 := frozen_of_row w5 w.heap.size 0 _ _ hb5
  have f1 := frozen_of_row w5 w.heap.size 1 _ _ hb5
  have f2 := frozen_of_row w5 w.heap.size 2 _ _ hb5
  clear hb5 k1 k2 k3 k4 hsz
  by_cases he : e1 = 0
  · subst he
    have hmn : m + t.length = n := K1.out rfl
    by_cases hlt : m < n
    · clear hmn
      go_wp2_with fail
      have hbx := box3 HB5.out (.bool false) (.slice none 0 0) (.slice none 0 0)
      obtain ⟨W, hW⟩ : ∃ W, W = ((w5.setCell ⟨w.heap.size, 0, none⟩ (.bool false)).setCell ⟨w.heap.size, 1, none⟩ (.slice none 0 0)).setCell ⟨w.heap.size, 2, none⟩ (.slice none 0 0) := ⟨_, rfl⟩
      rw [← hW] at hbx ⊢
      obtain ⟨r0, r1, r2⟩ := cells3 hbx.at_
      have hlw : w.heap.size < W.heap.size := by rw [hbx.size]; exact h0
      refine bodyPost_ret (v := .tuple #[.agg #[.bool false, .slice none 0 0, .slice none 0 0], .int .i64 ((24 : Nat) : Int)]) (by simp [results, Try.results49, go_sem, r0, r1, r2, hlw]) rfl ?_
      have ht : t ≠ [] := by intro h; have := K1.out trivial; rw [h] at this; simp at this; omega
      rw [HRW.out, if_neg (by simp), if_pos ht]
      exact ⟨false, none, 0, 0, none, 0, 0, rfl, ⟨_, _, rfl, BytesAt.nil _ _, SliceAt.nil _ _ _ _⟩, ((HBL.out.trans (hbx.chg.toBelowAt (by omega) (fun k hk e => by omega))).alloc (by omega) _)⟩
    · have ht : t = [] := List.eq_nil_of_length_eq_zero (by omega)
      have HT := Lib.hid ht
      clear ht hmn
      go_wp2_with fail
      have hbx := box3 HB5.out (.bool l5) (.slice i1 y1 z1) (.slice i3 y3 z3)
      obtain ⟨W, hW⟩ : ∃ W, W = ((w5.setCell ⟨w.heap.size, 0, none⟩ (.bool l5)).setCell ⟨w.heap.size, 1, none⟩ (.slice i1 y1 z1)).setCell ⟨w.heap.size, 2, none⟩ (.slice i3 y3 z3) := ⟨_, rfl⟩
      rw [← hW] at hbx ⊢
      obtain ⟨r0, r1, r2⟩ := cells3 hbx.at_
      have hlw : w.heap.size < W.heap.size := by rw [hbx.size]; exact h0
      refine bodyPost_ret (v := .tuple #[.agg #[.bool l5, .slice i1 y1 z1, .slice i3 y3 z3], .int .i64 ((0 : Nat) : Int)]) (by simp [results, Try.results49, go_sem, r0, r1, r2, hlw]) rfl ?_
      rw [HRW.out, if_neg (by simp), if_neg (by simp [HT.out])]
      refine ⟨l5, i1, y1, z1, i3, y3, z3, rfl, ?_, ((HBL.out.trans (hbx.chg.toBelowAt (by omega) (fun k hk e => by omega))).alloc (by omega) _)⟩
      refine K3.out.carry (fun b _ hb => Nat.le_trans (by simp) hb) (fun b hb hlt => ?_)
      have hb' : w.heap.size + 1 ≤ b := Nat.le_trans (by simp) hb
      rw [Below.heap_alloc _ _ _ (by rw [hbx.size]; exact hlt), hbx.other _ (by omega)]
  · have HE := Lib.hid he
    have hm : m = 0 := K2.out he
    have hy : y = .text [] := HERR.out he
    have ht : (((e1:Nat):Int) != 0) = true := by simp; omega
    have HY := Lib.hid hy
    subst hm
    clear he hy
    go_wp2_with fail
    have hbx := box3 HB5.out (.bool false) (.slice none 0 0) (.slice none 0 0)
    obtain ⟨W, hW⟩ : ∃ W, W = ((w5.setCell ⟨w.heap.size, 0, none⟩ (.bool false)).setCell ⟨w.heap.size, 1, none⟩ (.slice none 0 0)).setCell ⟨w.heap.size, 2, none⟩ (.slice none 0 0) := ⟨_, rfl⟩
    rw [← hW] at hbx ⊢
    obtain ⟨r0, r1, r2⟩ := cells3 hbx.at_
    have hlw : w.heap.size < W.heap.size := by rw [hbx.size]; exact h0
    refine bodyPost_ret (v := .tuple #[.agg #[.bool false, .slice none 0 0, .slice none 0 0], .int .i64 (e1 : Int)]) (by simp [results, Try.results49, go_sem, r0, r1, r2, hlw]) rfl ?_
    rw [HRW.out, if_pos HE.out]
    exact ⟨false, none, 0, 0, none, 0, 0, rfl, ⟨_, _, rfl, BytesAt.nil _ _, SliceAt.nil _ _ _ _⟩, ((HBL.out.trans (hbx.chg.toBelowAt (by omega) (fun k hk e => by omega))).alloc (by omega) _)⟩
end Go.Proofs.Ytndkkgkcbbmnpaa
namespace Go.Pg
open Go.RowKit
/-- a witness as an item -/
def witI (N C : List (List UInt8)) : It := .list [textsI N, textsI C]
/-- a witness' bytes, and the error's number -/
def witEncode (N C : List (List UInt8)) : List UInt8 × Nat :=
  if rising N && rising C then (if (witI N C).encode.2 = 0 then ((witI N C).encode.1, 0) else ([], 210)) else ([], 210)
end Go.Pg
namespace Go.Proofs.Ytndkkgkcbbmnpaa
open Go.RowKit Go.Pg

theorem pairI {w2 w3 w4 : World} {N C : List (List UInt8)} {v1 u1 v2 u2 : Value} (h3 : Below w2.heap.size w2 w3) (h4 : Below w3.heap.size w3 w4)
    (hit3 : ItemAt (fun b => w2.heap.size ≤ b) w3 2 [.bool true, v1, v2] (textsI N)) (hit4 : ItemAt (fun b => w3.heap.size ≤ b) w4 2 [.bool true, u1, u2] (textsI C)) (t : TypeId) :
    ItemsAt (fun b => w2.heap.size ≤ b) (w4.alloc (.cells #[.bool true, v1, v2, .bool true, u1, u2] t)) 2 (.slice (some ⟨w4.heap.size, 0, none⟩) 2 2) [textsI N, textsI C] := by
  have h1 : ItemAt (fun b => w2.heap.size ≤ b) w4 2 [.bool true, v1, v2] (textsI N) := hit3.below h4
  have h2 : ItemAt (fun b => w2.heap.size ≤ b) w4 2 [.bool true, u1, u2] (textsI C) := hit4.carry (fun b _ hb => Nat.le_trans h3.size hb) (fun _ _ _ => rfl)
  exact rows_alloc (l := [textsI N, textsI C]) (carriedItem 2) ((Rows.one h1 rfl).append (Rows.one h2 rfl)) (show 2 ≤ maxLen by decide) (fun _ _ x => x) (Nat.le_trans h3.size h4.size) t

set_option maxRecDepth 100000 in
set_option maxHeartbeats 1000000 in
theorem wencode_any (F : Nat → Prop) (w : World) (a1 a2 : Option Addr) (n1 c1 n2 c2 : Nat) (N C : List (List UInt8)) (hN : RowsAt F w (.slice a1 n1 c1) N) (hC : RowsAt F w (.slice a2 n2 c2) C)
    (hNl : N.length ≤ 1099511627776) (hCl : C.length ≤ 1099511627776) (hNx : ∀ x ∈ N, x.length ≤ 70368744177664) (hCx : ∀ x ∈ C, x.length ≤ 70368744177664) (hw : (witI N C).whole ≤ 70368744177664) :
    Calls Try.prog 13 #[.agg #[.slice a1 n1 c1, .slice a2 n2 c2]] w (Encd w (witEncode N C)) := by
  have HW := Lib.hid hw
  have HNX := Lib.hid hNx
  have HCX := Lib.hid hCx
  obtain ⟨W0, hW0⟩ : ∃ W0, W0 = w.alloc (.cells #[.slice a1 n1 c1, .slice a2 n2 c2] 24) := ⟨_, rfl⟩
  have hb0 : Below w.heap.size w W0 := by rw [hW0]; exact Bel.alloc (Bel.refl w) _
  have hk0 : W0.heap[w.heap.size]? = some (.cells #[.slice a1 n1 c1, .slice a2 n2 c2] 24 (0, 0)) := by rw [hW0]; exact heap_alloc_new w _
  have HW0 := Lib.hid hW0
  clear hw hNx hCx hW0
  obtain ⟨r1, hr1⟩ : ∃ r, r = rising N := ⟨_, rfl⟩
  obtain ⟨r2, hr2⟩ : ∃ r, r = rising C := ⟨_, rfl⟩
  have HR1 := Lib.hid hr1
  have HR2 := Lib.hid hr2
  clear hr1 hr2
  have hN0 := RowsAt.below hN hb0
  have hC0 := RowsAt.below hC hb0
  obtain ⟨p0, p1⟩ := cells2 hk0
  have hsz0 := (Array.getElem?_eq_some_iff.1 hk0).1
  have HK0 := Lib.hid hk0
  have HB0 := Lib.hid hb0
  clear hk0 hb0
  cases hr1v : r1
  · go_enter Try.func13, Try.ntmps13
    go_wp2_with fail
    rw [← HW0.out]
    refine (rises_any F W0 _ N hN0 (by omega)).mono ?_
    rintro e w1 ⟨rfl, hb1⟩
    rw [← HR1.out, hr1v]
    have HB1 := Lib.hid (Bel.call HB0.out hb1)
    clear hb1
    go_wp2
    go_ret2
    have hr : (rising N && rising C) = false := by rw [← HR1.out, hr1v]; rfl
    exact ⟨.slice none 0 0, by unfold witEncode; rw [hr]; rfl, by unfold witEncode; rw [hr]; exact OwnAt.nil _ _ _ _ _, HB1.out⟩
  · cases hr2v : r2
    · go_enter Try.func13, Try.ntmps13
      go_wp2_with fail
      rw [← HW0.out]
      refine (rises_any F W0 _ N hN0 (by omega)).mono ?_
      rintro e w1 ⟨rfl, hb1⟩
      rw [← HR1.out, hr1v]
      have q1 := (hb1.cell (p := ⟨w.heap.size, 1, none⟩) hsz0).trans p1
      have HB1 := Lib.hid hb1
      clear hb1
      go_wp2_with fail
      refine (rises_any F w1 _ C (RowsAt.below hC0 HB1.out) (by omega)).mono ?_
      rintro e w2 ⟨rfl, hb2⟩
      rw [← HR2.out, hr2v]
      have HB2 := Lib.hid (Bel.call (Bel.call HB0.out HB1.out) hb2)
      clear hb2 q1
      go_wp2
      go_ret2
      have hr : (rising N && rising C) = false := by rw [← HR2.out, hr2v]; simp
      exact ⟨.slice none 0 0, by unfold witEncode; rw [hr]; rfl, by unfold witEncode; rw [hr]; exact OwnAt.nil _ _ _ _ _, HB2.out⟩
    · go_enter Try.func13, Try.ntmps13
      go_wp2_with fail
      rw [← HW0.out]
      refine (rises_any F W0 _ N hN0 (by omega)).mono ?_
      rintro e w1 ⟨rfl, hb1⟩
      rw [← HR1.out, hr1v]
      have q1 := (hb1.cell (p := ⟨w.heap.size, 1, none⟩) hsz0).trans p1
      have HB1 := Lib.hid hb1
      clear hb1
      go_wp2_with fail
      refine (rises_any F w1 _ C (RowsAt.below hC0 HB1.out) (by omega)).mono ?_
      rintro e w2 ⟨rfl, hb2⟩
      rw [← HR2.out, hr2v]
      have HB2 := Lib.hid (Bel.call HB1.out hb2)
      clear hb2 q1
      have q0 := ((HB2.out).cell (p := ⟨w.heap.size, 0, none⟩) hsz0).trans p0
      have q1 := ((HB2.out).cell (p := ⟨w.heap.size, 1, none⟩) hsz0).trans p1
      go_wp2_with fail
      have hN2 : ∀ W : World, W.heap = w2.heap → RowsAt F W (.slice a1 n1 c1) N := fun W hW => RowsAt.carry (RowsAt.below hN0 HB2.out) (fun _ _ x => x) (fun b _ _ => by rw [hW])
      have hC2 : ∀ W : World, W.heap = w2.heap → RowsAt F W (.slice a2 n2 c2) C := fun W hW => RowsAt.carry (RowsAt.below hC0 HB2.out) (fun _ _ x => x) (fun b _ _ => by rw [hW])
      have hkeep : ∀ W, Below w2.heap.size w2 W → W.cell? ⟨w.heap.size, 0, none⟩ = some (.slice a1 n1 c1) ∧ W.cell? ⟨w.heap.size, 1, none⟩ = some (.slice a2 n2 c2) := fun W hW => ⟨cell_below hW q0, cell_below hW q1⟩
      have HN2 := Lib.hid hN2
      have HC2 := Lib.hid hC2
      have HK2 := Lib.hid hkeep
      clear hN2 hC2 hkeep
      go_region_held3 (fun w' => w'.cell? ⟨w.heap.size, 0, none⟩ = some (.slice a1 n1 c1) ∧ w'.cell? ⟨w.heap.size, 1, none⟩ = some (.slice a2 n2 c2)) (first | go_keep | exact HK2.out _ (by assumption) | exact HK2.out _ (Bel.alloc (by assumption) _))
        (first
          | (go_at_call_of 43 (Value.slice a1 n1 c1); refine (texts_any F _ _ N ?_ hNl HNX.out).mono ?_; (exact HN2.out _ rfl); rintro e w3 ⟨v3, rfl, hit3, hb3⟩; have hB3 : Below w2.heap.size w2 w3 := Bel.call (Bel.drew (Bel.refl w2)) hb3; obtain ⟨-, x1, y1, z1, x2, y2, z2, -, rfl, -, -⟩ := ItemAt.form hit3)
          | (go_at_call_of 43 (Value.slice a2 n2 c2); refine (texts_any F _ _ C ?_ hCl HCX.out).mono ?_; (exact RowsAt.below (HC2.out w2.drew rfl) hb3); rintro e w4 ⟨v4, rfl, hit4, hb4⟩; have hB4 : Below w2.heap.size w2 w4 := Bel.call hB3 hb4; obtain ⟨-, x1', y1', z1', x2', y2', z2', -, rfl, -, -⟩ := ItemAt.form hit4)
          | (go_at_call 42; refine (list_any (fun b => w2.heap.size ≤ b) _ _ 2 [textsI N, textsI C] ?_ (show 2 ≤ 1099511627776 by omega)).mono ?_; (exact pairI hB3 hb4 hit3 hit4 _); rintro e w5 ⟨v5, rfl, hit5, hb5⟩; have hB5 : Below w2.heap.size w2 w5 := Bel.call (Bel.alloc hB4 _) hb5; obtain ⟨-, x1'', y1'', z1'', x2'', y2'', z2'', -, rfl, -, -⟩ := ItemAt.form hit5)
          | (go_at_call 41; refine (encode_any _ w5 3 (witI N C) _ _ _ hit5 HW.out).mono ?_; rintro e w6 ⟨v6, rfl, ho6, hb6⟩; have hB6 : Below w2.heap.size w2 w6 := Bel.call hB5 hb6))
      have HB6 := Lib.hid (Bel.call HB0.out (Below.trans HB2.out (hB6.mono (HB2.out).size)))
      obtain ⟨E, hE⟩ : ∃ E, E = (witI N C).encode := ⟨_, rfl⟩
      rw [← hE] at ho6 ⊢
      have HE := Lib.hid hE
      have hbase := Nat.le_trans (HB0.out).size (HB2.out).size
      have hbase5 := hB5.size
      have ho7 := ho6.lower (Nat.le_trans hbase hbase5)
      clear hE hB3 hB4 hB5 hB6 hb3 hb4 hb5 hb6 hit3 hit4 hit5 ho6 q0 q1
      have hr : (rising N && rising C) = true := by rw [← HR1.out, ← HR2.out, hr1v, hr2v]; rfl
      have HR := Lib.hid hr
      clear hr
      by_cases he : E.2 = 0
      · have he2 : (((E.2 : Nat) : Int) != 0) = false := by simp; omega
        go_wp2
        go_ret2
        exact ⟨v6, by unfold witEncode; rw [if_pos HR.out, ← HE.out, if_pos he]; rfl, by unfold witEncode; rw [if_pos HR.out, ← HE.out, if_pos he]; exact ho7, HB6.out⟩
      · have he2 : (((E.2 : Nat) : Int) != 0) = true := by simp; omega
        go_wp2
        go_ret2
        exact ⟨.slice none 0 0, by unfold witEncode; rw [if_pos HR.out, ← HE.out, if_neg he]; rfl, by unfold witEncode; rw [if_pos HR.out, ← HE.out, if_neg he]; exact OwnAt.nil _ _ _ _ _, HB6.out⟩

end Go.Proofs.Ytndkkgkcbbmnpaa
namespace Go.Pg
/-- so many lists in one another -/
def It.shallow : Nat → It → Prop
  | _, .text _ => True
  | 0, .list _ => False
  | f + 1, .list l => ∀ y, y ∈ l → It.shallow f y
theorem whole_le_wholes (l : List It) (y : It) (h : y ∈ l) : y.whole ≤ It.wholes l := by
  induction l with
  | nil => cases h
  | cons x l ih =>
    simp only [It.wholes]
    rcases List.mem_cons.1 h with rfl | h
    · omega
    · have := ih h; omega
theorem fits_of_shallow : ∀ (f : Nat) (x : It), It.shallow f x → x.body ≤ 16777215 → It.fits f x
  | f, .text b, _, hb => by unfold It.fits; simpa [It.body] using hb
  | 0, .list l, h, _ => by unfold It.shallow at h; exact h.elim
  | f + 1, .list l, h, hb => by
    unfold It.shallow at h
    unfold It.fits
    simp only [It.body] at hb
    refine ⟨hb, fun y hy => fits_of_shallow f y (h y hy) ?_⟩
    have h1 := It.body_le_whole y
    have h2 := whole_le_wholes l y hy
    omega
theorem looks_all (deep : Nat) : ∀ (l : List It) (wt : Nat), (It.looks l deep wt).2 = 0 → ∀ y, y ∈ l → ∃ wt', (y.look deep wt').2 = 0
  | [], _, _, y, hy => by cases hy
  | x :: l, wt, h, y, hy => by
    simp only [It.looks] at h
    by_cases h0 : (x.look deep wt).2 = 0
    · rw [if_pos h0] at h
      rcases List.mem_cons.1 hy with rfl | hy
      · exact ⟨wt, h0⟩
      · exact looks_all deep l _ h y hy
    · rw [if_neg h0] at h; exact absurd h h0
theorem shallow_of_look : ∀ (f : Nat) (x : It) (deep wt : Nat), deep + f = 8 → (x.look deep wt).2 = 0 → It.shallow f x
  | f, .text b, _, _, _, _ => by unfold It.shallow; trivial
  | 0, .list l, deep, wt, hd, h => by
    obtain rfl : deep = 8 := by omega
    simp [It.look] at h
  | f + 1, .list l, deep, wt, hd, h => by
    unfold It.shallow
    have hlooks : ∃ wt', (It.looks l (deep + 1) wt').2 = 0 := by
      rw [look_list_eq] at h
      unfold lookOn at h
      by_cases h0 : (lookHead deep wt).2 = 0
      · rw [if_pos h0] at h; exact ⟨_, h⟩
      · rw [if_neg h0] at h; exact absurd h h0
    obtain ⟨wt', hl⟩ := hlooks
    intro y hy
    obtain ⟨wt2, h2⟩ := looks_all (deep + 1) l wt' hl y hy
    exact shallow_of_look f y (deep + 1) wt2 (by omega) h2
theorem looks_ok (deep : Nat) : ∀ (l : List It) (wt : Nat), (∀ y, y ∈ l → ∀ wt, wt + y.whole ≤ 16777215 → (y.look deep wt).2 = 0) → wt + It.wholes l ≤ 16777215 → (It.looks l deep wt).2 = 0
  | [], wt, _, _ => by simp [It.looks]
  | x :: l, wt, hall, h => by
    simp only [It.wholes] at h
    simp only [It.looks]
    have hx := hall x (List.mem_cons_self ..) wt (by omega)
    rw [if_pos hx]
    have hle := It.look_le x deep wt
    exact looks_ok deep l _ (fun y hy => hall y (List.mem_cons_of_mem _ hy)) (by omega)
theorem look_ok : ∀ (f : Nat) (x : It) (deep wt : Nat), deep + f = 8 → 1 ≤ deep → It.fits f x → wt + x.whole ≤ 16777215 → (x.look deep wt).2 = 0
  | f, .text b, deep, wt, _, _, _, h => by
    have h1 := It.body_le_whole (.text b)
    have h2 := It.whole_pos (.text b)
    simp only [It.body] at h1
    simp only [It.look]; rw [if_neg (by omega)]
  | 0, .list l, deep, wt, _, _, hf, h => by unfold It.fits at hf; exact hf.elim
  | f + 1, .list l, deep, wt, hd, h1, hf, h => by
    unfold It.fits at hf
    have h3 : It.wholes l + 1 ≤ (It.list l).whole := by
      simp only [It.whole]; exact sz_ge _
    simp only [It.look]
    rw [if_neg (by omega), if_neg (by omega), if_neg (by omega)]
    exact looks_ok (deep + 1) l (wt + 1) (fun y hy wt' h' => look_ok f y (deep + 1) wt' (by omega) (by omega) (hf.2 y hy) h') (by omega)
theorem encode_ok (x : It) (h : It.fits 8 x) : x.encode = (x.enc, 0) := by
  have hb : x.body ≤ 16777215 := by
    cases x with
    | text b => unfold It.fits at h; simpa [It.body] using h
    | list l => unfold It.fits at h; simpa [It.body] using h.1
  have hl : (x.look 0 0).2 = 0 := by
    cases x with
    | text b =>
      simp only [It.body] at hb
      simp only [It.look]; rw [if_neg (by omega)]
    | list l =>
      unfold It.fits at h
      simp only [It.body] at hb
      simp only [It.look]
      rw [if_neg (by omega), if_pos trivial, if_neg (by omega)]
      exact looks_ok 1 l 0 (fun y hy wt' h' => look_ok 7 y 1 wt' (by omega) (by omega) (h.2 y hy) h') (by omega)
  unfold It.encode
  rw [if_neg (by simp [hl]), if_neg (by omega)]
theorem encode_fits (x : It) (h : x.encode.2 = 0) : It.fits 8 x := by
  unfold It.encode at h
  by_cases h1 : (x.look 0 0).2 ≠ 0
  · rw [if_pos h1] at h; exact absurd h h1
  · rw [if_neg h1] at h
    by_cases h2 : 16777215 < x.body
    · rw [if_pos h2] at h; cases h
    · exact fits_of_shallow 8 x (shallow_of_look 8 x 0 0 rfl (by omega)) (by omega)

/-- the two lists of a witness' item -/
def part (x : It) (i : Nat) : List (List UInt8) := (x.items.getD i (.text [])).items.map It.bytes
/-- reading a witness -/
def witDecode (bs : List UInt8) : List (List UInt8) × List (List UInt8) × Nat :=
  if (rdWhole bs).1 = 0 ∧ (rdWhole bs).2.isList = true ∧ (rdWhole bs).2.items.length = 2 ∧ readOk ((rdWhole bs).2.items.getD 0 (.text [])) = true ∧ readOk ((rdWhole bs).2.items.getD 1 (.text [])) = true then
    (part (rdWhole bs).2 0, part (rdWhole bs).2 1, 0) else ([], [], 210)
theorem texts_of_flat (l : List It) (h : flat l = true) : (l.map It.bytes).map It.text = l := by
  unfold flat at h
  rw [List.all_eq_true] at h
  rw [List.map_map]
  conv => rhs; rw [← List.map_id l]
  refine List.map_congr_left fun y hy => ?_
  have := h y hy
  cases y with
  | text b => rfl
  | list l => simp [It.isList] at this
theorem item_of_readOk (x : It) (h : readOk x = true) : x = textsI (x.items.map It.bytes) ∧ rising (x.items.map It.bytes) = true := by
  unfold readOk at h
  simp only [Bool.and_eq_true] at h
  obtain ⟨h1, h2, h3⟩ := h
  refine ⟨?_, h3⟩
  cases x with
  | text b => simp [It.isList] at h2
  | list l => unfold textsI; simp only [It.items] at h1 ⊢; rw [texts_of_flat l h1]
theorem bytes_texts (N : List (List UInt8)) : (textsI N).items.map It.bytes = N := by
  unfold textsI
  simp only [It.items, List.map_map]
  conv => rhs; rw [← List.map_id N]
  rfl
theorem readOk_texts (N : List (List UInt8)) (h : rising N = true) : readOk (textsI N) = true := by
  unfold readOk
  rw [bytes_texts, h]
  simp [textsI, It.items, It.isList, flat]
theorem witDecode_sound (bs : List UInt8) (N C : List (List UInt8)) (h : witDecode bs = (N, C, 0)) : witEncode N C = (bs, 0) ∧ rdWhole bs = (0, witI N C) ∧ It.fits 8 (witI N C) := by
  unfold witDecode at h
  split at h
  · rename_i hc
    obtain ⟨h1, h2, h3, h4, h5⟩ := hc
    obtain ⟨e, x, hx⟩ : ∃ e x, rdWhole bs = (e, x) := ⟨_, _, rfl⟩
    rw [hx] at h h1 h2 h3 h4 h5
    simp only at h h1 h2 h3 h4 h5
    subst h1
    simp only [Prod.mk.injEq, and_true] at h
    obtain ⟨hN, hC⟩ := h
    obtain ⟨hb, hf⟩ := rdWhole_sound bs x hx
    cases x with
    | text b => simp [It.isList] at h2
    | list l =>
      simp only [It.items] at h3 h4 h5
      match l, h3 with
      | [i0, i1], _ =>
        simp only [List.getD_cons_zero, List.getD_cons_succ] at h4 h5
        obtain ⟨e0, r0⟩ := item_of_readOk i0 h4
        obtain ⟨e1, r1⟩ := item_of_readOk i1 h5
        have hN' : i0.items.map It.bytes = N := hN
        have hC' : i1.items.map It.bytes = C := hC
        rw [hN'] at e0 r0
        rw [hC'] at e1 r1
        subst e0 e1
        have hw : witI N C = .list [textsI N, textsI C] := rfl
        refine ⟨?_, by rw [hw]; exact hx, by rw [hw]; exact hf⟩
        unfold witEncode
        rw [r0, r1, hw, encode_ok _ hf, hb]
        rfl
  · simp at h
theorem witDecode_back (bs : List UInt8) (N C : List (List UInt8)) (h : witEncode N C = (bs, 0)) : witDecode bs = (N, C, 0) := by
  unfold witEncode at h
  by_cases hr : (rising N && rising C) = true
  · rw [if_pos hr] at h
    by_cases he : (witI N C).encode.2 = 0
    · rw [if_pos he] at h
      have hf := encode_fits _ he
      have hen := encode_ok _ hf
      rw [hen] at h
      simp only [Prod.mk.injEq, and_true] at h
      subst h
      have hrd := rdWhole_back _ hf
      simp only [Bool.and_eq_true] at hr
      unfold witDecode
      rw [hrd]
      have h0 : (witI N C).items = [textsI N, textsI C] := rfl
      rw [if_pos]
      · unfold part
        rw [h0]
        simp only [List.getD_cons_zero, List.getD_cons_succ, bytes_texts]
      · rw [h0]
        exact ⟨rfl, rfl, rfl, readOk_texts N hr.1, readOk_texts C hr.2⟩
    · rw [if_neg he] at h; simp at h
  · rw [if_neg hr] at h; simp at h
theorem witDecode_cases (bs : List UInt8) : (∃ N C, witDecode bs = (N, C, 0)) ∨ witDecode bs = ([], [], 210) := by
  unfold witDecode
  split
  · exact .inl ⟨_, _, rfl⟩
  · exact .inr rfl
/-- the document's: what bytes may say, if these are its encoding -/
def refDecode (bs : List UInt8) : List (List UInt8) × List (List UInt8) × Nat :=
  if (rdWhole bs).1 = 0 ∧ (rdWhole bs).2.items.length = 2 then
    (if witEncode (part (rdWhole bs).2 0) (part (rdWhole bs).2 1) = (bs, 0) then (part (rdWhole bs).2 0, part (rdWhole bs).2 1, 0) else ([], [], 210)) else ([], [], 210)
theorem refDecode_eq (bs : List UInt8) : refDecode bs = witDecode bs := by
  rcases witDecode_cases bs with ⟨N, C, h⟩ | h
  · rw [h]
    obtain ⟨h1, h2, h3⟩ := witDecode_sound bs N C h
    have hp0 : part (witI N C) 0 = N := by unfold part; exact bytes_texts N
    have hp1 : part (witI N C) 1 = C := by unfold part; exact bytes_texts C
    unfold refDecode
    rw [h2, if_pos ⟨rfl, rfl⟩]
    simp only [hp0, hp1]
    rw [if_pos h1]
  · rw [h]
    unfold refDecode
    split
    · split
      · rename_i h1 h2
        have := witDecode_back _ _ _ h2
        rw [h] at this
        simp at this
      · rfl
    · rfl
end Go.Pg
