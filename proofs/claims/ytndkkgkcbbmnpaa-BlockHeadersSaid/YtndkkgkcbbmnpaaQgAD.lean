/-
  Contract of (*nest.reader).item at bytes that are there, where that of list is known.
  The append law as one step of a region that draws its order.
  Contract of (*nest.reader).list, where that of item is known.
  Contract of (*nest.reader).list, where that of item is known.
-/
import Derived.Test.YtndkkgkcbbmnpaaQgAC
import Derived.Deep.AppendLies
import Derived.Deep.RegionLaw
import Derived.Deep.LoopGhost
namespace Go.Proofs.Ytndkkgkcbbmnpaa
open Go.RowKit Go.Pg

/-- the end: what was read stands in the result's box -/
theorem Itemd.done {F : Nat → Prop} {w W1 W : World} {rb D : Nat} {r : Nat × It × List UInt8} {l : Bool} {a1 a3 a2 : Option Addr} {n1 c1 n3 c3 n2 c2 : Nat} (hrb : rb < w.heap.size)
    (hi : r.1 = 0 → ItemAt (fun b => w.heap.size < b) W1 D [.bool l, .slice a1 n1 c1, .slice a3 n3 c3] r.2.1 ∧ BytesAt (fun b => F b ∧ b < w.heap.size) W1 (.slice a2 n2 c2) r.2.2)
    (hk : W1.heap[rb]? = some (.cells #[.slice a2 n2 c2, .int .i64 r.1] 117 (0, 0))) (hc : Chg (fun k => k = rb) w W1)
    (hb : Box3 W1 W w.heap.size (.bool l) (.slice a1 n1 c1) (.slice a3 n3 c3) 65) :
    Itemd F w rb D r (.returned (.agg #[.bool l, .slice a1 n1 c1, .slice a3 n3 c3])) W := by
  refine ⟨l, a1, n1, c1, a3, n3, c3, a2, n2, c2, rfl, fun h0 => ?_, ?_, ?_⟩
  · obtain ⟨h1, h2⟩ := hi h0
    exact ⟨h1.carry (fun b _ hb' => Nat.le_of_lt hb') (fun b hb' _ => hb.other b (by omega)), h2.carry (fun b _ hb' => hb'.1) (fun b hb' _ => hb.other b (by omega))⟩
  · rw [hb.other _ (by omega)]; exact hk
  · exact hc.trans hb.chg (fun i hi e => by omega)

theorem OwnAt.lit' (w : World) (e : TypeId) (x : UInt8) : OwnAt (w.alloc (.cells #[.int .u8 (x.toNat : Int)] e)) w.heap.size e 1 byteR (.slice (some ⟨w.heap.size, 0, none⟩) 1 1) [x] := by
  refine ⟨[.int .u8 (x.toNat : Int)], World.ownsRow_lit w #[.int .u8 (x.toNat : Int)] 1 (Nat.le_refl _) (by decide) rfl, Rows.one rfl rfl⟩

set_option maxRecDepth 100000 in
set_option maxHeartbeats 2000000 in
theorem item_some (F0 : Nat → Prop) (f : Nat) (hl : ∀ f', f = f' + 1 → RListC f') (w : World) (rb : Nat) (a : Option Addr) (n c deep : Nat) (x : UInt8) (t : List UInt8)
    (h0 : BytesAt F0 w (.slice a n c) (x :: t)) (hk : w.heap[rb]? = some (.cells #[.slice a n c, .int .i64 0] 117 (0, 0))) (hF0 : ¬ F0 rb) (hn : n ≤ 140737488351232) (hd : deep + f = 8) :
    Calls Try.prog 95 #[.pointer (some ⟨rb, 0, none⟩), .int .i64 deep] w (Itemd F0 w rb (f + 1) (rdItem f (x :: t))) := by
  have hlt := (Array.getElem?_eq_some_iff.1 hk).1
  obtain ⟨F, hFd⟩ : ∃ F : Nat → Prop, F = fun b => F0 b ∧ b < w.heap.size := ⟨_, rfl⟩
  have h : BytesAt F w (.slice a n c) (x :: t) := by rw [hFd]; exact h0.carry (fun b hb hF => ⟨hF, hb⟩) (fun _ _ _ => rfl)
  have hF : ¬ F rb := by rw [hFd]; exact fun h => hF0 h.1
  have hnl : n = t.length + 1 := by
    obtain ⟨a', c', hv, h1, -⟩ := h
    simp only [Value.slice.injEq] at hv
    simpa using hv.2.1
  have hk0 : (w.alloc (.cells #[.bool false, .slice none 0 0, .slice none 0 0] 65)).heap[rb]? = some (.cells #[.slice a n c, .int .i64 0] 117 (0, 0)) := by rw [Below.heap_alloc _ _ _ hlt]; exact hk
  have hbs0 : BytesAt F (w.alloc (.cells #[.bool false, .slice none 0 0, .slice none 0 0] 65)) (.slice a n c) (x :: t) := BytesAt.below h (Bel.alloc (Bel.refl w) _)
  have HK0 := Lib.hid hk0
  have HBS0 := Lib.hid hbs0
  have HFD := Lib.hid hFd
  have HNL := Lib.hid hnl
  have HLC := Lib.hid hl
  have hx := x.toNat_lt
  clear hk hk0 hbs0 h h0 hFd hnl hl
  go_enter Try.func95, Try.ntmps95
  go_wp2_with fail
  refine (take_ok F _ rb a n c 1 (x :: t) HBS0.out HK0.out hF (by have := HNL.out; omega) (by omega)).mono ?_
  rintro e w1 ⟨a1, c1, a2, n2, c2, rfl, hu, hs, hk1, hch⟩
  have hb1 : w1.heap[w.heap.size]? = some (.cells #[.bool false, .slice none 0 0, .slice none 0 0] 65 (0, 0)) := by
    rw [hch.block _ (by simp) (by omega)]; exact heap_alloc_new w _
  have hch1 : Chg (fun k => k = rb) w w1 := ((Chg.refl (fun k => k = rb) w).alloc _).trans hch (fun _ _ x => x)
  simp only [List.take_succ_cons, List.take_zero, List.drop_succ_cons, List.drop_zero] at hu hs
  have hn2 : n2 = t.length := by
    obtain ⟨a', c', hv, h1, -⟩ := hs
    simp only [Value.slice.injEq] at hv
    exact hv.2.1
  have hn2b : n2 ≤ 140737488351232 := by have := HNL.out; omega
  rcases SliceAt.split hu with ⟨hh, _⟩ | ⟨b, o, rfl, -, -, -⟩
  · cases hh
  have hcell := BytesAt.cell hu 0 (by simp)
  simp at hcell
  obtain ⟨q0, q1, q2⟩ := cells3 hb1
  have f0 := frozen_of_row w1 w.heap.size 0 _ _ hb1
  have f1 := frozen_of_row w1 w.heap.size 1 _ _ hb1
  have f2 := frozen_of_row w1 w.heap.size 2 _ _ hb1
  have hs1 := hch1.size
  have HU := Lib.hid hu
  have HS := Lib.hid hs
  have HK1 := Lib.hid hk1
  have HCH1 := Lib.hid hch1
  have HB1 := Lib.hid hb1
  have HN2 := Lib.hid hn2
  have hsb := (Array.getElem?_eq_some_iff.1 hb1).1
  clear hu hs hk1 hch hch1 hb1 hn2
  by_cases h128 : (x.toNat : Int) < 128
  · have hr : rdItem f (x :: t) = (0, .text [x], t) := by unfold rdItem; rw [if_pos (by omega)]
    have HR := Lib.hid hr
    clear hr
    go_wp2_with fail
    have hbx := (box3 HB1.out (.bool false) (.slice (some ⟨w1.heap.size, 0, none⟩) 1 1) (.slice none 0 0)).alloc (.cells #[.int .u8 (x.toNat : Int)] 5)
    obtain ⟨W, hW⟩ : ∃ W, W = (((w1.setCell ⟨w.heap.size, 0, none⟩ (.bool false)).setCell ⟨w.heap.size, 1, none⟩ (.slice (some ⟨w1.heap.size, 0, none⟩) 1 1)).setCell ⟨w.heap.size, 2, none⟩ (.slice none 0 0)).alloc (.cells #[.int .u8 (x.toNat : Int)] 5) := ⟨_, rfl⟩
    rw [← hW] at hbx ⊢
    obtain ⟨r0, r1, r2⟩ := cells3 hbx.at_
    refine bodyPost_ret (v := .agg #[.bool false, .slice (some ⟨w1.heap.size, 0, none⟩) 1 1, .slice none 0 0]) (by simp [results, Try.results95, go_sem, r0, r1, r2]) rfl ?_
    rw [HR.out]
    refine Itemd.done (F := F0) (a2 := a2) (n2 := n2) (c2 := c2) hlt (fun _ => ⟨⟨_, _, rfl, ?_, SliceAt.nil _ _ _ _⟩, ?_⟩) ?_ ?_ hbx
    · refine BytesAt.carry (F := fun b => w1.heap.size ≤ b) ?_ (fun b _ hb => by omega) (fun _ _ _ => rfl)
      exact SliceAt.carry (F := fun b => b = w1.heap.size) ((OwnAt.lit' w1 5 x).at (fun g hg _ _ => by simp [Value.ownBlock] at hg; exact hg.symm) (by decide)) (by decide) (fun b _ hb => by omega) (fun _ _ _ => rfl) (fun _ _ _ h => h)
    · rw [← HFD.out]; exact BytesAt.below HS.out (Bel.alloc (Bel.refl w1) _)
    · rw [Below.heap_alloc _ _ _ (by omega)]; exact HK1.out
    · exact HCH1.out.alloc _
  · have hr1 : ¬ x.toNat < 128 := by omega
    by_cases h192 : (192 : Int) ≤ (x.toNat : Int)
    · have hr2 : ¬ x.toNat < 192 := by omega
      cases f with
      | zero =>
        have hr : rdItem 0 (x :: t) = (21, .text [], []) := by unfold rdItem; rw [if_neg hr1, if_neg hr2]
        have HR := Lib.hid hr
        have hd8 : ((deep : Int) == 8) = true := by simp; omega
        clear hr
        go_wp2_with fail
        refine (int_fail _ rb a2 n2 c2 _ 21 rfl HK1.out).mono ?_
        rintro e w2 ⟨rfl, g1, g2⟩
        have hb2 := (g2.block _ hsb (by omega)).trans HB1.out
        have G1 := Lib.hid g1
        have G2 := Lib.hid g2
        have HB2 := Lib.hid hb2
        clear g1 g2 q0 q1 q2 f0 f1 f2
        obtain ⟨q0, q1, q2⟩ := cells3 hb2
        have f0 := frozen_of_row w2 w.heap.size 0 _ _ hb2
        have f1 := frozen_of_row w2 w.heap.size 1 _ _ hb2
        have f2 := frozen_of_row w2 w.heap.size 2 _ _ hb2
        clear hb2
        go_wp2_with fail
        have hbx := box3 HB2.out (.bool false) (.slice none 0 0) (.slice none 0 0)
        obtain ⟨W, hW⟩ : ∃ W, W = ((w2.setCell ⟨w.heap.size, 0, none⟩ (.bool false)).setCell ⟨w.heap.size, 1, none⟩ (.slice none 0 0)).setCell ⟨w.heap.size, 2, none⟩ (.slice none 0 0) := ⟨_, rfl⟩
        rw [← hW] at hbx ⊢
        obtain ⟨r0, r1, r2⟩ := cells3 hbx.at_
        refine bodyPost_ret (v := .agg #[.bool false, .slice none 0 0, .slice none 0 0]) (by simp [results, Try.results95, go_sem, r0, r1, r2]) rfl ?_
        rw [HR.out]
        exact Itemd.done (F := F0) hlt (fun h => by cases h) G1.out (HCH1.out.trans G2.out (fun _ _ x => x)) hbx
      | succ f' =>
        obtain ⟨m, hm⟩ : ∃ m : Nat, x.toNat = m + 192 := ⟨x.toNat - 192, by omega⟩
        have hmi : (x.toNat : Int) - 192 = (m : Int) := by omega
        have hr : rdItem (f' + 1) (x :: t) = rdList (rdItem f') (readSize m t) := by
          rw [rdItem, if_neg hr1, if_neg hr2, hm, Nat.add_sub_cancel]
        have HR := Lib.hid hr
        have HM := Lib.hid hm
        have hd8 : ((deep : Int) == 8) = false := by simp; omega
        clear hr hm
        go_wp2_with fail
        refine (HLC.out f' rfl F _ rb a2 n2 c2 deep m t HS.out HK1.out hF hn2b (by omega) (by have := HM.out; omega)).mono ?_
        rintro e w2 ⟨l, b1, m1, d1, b3, m3, d3, b2, m2, d2, rfl, g0, g1, g2⟩
        have hb2 := (g2.block _ hsb (by omega)).trans HB1.out
        have G0 := Lib.hid g0
        have G1 := Lib.hid g1
        have G2 := Lib.hid g2
        have HB2 := Lib.hid hb2
        clear g0 g1 g2 q0 q1 q2 f0 f1 f2
        obtain ⟨q0, q1, q2⟩ := cells3 hb2
        have f0 := frozen_of_row w2 w.heap.size 0 _ _ hb2
        have f1 := frozen_of_row w2 w.heap.size 1 _ _ hb2
        have f2 := frozen_of_row w2 w.heap.size 2 _ _ hb2
        clear hb2
        go_wp2_with fail
        have hbx := box3 HB2.out (.bool l) (.slice b1 m1 d1) (.slice b3 m3 d3)
        obtain ⟨W, hW⟩ : ∃ W, W = ((w2.setCell ⟨w.heap.size, 0, none⟩ (.bool l)).setCell ⟨w.heap.size, 1, none⟩ (.slice b1 m1 d1)).setCell ⟨w.heap.size, 2, none⟩ (.slice b3 m3 d3) := ⟨_, rfl⟩
        rw [← hW] at hbx ⊢
        obtain ⟨r0, r1, r2⟩ := cells3 hbx.at_
        refine bodyPost_ret (v := .agg #[.bool l, .slice b1 m1 d1, .slice b3 m3 d3]) (by simp [results, Try.results95, go_sem, r0, r1, r2]) rfl ?_
        rw [HR.out]
        refine Itemd.done (F := F0) hlt (fun h => ?_) G1.out (HCH1.out.trans G2.out (fun _ _ x => x)) hbx
        obtain ⟨g3, g4⟩ := G0.out h
        exact ⟨g3.carry (fun b _ hb => by omega) (fun _ _ _ => rfl), by rw [← HFD.out]; exact g4⟩
    · obtain ⟨m, hm⟩ : ∃ m : Nat, x.toNat = m + 128 := ⟨x.toNat - 128, by omega⟩
      have hmi : (x.toNat : Int) - 128 = (m : Int) := by omega
      have hr : rdItem f (x :: t) = rdText (readSize m t) := by
        unfold rdItem; rw [if_neg hr1, if_pos (by omega), hm, Nat.add_sub_cancel]
      have hsl := readSize_le m t
      have HM := Lib.hid hm
      obtain ⟨e1, k, rest, hrs⟩ : ∃ e1 k rest, readSize m t = (e1, k, rest) := ⟨_, _, _, rfl⟩
      rw [hrs] at hr hsl
      have HR := Lib.hid hr
      have HRS := Lib.hid hrs
      have hk24 : k ≤ 16777215 := hsl.1
      have hrl : rest.length ≤ 140737488351232 := by have h2 : rest.length ≤ t.length := hsl.2; have := HN2.out; omega
      clear hr hm hrs hsl
      go_wp2_with fail
      refine (size_any F _ rb a2 n2 c2 m t HS.out HK1.out hF (by omega) (by have := HM.out; omega)).mono ?_
      rintro e w2 ⟨s1, s2, a3, n3, c3, s3, g1, g2⟩
      rw [HRS.out] at s1 s2 s3 g1
      have hb2 := (g2.block _ hsb (by omega)).trans HB1.out
      have hsb2 := (Array.getElem?_eq_some_iff.1 hb2).1
      have S3 := Lib.hid s3
      have G1 := Lib.hid g1
      have G2 := Lib.hid (HCH1.out.trans g2 (fun _ _ x => x))
      have HB2 := Lib.hid hb2
      clear g1 g2 s3 q0 q1 q2 f0 f1 f2 hcell
      obtain ⟨q0, q1, q2⟩ := cells3 hb2
      have f0 := frozen_of_row w2 w.heap.size 0 _ _ hb2
      have f1 := frozen_of_row w2 w.heap.size 1 _ _ hb2
      have f2 := frozen_of_row w2 w.heap.size 2 _ _ hb2
      clear hb2
      by_cases he1 : e1 = 0
      · subst he1
        obtain rfl := s1 rfl
        have s3 := S3.out rfl
        have hn3 : n3 = rest.length := by
          obtain ⟨a', c', hv, h1, -⟩ := s3
          simp only [Value.slice.injEq] at hv
          exact hv.2.1
        have hn3b : n3 ≤ 140737488351232 := by omega
        have HN3 := Lib.hid hn3
        have HS3 := Lib.hid s3
        clear s1 s2 s3 hn3
        go_wp2_with fail
        by_cases hkn : n3 < k
        · have HR2 : Hid (rdItem f (x :: t) = (22, .text [], [])) := by
            show _ = _
            rw [HR.out, rdText, if_neg (by simp), if_pos (by have := HN3.out; simp only; omega)]
          refine (take_no _ rb a3 n3 c3 _ G1.out (by omega)).mono ?_
          rintro e w3 ⟨rfl, g3, g4⟩
          have hb3 := (g4.block _ hsb2 (by omega)).trans HB2.out
          have hsb3 := (Array.getElem?_eq_some_iff.1 hb3).1
          have hrb3 := (Array.getElem?_eq_some_iff.1 g3).1
          have G3 := Lib.hid g3
          have G4 := Lib.hid (G2.out.trans g4 (fun _ _ x => x))
          have HB3 := Lib.hid hb3
          clear g3 g4 q0 q1 q2 f0 f1 f2 hb3
          go_wp2_with fail
          refine (cloneB_any F w3 (.slice none 0 0) [] (BytesAt.nil _ _) (by simp)).mono ?_
          rintro e w4 ⟨v4, rfl, ho4, hb4⟩
          obtain ⟨a4, c4, rfl, -, -, -⟩ := ho4.len
          obtain ⟨n4, hn4⟩ : ∃ n4, n4 = ([] : List UInt8).length := ⟨_, rfl⟩
          rw [← hn4]
          have hb4' := (hb4.block _ hsb3).trans HB3.out
          have G5 := Lib.hid ((hb4.block _ hrb3).trans G3.out)
          have G6 := Lib.hid (G4.out.trans (Chg.ofBelow hb4 (fun k => k = rb)) (fun _ _ x => x))
          have HB4 := Lib.hid hb4'
          obtain ⟨q0, q1, q2⟩ := cells3 hb4'
          have f0 := frozen_of_row w4 w.heap.size 0 _ _ hb4'
          have f1 := frozen_of_row w4 w.heap.size 1 _ _ hb4'
          have f2 := frozen_of_row w4 w.heap.size 2 _ _ hb4'
          clear hb4 hb4' ho4 hn4
          go_wp2_with fail
          have hbx := box3 HB4.out (.bool false) (.slice a4 n4 c4) (.slice none 0 0)
          obtain ⟨W, hW⟩ : ∃ W, W = ((w4.setCell ⟨w.heap.size, 0, none⟩ (.bool false)).setCell ⟨w.heap.size, 1, none⟩ (.slice a4 n4 c4)).setCell ⟨w.heap.size, 2, none⟩ (.slice none 0 0) := ⟨_, rfl⟩
          rw [← hW] at hbx ⊢
          obtain ⟨r0, r1, r2⟩ := cells3 hbx.at_
          refine bodyPost_ret (v := .agg #[.bool false, .slice a4 n4 c4, .slice none 0 0]) (by simp [results, Try.results95, go_sem, r0, r1, r2]) rfl ?_
          rw [HR2.out]
          exact Itemd.done (F := F0) hlt (fun h => by cases h) G5.out G6.out hbx
        · have HR2 : Hid (rdItem f (x :: t) = if k = 1 ∧ (rest.headD 0).toNat < 128 then (23, .text [], []) else (0, .text (rest.take k), rest.drop k)) := by
            show _ = _
            rw [HR.out, rdText, if_neg (by simp), if_neg (by have := HN3.out; simp only; omega)]
          refine (take_ok F _ rb a3 n3 c3 k rest HS3.out G1.out hF (by omega) (by omega)).mono ?_
          rintro e w3 ⟨b1, d1, b2, m2, d2, rfl, hu, hs, g3, g4⟩
          have hb3 := (g4.block _ hsb2 (by omega)).trans HB2.out
          have hsb3 := (Array.getElem?_eq_some_iff.1 hb3).1
          have hrb3 := (Array.getElem?_eq_some_iff.1 g3).1
          have G3 := Lib.hid g3
          have G4 := Lib.hid (G2.out.trans g4 (fun _ _ x => x))
          have HB3 := Lib.hid hb3
          have HS3' := Lib.hid hs
          have HU3 := Lib.hid hu
          have htl : (rest.take k).length ≤ 140737488351232 := by rw [List.length_take]; omega
          have hcase : (k = 1 ∧ ∃ g o y, b1 = some ⟨g, o, none⟩ ∧ w3.cell? ⟨g, o, none⟩ = some (.int .u8 ((y : UInt8).toNat : Int)) ∧ rest.headD 0 = y) ∨ ((k : Int) == 1) = false := by
            by_cases hk1 : k = 1
            · left
              refine ⟨hk1, ?_⟩
              subst hk1
              cases rest with
              | nil => have := HN3.out; simp at this; omega
              | cons y r =>
                simp only [List.take_succ_cons, List.take_zero] at hu
                rcases SliceAt.split hu with ⟨hh, _⟩ | ⟨g, o, rfl, -, -, -⟩
                · cases hh
                · have := BytesAt.cell hu 0 (by simp)
                  exact ⟨g, o, y, rfl, by simpa using this, rfl⟩
            · right; simp; omega
          clear g3 g4 q0 q1 q2 f0 f1 f2 hs hu
          by_cases hbad : k = 1 ∧ (rest.headD 0).toNat < 128
          · rcases hcase with ⟨rfl, g, o, y, rfl, hc, hy⟩ | hk1
            · have hy128 : (y.toNat : Int) < 128 := by have := hbad.2; rw [hy] at this; omega
              have HR3 : Hid (rdItem f (x :: t) = (23, .text [], [])) := by show _ = _; rw [HR2.out, if_pos hbad]
              clear hbad hy
              go_wp2_with fail
              refine (int_fail _ rb b2 m2 d2 _ 23 rfl G3.out).mono ?_
              rintro e w4 ⟨rfl, g5, g6⟩
              have hb4' := (g6.block _ hsb3 (by omega)).trans HB3.out
              have G5 := Lib.hid g5
              have G6 := Lib.hid (G4.out.trans g6 (fun _ _ x => x))
              have HB4 := Lib.hid hb4'
              obtain ⟨q0, q1, q2⟩ := cells3 hb4'
              have f0 := frozen_of_row w4 w.heap.size 0 _ _ hb4'
              have f1 := frozen_of_row w4 w.heap.size 1 _ _ hb4'
              have f2 := frozen_of_row w4 w.heap.size 2 _ _ hb4'
              clear hb4' g5 g6
              go_wp2_with fail
              have hbx := box3 HB4.out (.bool false) (.slice none 0 0) (.slice none 0 0)
              obtain ⟨W, hW⟩ : ∃ W, W = ((w4.setCell ⟨w.heap.size, 0, none⟩ (.bool false)).setCell ⟨w.heap.size, 1, none⟩ (.slice none 0 0)).setCell ⟨w.heap.size, 2, none⟩ (.slice none 0 0) := ⟨_, rfl⟩
              rw [← hW] at hbx ⊢
              obtain ⟨r0, r1, r2⟩ := cells3 hbx.at_
              refine bodyPost_ret (v := .agg #[.bool false, .slice none 0 0, .slice none 0 0]) (by simp [results, Try.results95, go_sem, r0, r1, r2]) rfl ?_
              rw [HR3.out]
              exact Itemd.done (F := F0) hlt (fun h => by cases h) G5.out G6.out hbx
            · simp at hk1; omega
          · have HR3 : Hid (rdItem f (x :: t) = (0, .text (rest.take k), rest.drop k)) := by show _ = _; rw [HR2.out, if_neg hbad]
            have hcase2 : (k = 1 ∧ ∃ g o y, b1 = some ⟨g, o, none⟩ ∧ w3.cell? ⟨g, o, none⟩ = some (.int .u8 ((y : UInt8).toNat : Int)) ∧ ¬ (y.toNat : Int) < 128) ∨ ((k : Int) == 1) = false := by
              rcases hcase with ⟨hk1, g, o, y, hb, hc, hy⟩ | hk1
              · exact .inl ⟨hk1, g, o, y, hb, hc, fun h => hbad ⟨hk1, by rw [hy]; omega⟩⟩
              · exact .inr hk1
            clear hcase hbad
            obtain ⟨L, hL⟩ : ∃ L, L = rest.take k := ⟨_, rfl⟩
            rw [← hL] at HU3 HR3 htl
            clear hL
            rcases hcase2 with ⟨rfl, g, o, y, rfl, hc, hy⟩ | hk1
            all_goals
              go_wp2_with fail
              refine (cloneB_any F w3 _ L HU3.out htl).mono ?_
              rintro e w4 ⟨v4, rfl, ho4, hb4⟩
              obtain ⟨a4, c4, rfl, -, -, -⟩ := ho4.len
              have HO4 := Lib.hid ho4
              have hb4' := (hb4.block _ hsb3).trans HB3.out
              have G5 := Lib.hid ((hb4.block _ hrb3).trans G3.out)
              have G6 := Lib.hid (G4.out.trans (Chg.ofBelow hb4 (fun k => k = rb)) (fun _ _ x => x))
              have HS4 := Lib.hid (BytesAt.below HS3'.out hb4)
              have HB4 := Lib.hid hb4'
              obtain ⟨q0, q1, q2⟩ := cells3 hb4'
              have f0 := frozen_of_row w4 w.heap.size 0 _ _ hb4'
              have f1 := frozen_of_row w4 w.heap.size 1 _ _ hb4'
              have f2 := frozen_of_row w4 w.heap.size 2 _ _ hb4'
              clear hb4 hb4' ho4
              obtain ⟨n4, hn4⟩ : ∃ n4, n4 = L.length := ⟨_, rfl⟩
              rw [← hn4] at HO4 ⊢
              clear hn4
              go_wp2_with fail
              have hbx := box3 HB4.out (.bool false) (.slice a4 n4 c4) (.slice none 0 0)
              obtain ⟨W, hW⟩ : ∃ W, W = ((w4.setCell ⟨w.heap.size, 0, none⟩ (.bool false)).setCell ⟨w.heap.size, 1, none⟩ (.slice a4 n4 c4)).setCell ⟨w.heap.size, 2, none⟩ (.slice none 0 0) := ⟨_, rfl⟩
              rw [← hW] at hbx ⊢
              obtain ⟨r0, r1, r2⟩ := cells3 hbx.at_
              refine bodyPost_ret (v := .agg #[.bool false, .slice a4 n4 c4, .slice none 0 0]) (by simp [results, Try.results95, go_sem, r0, r1, r2]) rfl ?_
              rw [HR3.out]
              exact Itemd.done (F := F0) hlt (fun _ => ⟨⟨_, _, rfl, HO4.out.at (fun g _ hg _ => by omega) (by decide), SliceAt.nil _ _ _ _⟩, by rw [← HFD.out]; exact HS4.out⟩) G5.out G6.out hbx
      · obtain rfl := s2 he1
        have HR2 : Hid (rdItem f (x :: t) = (e1, .text [], [])) := by
          show _ = _
          rw [HR.out, rdText, if_pos he1]
        clear s1 s2
        go_wp2_with fail
        have hbx := box3 HB2.out (.bool false) (.slice none 0 0) (.slice none 0 0)
        obtain ⟨W, hW⟩ : ∃ W, W = ((w2.setCell ⟨w.heap.size, 0, none⟩ (.bool false)).setCell ⟨w.heap.size, 1, none⟩ (.slice none 0 0)).setCell ⟨w.heap.size, 2, none⟩ (.slice none 0 0) := ⟨_, rfl⟩
        rw [← hW] at hbx ⊢
        obtain ⟨r0, r1, r2⟩ := cells3 hbx.at_
        refine bodyPost_ret (v := .agg #[.bool false, .slice none 0 0, .slice none 0 0]) (by simp [results, Try.results95, go_sem, r0, r1, r2]) rfl ?_
        rw [HR2.out]
        exact Itemd.done (F := F0) hlt (fun h => absurd h he1) G1.out G2.out hbx
end Go.Proofs.Ytndkkgkcbbmnpaa
namespace Go.Pg
open Go.RowKit
section
variable {α : Type}
theorem OwnAt.drew' {w : World} {base : Nat} {e : TypeId} {sz : Nat} {R : List Value → α → Prop} {v : Value} {l : List α} (h : OwnAt w base e sz R v l) : OwnAt w.drew base e sz R v l := h.carry (fun _ _ _ _ => rfl)
theorem SliceAt.drew' {F : Nat → Prop} {w : World} {sz : Nat} {R : List Value → α → Prop} {v : Value} {l : List α} (h : SliceAt F w sz R v l) (hsz : 0 < sz) : SliceAt F w.drew sz R v l := h.carry hsz (fun _ _ x => x) (fun _ _ _ => rfl) (fun _ _ _ h => h)
/-- append of a list that is not empty, as one step of a region: the new value is written out -/
theorem step_append_at {P : Program} {ops : Array Oper} {o : Oper} {a : Act} {w : World} {K : Act → World → Prop} {Q : Exit → Act → World → Prop} {E : Prop} (hgd : o.guard = none) (s x : Operand) (t : TypeId)
    (ho : o.op = .call { callee := .builtin .append, args := #[s, x], argTypes := #[t, t] })
    (base : Nat) (e : TypeId) (i : TypeInfo) (z : Value) (sz bytes : Nat) (ht : P.underlying t = some (.slice e)) (hi : P.info? e = some i) (hz : i.zero = some z)
    (hsize : i.size = sz) (hby : i.bytes = bytes) (hzs : z.cells.size = sz) (hsz : 0 < sz) (hb0 : 0 < bytes)
    {R : List Value → α → Prop} (hR1 : ∀ cs x, R cs x → ∀ u ∈ cs, u.oneCell' = true)
    (v : Value) (l : List α) (hs : a.eval s = v) (hown : OwnAt w base e sz R v l)
    (u : Value) (m : List α) (F : Nat → Prop) (hx : a.eval x = u) (hsrc : SliceAt F w sz R u m) (hm0 : 0 < m.length)
    (hbytes : (l.length + m.length) * bytes ≤ 140737488355328) (hbase : base ≤ w.heap.size) (n' : Nat) (hn' : l.length + m.length = n')
    (h : ∀ g cap w', OwnAt w' base e sz R (.slice (some ⟨g, 0, none⟩) n' cap) (l ++ m) → w.grownBy w' v.ownBlock → Moved w v (.slice (some ⟨g, 0, none⟩) n' cap) →
      K (a.put o.dst (.slice (some ⟨g, 0, none⟩) n' cap)) w') :
    if Region.wanted o (yielded ops a.tmps) = true then Oper.wp P o a w K Q else E := by
  have hw : Region.wanted o (yielded ops a.tmps) = true := by simp [Region.wanted, hgd]
  rw [if_pos hw]
  obtain ⟨xs, h1, h2⟩ := hown
  have h63 : l.length + m.length ≤ maxLen := by
    have : l.length + m.length ≤ (l.length + m.length) * bytes := Nat.le_mul_of_pos_right _ hb0
    unfold maxLen; omega
  rcases SliceAt.cases hsrc with ⟨rfl, -⟩ | ⟨b, off, c, hv, hl, hc, hm, hF⟩
  · simp at hm0
  · subst hv
    obtain ⟨news, k1, k2⟩ := SliceAt.rows hsrc
    have hcell : ∀ j u, news[j]? = some u → w.cell? ((⟨b, off, none⟩ : Addr).add j) = some u := fun j u hu => by
      have : (⟨b, off, none⟩ : Addr).add j = ⟨b, off + j, none⟩ := by unfold Addr.add; split <;> simp_all
      rw [this]; exact k2 j u hu
    obtain ⟨v', w', r1, r2, r3, r4⟩ := run_append_where (P := P) w base t o.type e i z sz bytes ht hi hz hsize hby hzs hsz v l.length xs h1 ⟨b, off, none⟩ m.length c news k1.1 hcell (k1.each hsz _ hR1) h63 hbytes hbase
    unfold Oper.wp execOp
    simp only [ho, resolve, invoke, builtin, Sem.run_bind, Sem.run_pure, Result.andThen_ok, List.map_toArray, List.map_cons, List.map_nil, hs, hx, r1]
    rcases r2.2 with ⟨_, h0⟩ | ⟨g, cap, cur, rfl, rest⟩
    · omega
    · subst hn'; exact h g cap w' ⟨xs ++ news, by simpa using r2, h2.append k1⟩ r3 r4
end
end Go.Pg
namespace Go.Pg
open Go.RowKit
/-- an item, or three cells of its make -/
def OItem (d : Nat) (F : Nat → Prop) (w : World) (cs : List Value) : Option It → Prop
  | some x => ItemAt F w d cs x
  | none => ∃ l a n c a' n' c', cs = [.bool l, .slice a n c, .slice a' n' c']
theorem carriedO (d : Nat) : Carried (OItem d) := by
  refine ⟨fun {F F' w w' cs x} h hF hb => ?_, fun {F w} cs x h => ?_⟩
  · cases x with
    | some x => exact ItemAt.carry hF hb d cs x h
    | none => exact h
  · cases x with
    | some x => exact ItemAt.one d cs x h
    | none =>
      obtain ⟨l, a, n, c, a', n', c', rfl⟩ := h
      intro u hu
      simp at hu
      rcases hu with rfl | rfl | rfl <;> rfl
/-- reading an item takes at least a byte -/
theorem rdText_rest (t : List UInt8) (r : Nat × Nat × List UInt8) (h : r.2.2.length ≤ t.length) : (rdText r).2.2.length ≤ t.length := by
  unfold rdText
  split
  · simp
  · split
    · simp
    · split
      · simp
      · simp; omega
theorem rdList_rest (rd : List UInt8 → Nat × It × List UInt8) (t : List UInt8) (r : Nat × Nat × List UInt8) (h : r.2.2.length ≤ t.length) : (rdList rd r).2.2.length ≤ t.length := by
  unfold rdList
  split
  · simp
  · split
    · simp
    · split
      · simp
      · simp; omega
theorem rdItem_rest (f : Nat) (c : UInt8) (t : List UInt8) : (rdItem f (c :: t)).2.2.length ≤ t.length := by
  by_cases h1 : c.toNat < 128
  · have : rdItem f (c :: t) = (0, .text [c], t) := by unfold rdItem; rw [if_pos h1]
    rw [this]; exact Nat.le_refl _
  · by_cases h2 : c.toNat < 192
    · have : rdItem f (c :: t) = rdText (readSize (c.toNat - 128) t) := by unfold rdItem; rw [if_neg h1, if_pos h2]
      rw [this]; exact rdText_rest t (readSize (c.toNat - 128) t) (readSize_le _ _).2
    · cases f with
      | zero =>
        have : rdItem 0 (c :: t) = (21, .text [], []) := by unfold rdItem; rw [if_neg h1, if_neg h2]
        rw [this]; exact Nat.zero_le _
      | succ f =>
        have : rdItem (f + 1) (c :: t) = rdList (rdItem f) (readSize (c.toNat - 192) t) := by rw [rdItem, if_neg h1, if_neg h2]
        rw [this]; exact rdList_rest (rdItem f) t (readSize (c.toNat - 192) t) (readSize_le _ _).2
/-- how far a list's reading has come: what was gathered, the fault, the bytes behind -/
def ListSt (f K : Nat) (L : List UInt8) (os : List (Option It)) (e : Nat) (rest : List UInt8) : Prop :=
  (e = 0 → ∃ j its, os = its.map some ∧ rest.length ≤ j ∧ (rdAll (rdItem f) K L).1 = (rdAll (rdItem f) j rest).1 ∧ (rdAll (rdItem f) K L).2 = its ++ (rdAll (rdItem f) j rest).2) ∧
    (e ≠ 0 → (rdAll (rdItem f) K L).1 = e)
theorem ListSt.start (f : Nat) (K : Nat) (L : List UInt8) (h : L.length ≤ K) : ListSt f K L [] 0 L :=
  ⟨fun _ => ⟨K, [], rfl, h, rfl, rfl⟩, fun h => absurd rfl h⟩
theorem ListSt.step {f K : Nat} {L : List UInt8} {os : List (Option It)} {c : UInt8} {t : List UInt8} (h : ListSt f K L os 0 (c :: t)) :
    ListSt f K L (os ++ [if (rdItem f (c :: t)).1 = 0 then some (rdItem f (c :: t)).2.1 else none]) (rdItem f (c :: t)).1 (rdItem f (c :: t)).2.2 := by
  obtain ⟨j, its, h1, h2, h3, h4⟩ := h.1 rfl
  have hr := rdItem_rest f c t
  cases j with
  | zero => simp at h2
  | succ j =>
    simp only [rdAll] at h3 h4
    rw [if_neg (by simp)] at h3 h4
    refine ⟨fun h0 => ?_, fun hn => ?_⟩
    · rw [if_neg (by simp [h0])] at h3 h4
      refine ⟨j, its ++ [(rdItem f (c :: t)).2.1], by rw [if_pos h0, h1]; simp, by simp at h2; omega, h3, by rw [h4]; simp⟩
    · rw [if_pos hn] at h3
      exact h3
theorem ListSt.done {f K : Nat} {L : List UInt8} {os : List (Option It)} (h : ListSt f K L os 0 []) : (rdAll (rdItem f) K L).1 = 0 ∧ os = (rdAll (rdItem f) K L).2.map some := by
  obtain ⟨j, its, h1, h2, h3, h4⟩ := h.1 rfl
  have : rdAll (rdItem f) j [] = (0, []) := by cases j <;> simp [rdAll]
  rw [this] at h3 h4
  exact ⟨h3, by rw [h4]; simpa using h1⟩
end Go.Pg
namespace Go.Proofs.Ytndkkgkcbbmnpaa
open Go.RowKit Go.Pg

/-- the loop's state: the inner reader, the list that is gathered -/
structure LsSt (F : Nat → Prop) (f K : Nat) (L : List UInt8) (w3 wr : World) (ib : Nat) (os : List (Option It)) (e : Nat) (rest : List UInt8) (ar : Option Addr) (nr cr : Nat) (as_ : Option Addr) (cs : Nat) : Prop where
  rd : wr.heap[ib]? = some (.cells #[.slice ar nr cr, .int .i64 e] 117 (0, 0))
  ls : wr.heap[ib + 1]? = some (.cells #[.bool true, .slice none 0 0, .slice as_ os.length cs] 65 (0, 0))
  own : OwnList (OItem (f + 1)) (fun b => ib + 1 < b) (ib + 2) wr 65 3 (.slice as_ os.length cs) os
  bel : Below w3.heap.size w3 wr
  st : ListSt f K L os e rest
  bytes : e = 0 → BytesAt F wr (.slice ar nr cr) rest
  len : os.length + rest.length ≤ K
theorem LsSt.nr {F : Nat → Prop} {f K : Nat} {L : List UInt8} {w3 wr : World} {ib : Nat} {os : List (Option It)} {e : Nat} {rest : List UInt8} {ar : Option Addr} {nr cr : Nat} {as_ : Option Addr} {cs : Nat} (h : LsSt F f K L w3 wr ib os e rest ar nr cr as_ cs) (he : e = 0) : nr = rest.length := by
  obtain ⟨a', c', hv, h1, -⟩ := h.bytes he
  simp only [Value.slice.injEq] at hv
  exact hv.2.1

theorem items_of_some {F : Nat → Prop} {w : World} {d : Nat} {v : Value} {its : List It} (h : SliceAt F w 3 (OItem d F w) v (its.map some)) : ItemsAt F w d v its := by
  obtain ⟨a, c, hv, h1, h2, h3, h4, h5⟩ := h
  simp only [List.length_map] at hv h1 h4 h5
  refine ⟨a, c, hv, h1, h2, h3, fun hp => ?_, h5⟩
  obtain ⟨b, o, ha, hF, hr⟩ := h4 hp
  exact ⟨b, o, ha, hF, fun i x hx => hr i (some x) (by rw [List.getElem?_map, hx]; rfl)⟩
theorem LsSt.done {F : Nat → Prop} {f K : Nat} {L : List UInt8} {w3 wr : World} {ib : Nat} {os : List (Option It)} {ar : Option Addr} {nr cr : Nat} {as_ : Option Addr} {cs : Nat} (h : LsSt F f K L w3 wr ib os 0 [] ar nr cr as_ cs) :
    (rdAll (rdItem f) K L).1 = 0 ∧ ItemAt (fun b => ib + 1 < b) wr (f + 2) [.bool true, .slice none 0 0, .slice as_ os.length cs] (.list (rdAll (rdItem f) K L).2) := by
  obtain ⟨h1, h2⟩ := h.st.done
  refine ⟨h1, _, _, rfl, SliceAt.nil _ _ _ _, items_of_some ?_⟩
  have := h.own.at (carriedO (f + 1)) (G' := fun b => ib + 1 < b) (fun _ h _ => h) (fun b h _ => h) (by decide)
  rw [h2] at this ⊢
  exact this
/-- one item more -/
theorem LsSt.push {F : Nat → Prop} {f K : Nat} {L : List UInt8} {w3 wr : World} {os : List (Option It)} {x : UInt8} {t : List UInt8} {ar : Option Addr} {nr cr : Nat} {as_ : Option Addr} {cs : Nat} (h : LsSt F f K L w3 wr w3.heap.size os 0 (x :: t) ar nr cr as_ cs)
    (hFw : ∀ b, w3.heap.size ≤ b → ¬ F b) {w5 : World} {l : Bool} {i1 i2 i3 : Option Addr} {y1 z1 y2 z2 y3 z3 : Nat}
    (hit : (rdItem f (x :: t)).1 = 0 → ItemAt (fun b => wr.drew.heap.size ≤ b) w5 (f + 1) [.bool l, .slice i1 y1 z1, .slice i3 y3 z3] (rdItem f (x :: t)).2.1 ∧ BytesAt F w5 (.slice i2 y2 z2) (rdItem f (x :: t)).2.2)
    (hk : w5.heap[w3.heap.size]? = some (.cells #[.slice i2 y2 z2, .int .i64 (rdItem f (x :: t)).1] 117 (0, 0)))
    (hc : Chg (fun k => k = w3.heap.size) wr.drew w5) :
    w3.heap.size + 2 ≤ w5.heap.size ∧ w5.heap[w3.heap.size + 1]? = some (.cells #[.bool true, .slice none 0 0, .slice as_ os.length cs] 65 (0, 0)) ∧
    ∃ (o : Option It) (R : List Value → Option It → Prop), (∀ cs x, R cs x → ∀ u ∈ cs, u.oneCell' = true) ∧
      OwnAt (w5.alloc (.cells [.bool l, .slice i1 y1 z1, .slice i3 y3 z3].toArray 65)) (w3.heap.size + 2) 65 3 R (.slice as_ os.length cs) os ∧
      SliceAt (fun _ => True) (w5.alloc (.cells [.bool l, .slice i1 y1 z1, .slice i3 y3 z3].toArray 65)) 3 R (.slice (some ⟨w5.heap.size, 0, none⟩) 1 1) [o] ∧
      ∀ (g cap : Nat) (W2 : World), OwnAt W2 (w3.heap.size + 2) 65 3 R (.slice (some ⟨g, 0, none⟩) (os.length + 1) cap) (os ++ [o]) →
        (w5.alloc (.cells [.bool l, .slice i1 y1 z1, .slice i3 y3 z3].toArray 65)).grownBy W2 (Value.slice as_ os.length cs).ownBlock →
        Moved (w5.alloc (.cells [.bool l, .slice i1 y1 z1, .slice i3 y3 z3].toArray 65)) (.slice as_ os.length cs) (.slice (some ⟨g, 0, none⟩) (os.length + 1) cap) →
        W2.heap[w3.heap.size + 1]? = some (.cells #[.bool true, .slice none 0 0, .slice as_ os.length cs] 65 (0, 0)) ∧
        LsSt F f K L w3 (W2.setCell ⟨w3.heap.size + 1, 2, none⟩ (.slice (some ⟨g, 0, none⟩) (os.length + 1) cap)) w3.heap.size (os ++ [o]) (rdItem f (x :: t)).1 (rdItem f (x :: t)).2.2 i2 y2 z2 (some ⟨g, 0, none⟩) cap := by
  have hls := (Array.getElem?_eq_some_iff.1 h.ls).1
  have hsz : wr.heap.size ≤ w5.heap.size := by simpa using hc.size
  have hown := h.own.own
  have hls5 : w5.heap[w3.heap.size + 1]? = some (.cells #[.bool true, .slice none 0 0, .slice as_ os.length cs] 65 (0, 0)) := by
    rw [hc.block _ (by simpa using hls) (by omega)]; exact h.ls
  have hO5 : OwnList (OItem (f + 1)) (fun b => w3.heap.size + 1 < b) (w3.heap.size + 2) w5 65 3 (.slice as_ os.length cs) os :=
    h.own.carry (carriedO (f + 1)) hsz (fun b hb hlt => hc.block b (by simpa using hlt) (by omega)) (fun g hg => hc.block g (by have := hown g hg; simpa using this.2) (by have := hown g hg; omega))
  have hO : OItem (f + 1) (fun b => wr.heap.size ≤ b) w5 [.bool l, .slice i1 y1 z1, .slice i3 y3 z3] (if (rdItem f (x :: t)).1 = 0 then some (rdItem f (x :: t)).2.1 else none) := by
    split
    · exact (hit (by assumption)).1
    · exact ⟨_, _, _, _, _, _, _, rfl⟩
  obtain ⟨R, hR1, hRo, hRs, hRn⟩ := hO5.push (carriedO (f + 1)) hO rfl (by decide) (fun b' _ hb' => ⟨by have : wr.heap.size ≤ b' := hb'; show w3.heap.size + 1 < b'; omega, fun e => by have h1 := (hown b' e).2; have h2 : wr.heap.size ≤ b' := hb'; omega⟩) 65
  refine ⟨by omega, hls5, _, R, hR1, hRo, hRs, fun g cap W2 ho hg hm => ?_⟩
  have hOn := hRn _ W2 ho hg hm
  have hsz2 := hg.size
  simp only [World.size_alloc] at hsz2
  have hblk : ∀ b, b < w5.heap.size → (∀ g, (Value.slice as_ os.length cs).ownBlock = some g → b ≠ g) → W2.heap[b]? = w5.heap[b]? := fun b hb hne => by
    rw [hg.block b (by simp; omega) (fun e => hne b e.symm rfl), Below.heap_alloc _ _ _ hb]
  have hW1 : W2.heap[w3.heap.size + 1]? = some (.cells #[.bool true, .slice none 0 0, .slice as_ os.length cs] 65 (0, 0)) := by
    rw [hblk _ (by omega) (fun g hg e => by have := (hown g hg).1; omega)]; exact hls5
  have hW0 := (hblk w3.heap.size (by omega) (fun g hg e => by have := (hown g hg).1; omega)).trans hk
  have hbel5 : Below w3.heap.size w3 w5 := h.bel.drew.trans (hc.toBelowAt (by simp; omega) (fun k hk e => by omega))
  have hlen : (os ++ [if (rdItem f (x :: t)).1 = 0 then some (rdItem f (x :: t)).2.1 else none]).length = os.length + 1 := by simp
  have hownN := hOn.own
  have hr := rdItem_rest f x t
  have hl := h.len
  simp only [List.length_cons] at hl
  refine ⟨hW1, ?_, ?_, ?_, ?_, h.st.step, fun h0 => ?_, by omega⟩
  · rw [Below.heap_setCell _ _ _ _ (by show w3.heap.size ≠ w3.heap.size + 1; omega)]; exact hW0
  · rw [hlen]; exact blk_setCell hW1
  · rw [hlen]
    exact hOn.carry (carriedO (f + 1)) (by simp) (fun b' hb' _ => Below.heap_setCell _ _ _ _ (by have : w3.heap.size + 1 < b' := hb'; show b' ≠ w3.heap.size + 1; omega)) (fun g' hg' => Below.heap_setCell _ _ _ _ (by have := (hownN g' hg').1; show g' ≠ w3.heap.size + 1; omega))
  · exact ((hbel5.alloc (by omega) _).grown hg (by simp; omega) (fun k hk => by have := (hown k hk).1; omega)).setCell (by show w3.heap.size ≤ w3.heap.size + 1; omega) _
  · refine (hit h0).2.carry (fun _ _ x => x) (fun b hb hlt => ?_)
    have hbs : b < w3.heap.size := by
      by_cases hh : b < w3.heap.size
      · exact hh
      · exact absurd hb (hFw b (by omega))
    rw [Below.heap_setCell _ _ _ _ (by show b ≠ w3.heap.size + 1; omega), hblk b hlt (fun g hg e => by have := (hown g hg).1; omega)]

set_option maxRecDepth 100000 in
set_option maxHeartbeats 4000000 in
theorem list_step (f : Nat) (hit0 : RItemC f) : RListC f := by
  intro F0 w rb a n c deep m bs h0 hk hF0 hn hd hm
  have hlt := (Array.getElem?_eq_some_iff.1 hk).1
  obtain ⟨F, hFd⟩ : ∃ F : Nat → Prop, F = fun b => F0 b ∧ b < w.heap.size := ⟨_, rfl⟩
  have h : BytesAt F w (.slice a n c) bs := by rw [hFd]; exact h0.carry (fun b hb hF => ⟨hF, hb⟩) (fun _ _ _ => rfl)
  have hF : ¬ F rb := by rw [hFd]; exact fun h => hF0 h.1
  have hFw : ∀ b, w.heap.size ≤ b → ¬ F b := fun b hb hf => by rw [hFd] at hf; have := hf.2; omega
  have hnl : n = bs.length := by
    obtain ⟨a', c', hv, h1, -⟩ := h
    simp only [Value.slice.injEq] at hv
    simpa using hv.2.1
  have hk0 : (w.alloc (.cells #[.bool false, .slice none 0 0, .slice none 0 0] 65)).heap[rb]? = some (.cells #[.slice a n c, .int .i64 0] 117 (0, 0)) := by rw [Below.heap_alloc _ _ _ hlt]; exact hk
  have hbs0 : BytesAt F (w.alloc (.cells #[.bool false, .slice none 0 0, .slice none 0 0] 65)) (.slice a n c) bs := BytesAt.below h (Bel.alloc (Bel.refl w) _)
  have HK0 := Lib.hid hk0
  have HBS0 := Lib.hid hbs0
  have HFD := Lib.hid hFd
  have HFW := Lib.hid hFw
  have HIT := Lib.hid hit0
  obtain ⟨i0, hi, hz0, hz1, hz2⟩ := info_parts infoItem
  have hsl := readSize_le m bs
  obtain ⟨e1, k, t, hrs⟩ : ∃ e1 k t, readSize m bs = (e1, k, t) := ⟨_, _, _, rfl⟩
  rw [hrs] at hsl ⊢
  have HRS := Lib.hid hrs
  have hk24 : k ≤ 16777215 := hsl.1
  have htl : t.length ≤ 140737488351232 := by have h2 : t.length ≤ bs.length := hsl.2; omega
  clear hk hk0 hbs0 h h0 hFd hFw hnl hit0 hrs hsl
  go_enter Try.func109, Try.ntmps109
  go_wp2_with fail
  refine (size_any F _ rb a n c m bs HBS0.out HK0.out hF (by omega) hm).mono ?_
  rintro e w2 ⟨s1, s2, a3, n3, c3, s3, g1, g2⟩
  rw [HRS.out] at s1 s2 s3 g1
  have hb2 : w2.heap[w.heap.size]? = some (.cells #[.bool false, .slice none 0 0, .slice none 0 0] 65 (0, 0)) := by
    rw [g2.block _ (by simp) (by omega)]; exact heap_alloc_new w _
  have hsb2 := (Array.getElem?_eq_some_iff.1 hb2).1
  have S3 := Lib.hid s3
  have G1 := Lib.hid g1
  have G2 := Lib.hid (((Chg.refl (fun k => k = rb) w).alloc _).trans g2 (fun _ _ x => x))
  have HB2 := Lib.hid hb2
  obtain ⟨q0, q1, q2⟩ := cells3 hb2
  have f0 := frozen_of_row w2 w.heap.size 0 _ _ hb2
  have f1 := frozen_of_row w2 w.heap.size 1 _ _ hb2
  have f2 := frozen_of_row w2 w.heap.size 2 _ _ hb2
  clear hb2 g1 g2 s3
  by_cases he1 : e1 = 0
  · subst he1
    obtain rfl := s1 rfl
    have s3 := S3.out rfl
    have hn3 : n3 = t.length := by
      obtain ⟨a', c', hv, h1, -⟩ := s3
      simp only [Value.slice.injEq] at hv
      exact hv.2.1
    have hn3b : n3 ≤ 140737488351232 := by omega
    have HN3 := Lib.hid hn3
    have HS3 := Lib.hid s3
    clear s1 s2 s3 hn3
    go_wp2_with fail
    by_cases hkn : n3 < k
    · have HR2 : Hid (rdList (rdItem f) (0, k, t) = (22, .text [], [])) := by
        show _ = _
        rw [rdList, if_neg (by simp), if_pos (by have := HN3.out; simp only; omega)]
      refine (take_no _ rb a3 n3 c3 _ G1.out (by omega)).mono ?_
      rintro e w3 ⟨rfl, g3, g4⟩
      have hb3 := (g4.block _ hsb2 (by omega)).trans HB2.out
      have G3 := Lib.hid g3
      have G4 := Lib.hid (G2.out.trans g4 (fun _ _ x => x))
      have HB3 := Lib.hid hb3
      clear g3 g4 q0 q1 q2 f0 f1 f2
      obtain ⟨q0, q1, q2⟩ := cells3 hb3
      have f0 := frozen_of_row w3 w.heap.size 0 _ _ hb3
      have f1 := frozen_of_row w3 w.heap.size 1 _ _ hb3
      have f2 := frozen_of_row w3 w.heap.size 2 _ _ hb3
      clear hb3
      go_wp2_with fail
      have hbx := box3 HB3.out (.bool false) (.slice none 0 0) (.slice none 0 0)
      obtain ⟨W, hW⟩ : ∃ W, W = ((w3.setCell ⟨w.heap.size, 0, none⟩ (.bool false)).setCell ⟨w.heap.size, 1, none⟩ (.slice none 0 0)).setCell ⟨w.heap.size, 2, none⟩ (.slice none 0 0) := ⟨_, rfl⟩
      rw [← hW] at hbx ⊢
      obtain ⟨r0, r1, r2⟩ := cells3 hbx.at_
      refine bodyPost_ret (v := .agg #[.bool false, .slice none 0 0, .slice none 0 0]) (by simp [results, Try.results109, go_sem, r0, r1, r2]) rfl ?_
      rw [HR2.out]
      exact Itemd.done (F := F0) hlt (fun h => by cases h) G3.out G4.out hbx
    · obtain ⟨L, hL⟩ : ∃ L, L = t.take k := ⟨_, rfl⟩
      obtain ⟨T, hT⟩ : ∃ T, T = t.drop k := ⟨_, rfl⟩
      have HR2 : Hid (rdList (rdItem f) (0, k, t) = if (rdAll (rdItem f) k L).1 ≠ 0 then ((rdAll (rdItem f) k L).1, .text [], []) else (0, .list (rdAll (rdItem f) k L).2, T)) := by
        show _ = _
        rw [rdList, if_neg (by simp), if_neg (by have := HN3.out; simp only; omega), hL, hT]
      have hLl : L.length = k := by rw [hL, List.length_take]; have := HN3.out; omega
      refine (take_ok F _ rb a3 n3 c3 k t HS3.out G1.out hF (by omega) (by omega)).mono ?_
      rintro e w3 ⟨b1, d1, b2, m2, d2, rfl, hu, hs, g3, g4⟩
      rw [← hL] at hu
      rw [← hT] at hs
      have hb3 := (g4.block _ hsb2 (by omega)).trans HB2.out
      have hsb3 := (Array.getElem?_eq_some_iff.1 hb3).1
      have hrb3 := (Array.getElem?_eq_some_iff.1 g3).1
      have G3 := Lib.hid g3
      have G4 := Lib.hid (G2.out.trans g4 (fun _ _ x => x))
      have HB3 := Lib.hid hb3
      have HS3' := Lib.hid hs
      have HU3 := Lib.hid hu
      have HLL := Lib.hid hLl
      clear g3 g4 q0 q1 q2 f0 f1 f2 hs hu hb3 hL hT hLl
      go_wp2_with fail
      have hZ : LsSt F f k L w3 ((w3.alloc (.cells #[.slice b1 k d1, .int .i64 0] 117)).alloc (.cells #[.bool true, .slice none 0 0, .slice none 0 0] 65)) w3.heap.size [] 0 L b1 k d1 none 0 := by
        have hlL := HLL.out
        refine ⟨?_, ?_, OwnList.nil, Below.alloc (Below.alloc (Below.refl _ _) (Nat.le_refl _) _) (by simp) _, ListSt.start f k L (by omega), fun _ => ?_, by simp; omega⟩
        · exact (Below.heap_alloc _ _ _ (by simp)).trans (heap_alloc_new w3 _)
        · have := heap_alloc_new (w3.alloc (.cells #[.slice b1 k d1, .int .i64 0] 117)) (.cells #[.bool true, .slice none 0 0, .slice none 0 0] 65)
          simpa using this
        · exact BytesAt.below HU3.out (Bel.alloc (Bel.alloc (Bel.refl w3) _) _)
      have HZ := Lib.hid hZ
      clear hZ
      go_loopg [] k (fun gk wr => ∃ (os : List (Option It)) (e : Nat) (rest : List UInt8) (ar : Option Addr) (nr cr : Nat) (as_ : Option Addr) (cs : Nat), Hid (LsSt F f k L w3 wr w3.heap.size os e rest ar nr cr as_ cs) ∧ Hid (rest.length ≤ gk))
      case atStart => exact ⟨_, _, _, _, _, _, _, _, HZ, Lib.hid (by have := HLL.out; omega)⟩
      case round =>
        obtain ⟨os, e, rest, ar, nr, cr, as_, cs, HS, HG⟩ := hrel
        obtain ⟨p0, p1, p2⟩ := cells3 HS.out.ls
        have fq := frozen_of_row wr (w3.heap.size + 1) 2 _ _ HS.out.ls
        have hbx0 := (HS.out.bel.block _ hsb3).trans HB3.out
        obtain ⟨r0, r1, r2⟩ := cells3 hbx0
        have f0 := frozen_of_row wr w.heap.size 0 _ _ hbx0
        have f1 := frozen_of_row wr w.heap.size 1 _ _ hbx0
        have f2 := frozen_of_row wr w.heap.size 2 _ _ hbx0
        have HBX := Lib.hid hbx0
        have G3r := Lib.hid ((HS.out.bel.block _ hrb3).trans G3.out)
        have G4r := Lib.hid (G4.out.trans (Chg.ofBelow HS.out.bel (fun _ => False)) (fun _ _ h => h.elim))
        clear hbx0
        by_cases he : e = 0
        · subst he
          have hnr := HS.out.nr rfl
          have hrd : wr.heap[w3.heap.size]? = some (.cells #[.slice ar nr cr, .int .i64 0] 117 (0, 0)) := HS.out.rd
          obtain ⟨q0, q1⟩ := cells2 hrd
          have HRD := Lib.hid hrd
          clear hrd
          rcases rest with - | ⟨x, t'⟩
          · simp only [List.length_nil] at hnr
            subst hnr
            go_wp2_with fail
            have hbx := box3 HBX.out (.bool true) (.slice none 0 0) (.slice as_ os.length cs)
            obtain ⟨W, hW⟩ : ∃ W, W = ((wr.setCell ⟨w.heap.size, 0, none⟩ (.bool true)).setCell ⟨w.heap.size, 1, none⟩ (.slice none 0 0)).setCell ⟨w.heap.size, 2, none⟩ (.slice as_ os.length cs) := ⟨_, rfl⟩
            rw [← hW] at hbx ⊢
            clear r0 r1 r2
            obtain ⟨r0, r1, r2⟩ := cells3 hbx.at_
            refine bodyPost_ret (v := .agg #[.bool true, .slice none 0 0, .slice as_ os.length cs]) (by simp [results, Try.results109, go_sem, r0, r1, r2]) rfl ?_
            obtain ⟨d0, d1'⟩ := HS.out.done
            rw [HR2.out, if_neg (by simp [d0])]
            refine Itemd.done (F := F0) hlt (fun _ => ⟨d1'.carry (fun b _ hb => by have : w3.heap.size + 1 < b := hb; show w.heap.size < b; omega) (fun _ _ _ => rfl), ?_⟩) G3r.out G4r.out hbx
            have := BytesAt.below HS3'.out HS.out.bel
            rw [HFD.out] at this
            exact this
          · have hnr0 : 0 < nr := by rw [hnr]; simp
            have hlen := HS.out.len
            simp only [List.length_cons] at hlen hnr
            have hnrb : nr ≤ 140737488351232 := by omega
            have HL := Lib.hid hlen
            have HNR := Lib.hid hnr
            have HBY := Lib.hid (SliceAt.drew' (HS.out.bytes rfl) (by decide))
            have hdw : IntKind.i64.wrap ((deep:Int) + 1) = ((deep + 1 : Nat) : Int) := by rw [IntKind.wrap_i64]; omega
            have HDW := Lib.hid hdw
            have hle : (os.length + 1) * 56 ≤ 140737488355328 := by omega
            clear hlen hnr hdw
            go_wp2_with fail
            go_region_law (first | (go_simp; go_at_call 95; rw [HDW.out]; refine (HIT.out F _ w3.heap.size ar nr cr (deep + 1) (x :: t') HBY.out HRD.out (HFW.out _ (by omega)) hnrb (by omega)).mono ?_; rintro e5 w5 ⟨l5, i1, y1, z1, i3, y3, z3, i2, y2, z2, rfl, k1, k2, k3⟩; obtain ⟨j1, j2, o, R, j3, j4, j5, j6⟩ := HS.out.push (fun b hb => HFW.out b (by omega)) k1 k2 k3; have HR1 := Lib.hid j3; have HRO := Lib.hid j4; have HRS := Lib.hid j5; have HRN := Lib.hid j6; obtain ⟨s0, s1, s2⟩ := cells3 j2; obtain ⟨s3, s4, s5⟩ := cells3 ((Below.heap_alloc w5 (.cells #[.bool l5, .slice i1 y1 z1, .slice i3 y3 z3] 65) _ (by omega)).trans j2); clear k1 k2 k3 j2 j3 j4 j5 j6) | (refine step_append_at rfl (.tmp 42) (.tmp 46) 63 rfl (w3.heap.size + 2) 65 i0 (.agg #[.bool false, .slice none 0 0, .slice none 0 0]) 3 56 underlyingItems hi hz0 hz1 hz2 rfl (by decide) (by decide) HR1.out (.slice as_ os.length cs) os (by simp [Act.eval]) HRO.out (.slice (some ⟨w5.heap.size, 0, none⟩) 1 1) [o] (fun _ => True) (by simp [Act.eval]) HRS.out Nat.one_pos hle (by simp; omega) (os.length + 1) rfl ?_; intro g cap W2 ho hg hm; obtain ⟨n1, n2⟩ := HRN.out g cap W2 ho hg hm; obtain ⟨m0, m1, m2'⟩ := cells3 n1; have fr := frozen_of_row W2 (w3.heap.size + 1) 2 _ _ n1; have HN := Lib.hid n2; clear n1 n2 ho hg hm))
            all_goals
              go_wp2_with fail
              have hlt' : (rdItem f (x :: t')).2.2.length ≤ gk - 1 ∧ gk - 1 < gk := by
                have h1 := rdItem_rest f x t'
                have h2 := HG.out
                simp only [List.length_cons] at h2
                omega
              have HLT := Lib.hid hlt'
              go_roundg (gk - 1)
              case rel => exact ⟨_, _, _, _, _, _, _, _, HN, Lib.hid HLT.out.1⟩
              case measure => exact HLT.out.2
        · obtain ⟨q0, q1⟩ := cells2 HS.out.rd
          have HE := Lib.hid he
          have ht : (((e:Nat):Int) == 0) = false := by simp; omega
          have ht2 : (((e:Nat):Int) != 0) = true := by simp; omega
          have hst := HS.out.st.2 he
          have HST := Lib.hid hst
          clear hst he
          rcases Nat.eq_zero_or_pos nr with hz | hz
          all_goals
            try subst hz
            go_wp2_with fail
            refine (int_fail _ rb b2 m2 d2 _ e rfl G3r.out).mono ?_
            rintro e5 w5 ⟨rfl, k1, k2⟩
            have hb5 := (k2.block _ (Nat.lt_of_lt_of_le hsb3 HS.out.bel.size) (by omega)).trans HBX.out
            have K1 := Lib.hid k1
            have K2 := Lib.hid (G4r.out.trans k2 (fun _ _ x => x))
            have HB5 := Lib.hid hb5
            clear k1 k2 r0 r1 r2 f0 f1 f2
            obtain ⟨r0, r1, r2⟩ := cells3 hb5
            have f0 := frozen_of_row w5 w.heap.size 0 _ _ hb5
            have f1 := frozen_of_row w5 w.heap.size 1 _ _ hb5
            have f2 := frozen_of_row w5 w.heap.size 2 _ _ hb5
            clear hb5
            go_wp2_with fail
            have hbx := box3 HB5.out (.bool false) (.slice none 0 0) (.slice none 0 0)
            obtain ⟨W, hW⟩ : ∃ W, W = ((w5.setCell ⟨w.heap.size, 0, none⟩ (.bool false)).setCell ⟨w.heap.size, 1, none⟩ (.slice none 0 0)).setCell ⟨w.heap.size, 2, none⟩ (.slice none 0 0) := ⟨_, rfl⟩
            rw [← hW] at hbx ⊢
            clear r0 r1 r2
            obtain ⟨r0, r1, r2⟩ := cells3 hbx.at_
            refine bodyPost_ret (v := .agg #[.bool false, .slice none 0 0, .slice none 0 0]) (by simp [results, Try.results109, go_sem, r0, r1, r2]) rfl ?_
            rw [HR2.out, HST.out, if_pos HE.out]
            exact Itemd.done (F := F0) hlt (fun h => absurd h HE.out) K1.out K2.out hbx
  · obtain rfl := s2 he1
    have HR2 : Hid (rdList (rdItem f) (e1, k, t) = (e1, .text [], [])) := by
      show _ = _
      rw [rdList, if_pos he1]
    clear s1 s2
    go_wp2_with fail
    have hbx := box3 HB2.out (.bool false) (.slice none 0 0) (.slice none 0 0)
    obtain ⟨W, hW⟩ : ∃ W, W = ((w2.setCell ⟨w.heap.size, 0, none⟩ (.bool false)).setCell ⟨w.heap.size, 1, none⟩ (.slice none 0 0)).setCell ⟨w.heap.size, 2, none⟩ (.slice none 0 0) := ⟨_, rfl⟩
    rw [← hW] at hbx ⊢
    obtain ⟨r0, r1, r2⟩ := cells3 hbx.at_
    refine bodyPost_ret (v := .agg #[.bool false, .slice none 0 0, .slice none 0 0]) (by simp [results, Try.results109, go_sem, r0, r1, r2]) rfl ?_
    rw [HR2.out]
    exact Itemd.done (F := F0) hlt (fun h => absurd h he1) G1.out G2.out hbx
end Go.Proofs.Ytndkkgkcbbmnpaa
