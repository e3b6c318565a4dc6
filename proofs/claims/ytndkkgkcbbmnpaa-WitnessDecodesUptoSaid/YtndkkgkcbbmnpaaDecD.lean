/-
  Contract of (*nest.reader).item at bytes that are there, where that of list is known.
-/
import Derived.Test.YtndkkgkcbbmnpaaDecC
namespace Go.Proofs.Ytndkkgkcbbmnpaa
open Go.RowKit Go.Pg

/-- the end: what was read stands in the result's box -/
theorem Itemd.done {F : Nat → Prop} {w W1 W : World} {rb D : Nat} {r : Nat × It × List UInt8} {l : Bool} {a1 a3 a2 : Option Addr} {n1 c1 n3 c3 n2 c2 : Nat} (hrb : rb < w.heap.size)
    (hi : r.1 = 0 → ItemAt (fun b => w.heap.size < b) W1 D [.bool l, .slice a1 n1 c1, .slice a3 n3 c3] r.2.1 ∧ BytesAt (fun b => F b ∧ b < w.heap.size) W1 (.slice a2 n2 c2) r.2.2)
    (hk : W1.heap[rb]? = some (.cells #[.slice a2 n2 c2, .int .i64 r.1] 117 (0, 0))) (hc : Chg (fun k => k = rb) w W1)
    (hb : Box3 W1 W w.heap.size (.bool l) (.slice a1 n1 c1) (.slice a3 n3 c3) 65) :
    Itemd F w rb D r (.returned (.agg #[.bool l, .slice a1 n1 c1, .slice a3 n3 c3])) W := by
  refine ⟨l, a1, n1, c1, a3, n3, c3, a2, n2, c2, rfl, fun h0 => ?_, ?_, ?_⟩
  · obtain ⟨h1, h2⟩ := hi h0
    exact ⟨h1.carry (fun b _ hb' => Nat.le_of_lt hb') (fun b hb' _ => hb.other b (by omega)), h2.carry (fun b _ hb' => hb'.1) (fun b hb' _ => hb.other b (by omega))⟩
  · rw [hb.other _ (by omega)]; exact hk
  · exact hc.trans hb.chg (fun i hi e => by omega)

theorem OwnAt.lit' (w : World) (e : TypeId) (x : UInt8) : OwnAt (w.alloc (.cells #[.int .u8 (x.toNat : Int)] e)) w.heap.size e 1 byteR (.slice (some ⟨w.heap.size, 0, none⟩) 1 1) [x] := by
  refine ⟨[.int .u8 (x.toNat : Int)], World.ownsRow_lit w #[.int .u8 (x.toNat : Int)] 1 (Nat.le_refl _) (by decide) rfl, Rows.one rfl rfl⟩

set_option maxRecDepth 100000 in
set_option maxHeartbeats 2000000 in
theorem item_some (F0 : Nat → Prop) (f : Nat) (hl : ∀ f', f = f' + 1 → RListC f') (w : World) (rb : Nat) (a : Option Addr) (n c deep : Nat) (x : UInt8) (t : List UInt8)
    (h0 : BytesAt F0 w (.slice a n c) (x :: t)) (hk : w.heap[rb]? = some (.cells #[.slice a n c, .int .i64 0] 117 (0, 0))) (hF0 : ¬ F0 rb) (hn : n ≤ 70368744177664) (hd : deep + f = 8) :
    Calls Try.prog 95 #[.pointer (some ⟨rb, 0, none⟩), .int .i64 deep] w (Itemd F0 w rb (f + 1) (rdItem f (x :: t))) := by
  have hlt := (Array.getElem?_eq_some_iff.1 hk).1
  obtain ⟨F, hFd⟩ : ∃ F : Nat → Prop, F = fun b => F0 b ∧ b < w.heap.size := ⟨_, rfl⟩
  have h : BytesAt F w (.slice a n c) (x :: t) := by rw [hFd]; exact h0.carry (fun b hb hF => ⟨hF, hb⟩) (fun _ _ _ => rfl)
  have hF : ¬ F rb := by rw [hFd]; exact fun h => hF0 h.1
  have hnl : n = t.length + 1 := by
    obtain ⟨a', c', hv, h1, -⟩ := h
    simp only [Value.slice.injEq] at hv
    simpa using hv.2.1
  have hk0 : (w.alloc (.cells #[.bool false, .slice none 0 0, .slice none 0 0] 65)).heap[rb]? = some (.cells #[.slice a n c, .int .i64 0] 117 (0, 0)) := by rw [Below.heap_alloc _ _ _ hlt]; exact hk
  have hbs0 : BytesAt F (w.alloc (.cells #[.bool false, .slice none 0 0, .slice none 0 0] 65)) (.slice a n c) (x :: t) := BytesAt.below h (Bel.alloc (Bel.refl w) _)
  have HK0 := Lib.hid hk0
  have HBS0 := Lib.hid hbs0
  have HFD := Lib.hid hFd
  have HNL := Lib.hid hnl
  have HLC := Lib.hid hl
  have hx := x.toNat_lt
  clear hk hk0 hbs0 h h0 hFd hnl hl
  go_enter Try.func95, Try.ntmps95
  go_wp2_with fail
  refine (take_ok F _ rb a n c 1 (x :: t) HBS0.out HK0.out hF (by have := HNL.out; omega) (by omega)).mono ?_
  rintro e w1 ⟨a1, c1, a2, n2, c2, rfl, hu, hs, hk1, hch⟩
  have hb1 : w1.heap[w.heap.size]? = some (.cells #[.bool false, .slice none 0 0, .slice none 0 0] 65 (0, 0)) := by
    rw [hch.block _ (by simp) (by omega)]; exact heap_alloc_new w _
  have hch1 : Chg (fun k => k = rb) w w1 := ((Chg.refl (fun k => k = rb) w).alloc _).trans hch (fun _ _ x => x)
  simp only [List.take_succ_cons, List.take_zero, List.drop_succ_cons, List.drop_zero] at hu hs
  have hn2 : n2 = t.length := by
    obtain ⟨a', c', hv, h1, -⟩ := hs
    simp only [Value.slice.injEq] at hv
    exact hv.2.1
  have hn2b : n2 ≤ 70368744177664 := by have := HNL.out; omega
  rcases SliceAt.split hu with ⟨hh, _⟩ | ⟨b, o, rfl, -, -, -⟩
  · cases hh
  have hcell := BytesAt.cell hu 0 (by simp)
  simp at hcell
  obtain ⟨q0, q1, q2⟩ := cells3 hb1
  have f0 := frozen_of_row w1 w.heap.size 0 _ _ hb1
  have f1 := frozen_of_row w1 w.heap.size 1 _ _ hb1
  have f2 := frozen_of_row w1 w.heap.size 2 _ _ hb1
  have hs1 := hch1.size
  have HU := Lib.hid hu
  have HS := Lib.hid hs
  have HK1 := Lib.hid hk1
  have HCH1 := Lib.hid hch1
  have HB1 := Lib.hid hb1
  have HN2 := Lib.hid hn2
  have hsb := (Array.getElem?_eq_some_iff.1 hb1).1
  clear hu hs hk1 hch hch1 hb1 hn2
  by_cases h128 : (x.toNat : Int) < 128
  · have hr : rdItem f (x :: t) = (0, .text [x], t) := by unfold rdItem; rw [if_pos (by omega)]
    have HR := Lib.hid hr
    clear hr
    go_wp2_with fail
    have hbx := (box3 HB1.out (.bool false) (.slice (some ⟨w1.heap.size, 0, none⟩) 1 1) (.slice none 0 0)).alloc (.cells #[.int .u8 (x.toNat : Int)] 5)
    obtain ⟨W, hW⟩ : ∃ W, W = (((w1.setCell ⟨w.heap.size, 0, none⟩ (.bool false)).setCell ⟨w.heap.size, 1, none⟩ (.slice (some ⟨w1.heap.size, 0, none⟩) 1 1)).setCell ⟨w.heap.size, 2, none⟩ (.slice none 0 0)).alloc (.cells #[.int .u8 (x.toNat : Int)] 5) := ⟨_, rfl⟩
    rw [← hW] at hbx ⊢
    obtain ⟨r0, r1, r2⟩ := cells3 hbx.at_
    refine bodyPost_ret (v := .agg #[.bool false, .slice (some ⟨w1.heap.size, 0, none⟩) 1 1, .slice none 0 0]) (by simp [results, Try.results95, go_sem, r0, r1, r2]) rfl ?_
    rw [HR.out]
    refine Itemd.done (F := F0) (a2 := a2) (n2 := n2) (c2 := c2) hlt (fun _ => ⟨⟨_, _, rfl, ?_, SliceAt.nil _ _ _ _⟩, ?_⟩) ?_ ?_ hbx
    · refine BytesAt.carry (F := fun b => w1.heap.size ≤ b) ?_ (fun b _ hb => by omega) (fun _ _ _ => rfl)
      exact SliceAt.carry (F := fun b => b = w1.heap.size) ((OwnAt.lit' w1 5 x).at (fun g hg _ _ => by simp [Value.ownBlock] at hg; exact hg.symm) (by decide)) (by decide) (fun b _ hb => by omega) (fun _ _ _ => rfl) (fun _ _ _ h => h)
    · rw [← HFD.out]; exact BytesAt.below HS.out (Bel.alloc (Bel.refl w1) _)
    · rw [Below.heap_alloc _ _ _ (by omega)]; exact HK1.out
    · exact HCH1.out.alloc _
  · have hr1 : ¬ x.toNat < 128 := by omega
    by_cases h192 : (192 : Int) ≤ (x.toNat : Int)
    · have hr2 : ¬ x.toNat < 192 := by omega
      cases f with
      | zero =>
        have hr : rdItem 0 (x :: t) = (21, .text [], []) := by unfold rdItem; rw [if_neg hr1, if_neg hr2]
        have HR := Lib.hid hr
        have hd8 : ((deep : Int) == 8) = true := by simp; omega
        clear hr
        go_wp2_with fail
        refine (int_fail _ rb a2 n2 c2 _ 21 rfl HK1.out).mono ?_
        rintro e w2 ⟨rfl, g1, g2⟩
        have hb2 := (g2.block _ hsb (by omega)).trans HB1.out
        have G1 := Lib.hid g1
        have G2 := Lib.hid g2
        have HB2 := Lib.hid hb2
        clear g1 g2 q0 q1 q2 f0 f1 f2
        obtain ⟨q0, q1, q2⟩ := cells3 hb2
        have f0 := frozen_of_row w2 w.heap.size 0 _ _ hb2
        have f1 := frozen_of_row w2 w.heap.size 1 _ _ hb2
        have f2 := frozen_of_row w2 w.heap.size 2 _ _ hb2
        clear hb2
        go_wp2_with fail
        have hbx := box3 HB2.out (.bool false) (.slice none 0 0) (.slice none 0 0)
        obtain ⟨W, hW⟩ : ∃ W, W = ((w2.setCell ⟨w.heap.size, 0, none⟩ (.bool false)).setCell ⟨w.heap.size, 1, none⟩ (.slice none 0 0)).setCell ⟨w.heap.size, 2, none⟩ (.slice none 0 0) := ⟨_, rfl⟩
        rw [← hW] at hbx ⊢
        obtain ⟨r0, r1, r2⟩ := cells3 hbx.at_
        refine bodyPost_ret (v := .agg #[.bool false, .slice none 0 0, .slice none 0 0]) (by simp [results, Try.results95, go_sem, r0, r1, r2]) rfl ?_
        rw [HR.out]
        exact Itemd.done (F := F0) hlt (fun h => by cases h) G1.out (HCH1.out.trans G2.out (fun _ _ x => x)) hbx
      | succ f' =>
        obtain ⟨m, hm⟩ : ∃ m : Nat, x.toNat = m + 192 := ⟨x.toNat - 192, by omega⟩
        have hmi : (x.toNat : Int) - 192 = (m : Int) := by omega
        have hr : rdItem (f' + 1) (x :: t) = rdList (rdItem f') (readSize m t) := by
          rw [rdItem, if_neg hr1, if_neg hr2, hm, Nat.add_sub_cancel]
        have HR := Lib.hid hr
        have HM := Lib.hid hm
        have hd8 : ((deep : Int) == 8) = false := by simp; omega
        clear hr hm
        go_wp2_with fail
        refine (HLC.out f' rfl F _ rb a2 n2 c2 deep m t HS.out HK1.out hF hn2b (by omega) (by have := HM.out; omega)).mono ?_
        rintro e w2 ⟨l, b1, m1, d1, b3, m3, d3, b2, m2, d2, rfl, g0, g1, g2⟩
        have hb2 := (g2.block _ hsb (by omega)).trans HB1.out
        have G0 := Lib.hid g0
        have G1 := Lib.hid g1
        have G2 := Lib.hid g2
        have HB2 := Lib.hid hb2
        clear g0 g1 g2 q0 q1 q2 f0 f1 f2
        obtain ⟨q0, q1, q2⟩ := cells3 hb2
        have f0 := frozen_of_row w2 w.heap.size 0 _ _ hb2
        have f1 := frozen_of_row w2 w.heap.size 1 _ _ hb2
        have f2 := frozen_of_row w2 w.heap.size 2 _ _ hb2
        clear hb2
        go_wp2_with fail
        have hbx := box3 HB2.out (.bool l) (.slice b1 m1 d1) (.slice b3 m3 d3)
        obtain ⟨W, hW⟩ : ∃ W, W = ((w2.setCell ⟨w.heap.size, 0, none⟩ (.bool l)).setCell ⟨w.heap.size, 1, none⟩ (.slice b1 m1 d1)).setCell ⟨w.heap.size, 2, none⟩ (.slice b3 m3 d3) := ⟨_, rfl⟩
        rw [← hW] at hbx ⊢
        obtain ⟨r0, r1, r2⟩ := cells3 hbx.at_
        refine bodyPost_ret (v := .agg #[.bool l, .slice b1 m1 d1, .slice b3 m3 d3]) (by simp [results, Try.results95, go_sem, r0, r1, r2]) rfl ?_
        rw [HR.out]
        refine Itemd.done (F := F0) hlt (fun h => ?_) G1.out (HCH1.out.trans G2.out (fun _ _ x => x)) hbx
        obtain ⟨g3, g4⟩ := G0.out h
        exact ⟨g3.carry (fun b _ hb => by omega) (fun _ _ _ => rfl), by rw [← HFD.out]; exact g4⟩
    · obtain ⟨m, hm⟩ : ∃ m : Nat, x.toNat = m + 128 := ⟨x.toNat - 128, by omega⟩
      have hmi : (x.toNat : Int) - 128 = (m : Int) := by omega
      have hr : rdItem f (x :: t) = rdText (readSize m t) := by
        unfold rdItem; rw [if_neg hr1, if_pos (by omega), hm, Nat.add_sub_cancel]
      have hsl := readSize_le m t
      have HM := Lib.hid hm
      obtain ⟨e1, k, rest, hrs⟩ : ∃ e1 k rest, readSize m t = (e1, k, rest) := ⟨_, _, _, rfl⟩
      rw [hrs] at hr hsl
      have HR := Lib.hid hr
      have HRS := Lib.hid hrs
      have hk24 : k ≤ 16777215 := hsl.1
      have hrl : rest.length ≤ 70368744177664 := by have h2 : rest.length ≤ t.length := hsl.2; have := HN2.out; omega
      clear hr hm hrs hsl
      go_wp2_with fail
      refine (size_any F _ rb a2 n2 c2 m t HS.out HK1.out hF (by omega) (by have := HM.out; omega)).mono ?_
      rintro e w2 ⟨s1, s2, a3, n3, c3, s3, g1, g2⟩
      rw [HRS.out] at s1 s2 s3 g1
      have hb2 := (g2.block _ hsb (by omega)).trans HB1.out
      have hsb2 := (Array.getElem?_eq_some_iff.1 hb2).1
      have S3 := Lib.hid s3
      have G1 := Lib.hid g1
      have G2 := Lib.hid (HCH1.out.trans g2 (fun _ _ x => x))
      have HB2 := Lib.hid hb2
      clear g1 g2 s3 q0 q1 q2 f0 f1 f2 hcell
      obtain ⟨q0, q1, q2⟩ := cells3 hb2
      have f0 := frozen_of_row w2 w.heap.size 0 _ _ hb2
      have f1 := frozen_of_row w2 w.heap.size 1 _ _ hb2
      have f2 := frozen_of_row w2 w.heap.size 2 _ _ hb2
      clear hb2
      by_cases he1 : e1 = 0
      · subst he1
        obtain rfl := s1 rfl
        have s3 := S3.out rfl
        have hn3 : n3 = rest.length := by
          obtain ⟨a', c', hv, h1, -⟩ := s3
          simp only [Value.slice.injEq] at hv
          exact hv.2.1
        have hn3b : n3 ≤ 70368744177664 := by omega
        have HN3 := Lib.hid hn3
        have HS3 := Lib.hid s3
        clear s1 s2 s3 hn3
        go_wp2_with fail
        by_cases hkn : n3 < k
        · have HR2 : Hid (rdItem f (x :: t) = (22, .text [], [])) := by
            show _ = _
            rw [HR.out, rdText, if_neg (by simp), if_pos (by have := HN3.out; simp only; omega)]
          refine (take_no _ rb a3 n3 c3 _ G1.out (by omega)).mono ?_
          rintro e w3 ⟨rfl, g3, g4⟩
          have hb3 := (g4.block _ hsb2 (by omega)).trans HB2.out
          have hsb3 := (Array.getElem?_eq_some_iff.1 hb3).1
          have hrb3 := (Array.getElem?_eq_some_iff.1 g3).1
          have G3 := Lib.hid g3
          have G4 := Lib.hid (G2.out.trans g4 (fun _ _ x => x))
          have HB3 := Lib.hid hb3
          clear g3 g4 q0 q1 q2 f0 f1 f2 hb3
          go_wp2_with fail
          refine (cloneB_any F w3 (.slice none 0 0) [] (BytesAt.nil _ _) (by simp)).mono ?_
          rintro e w4 ⟨v4, rfl, ho4, hb4⟩
          obtain ⟨a4, c4, rfl, -, -, -⟩ := ho4.len
          obtain ⟨n4, hn4⟩ : ∃ n4, n4 = ([] : List UInt8).length := ⟨_, rfl⟩
          rw [← hn4]
          have hb4' := (hb4.block _ hsb3).trans HB3.out
          have G5 := Lib.hid ((hb4.block _ hrb3).trans G3.out)
          have G6 := Lib.hid (G4.out.trans (Chg.ofBelow hb4 (fun k => k = rb)) (fun _ _ x => x))
          have HB4 := Lib.hid hb4'
          obtain ⟨q0, q1, q2⟩ := cells3 hb4'
          have f0 := frozen_of_row w4 w.heap.size 0 _ _ hb4'
          have f1 := frozen_of_row w4 w.heap.size 1 _ _ hb4'
          have f2 := frozen_of_row w4 w.heap.size 2 _ _ hb4'
          clear hb4 hb4' ho4 hn4
          go_wp2_with fail
          have hbx := box3 HB4.out (.bool false) (.slice a4 n4 c4) (.slice none 0 0)
          obtain ⟨W, hW⟩ : ∃ W, W = ((w4.setCell ⟨w.heap.size, 0, none⟩ (.bool false)).setCell ⟨w.heap.size, 1, none⟩ (.slice a4 n4 c4)).setCell ⟨w.heap.size, 2, none⟩ (.slice none 0 0) := ⟨_, rfl⟩
          rw [← hW] at hbx ⊢
          obtain ⟨r0, r1, r2⟩ := cells3 hbx.at_
          refine bodyPost_ret (v := .agg #[.bool false, .slice a4 n4 c4, .slice none 0 0]) (by simp [results, Try.results95, go_sem, r0, r1, r2]) rfl ?_
          rw [HR2.out]
          exact Itemd.done (F := F0) hlt (fun h => by cases h) G5.out G6.out hbx
        · have HR2 : Hid (rdItem f (x :: t) = if k = 1 ∧ (rest.headD 0).toNat < 128 then (23, .text [], []) else (0, .text (rest.take k), rest.drop k)) := by
            show _ = _
            rw [HR.out, rdText, if_neg (by simp), if_neg (by have := HN3.out; simp only; omega)]
          refine (take_ok F _ rb a3 n3 c3 k rest HS3.out G1.out hF (by omega) (by omega)).mono ?_
          rintro e w3 ⟨b1, d1, b2, m2, d2, rfl, hu, hs, g3, g4⟩
          have hb3 := (g4.block _ hsb2 (by omega)).trans HB2.out
          have hsb3 := (Array.getElem?_eq_some_iff.1 hb3).1
          have hrb3 := (Array.getElem?_eq_some_iff.1 g3).1
          have G3 := Lib.hid g3
          have G4 := Lib.hid (G2.out.trans g4 (fun _ _ x => x))
          have HB3 := Lib.hid hb3
          have HS3' := Lib.hid hs
          have HU3 := Lib.hid hu
          have htl : (rest.take k).length ≤ 70368744177664 := by rw [List.length_take]; omega
          have hcase : (k = 1 ∧ ∃ g o y, b1 = some ⟨g, o, none⟩ ∧ w3.cell? ⟨g, o, none⟩ = some (.int .u8 ((y : UInt8).toNat : Int)) ∧ rest.headD 0 = y) ∨ ((k : Int) == 1) = false := by
            by_cases hk1 : k = 1
            · left
              refine ⟨hk1, ?_⟩
              subst hk1
              cases rest with
              | nil => have := HN3.out; simp at this; omega
              | cons y r =>
                simp only [List.take_succ_cons, List.take_zero] at hu
                rcases SliceAt.split hu with ⟨hh, _⟩ | ⟨g, o, rfl, -, -, -⟩
                · cases hh
                · have := BytesAt.cell hu 0 (by simp)
                  exact ⟨g, o, y, rfl, by simpa using this, rfl⟩
            · right; simp; omega
          clear g3 g4 q0 q1 q2 f0 f1 f2 hs hu
          by_cases hbad : k = 1 ∧ (rest.headD 0).toNat < 128
          · rcases hcase with ⟨rfl, g, o, y, rfl, hc, hy⟩ | hk1
            · have hy128 : (y.toNat : Int) < 128 := by have := hbad.2; rw [hy] at this; omega
              have HR3 : Hid (rdItem f (x :: t) = (23, .text [], [])) := by show _ = _; rw [HR2.out, if_pos hbad]
              clear hbad hy
              go_wp2_with fail
              refine (int_fail _ rb b2 m2 d2 _ 23 rfl G3.out).mono ?_
              rintro e w4 ⟨rfl, g5, g6⟩
              have hb4' := (g6.block _ hsb3 (by omega)).trans HB3.out
              have G5 := Lib.hid g5
              have G6 := Lib.hid (G4.out.trans g6 (fun _ _ x => x))
              have HB4 := Lib.hid hb4'
              obtain ⟨q0, q1, q2⟩ := cells3 hb4'
              have f0 := frozen_of_row w4 w.heap.size 0 _ _ hb4'
              have f1 := frozen_of_row w4 w.heap.size 1 _ _ hb4'
              have f2 := frozen_of_row w4 w.heap.size 2 _ _ hb4'
              clear hb4' g5 g6
              go_wp2_with fail
              have hbx := box3 HB4.out (.bool false) (.slice none 0 0) (.slice none 0 0)
              obtain ⟨W, hW⟩ : ∃ W, W = ((w4.setCell ⟨w.heap.size, 0, none⟩ (.bool false)).setCell ⟨w.heap.size, 1, none⟩ (.slice none 0 0)).setCell ⟨w.heap.size, 2, none⟩ (.slice none 0 0) := ⟨_, rfl⟩
              rw [← hW] at hbx ⊢
              obtain ⟨r0, r1, r2⟩ := cells3 hbx.at_
              refine bodyPost_ret (v := .agg #[.bool false, .slice none 0 0, .slice none 0 0]) (by simp [results, Try.results95, go_sem, r0, r1, r2]) rfl ?_
              rw [HR3.out]
              exact Itemd.done (F := F0) hlt (fun h => by cases h) G5.out G6.out hbx
            · simp at hk1; omega
          · have HR3 : Hid (rdItem f (x :: t) = (0, .text (rest.take k), rest.drop k)) := by show _ = _; rw [HR2.out, if_neg hbad]
            have hcase2 : (k = 1 ∧ ∃ g o y, b1 = some ⟨g, o, none⟩ ∧ w3.cell? ⟨g, o, none⟩ = some (.int .u8 ((y : UInt8).toNat : Int)) ∧ ¬ (y.toNat : Int) < 128) ∨ ((k : Int) == 1) = false := by
              rcases hcase with ⟨hk1, g, o, y, hb, hc, hy⟩ | hk1
              · exact .inl ⟨hk1, g, o, y, hb, hc, fun h => hbad ⟨hk1, by rw [hy]; omega⟩⟩
              · exact .inr hk1
            clear hcase hbad
            obtain ⟨L, hL⟩ : ∃ L, L = rest.take k := ⟨_, rfl⟩
            rw [← hL] at HU3 HR3 htl
            clear hL
            rcases hcase2 with ⟨rfl, g, o, y, rfl, hc, hy⟩ | hk1
            all_goals
              go_wp2_with fail
              refine (cloneB_any F w3 _ L HU3.out htl).mono ?_
              rintro e w4 ⟨v4, rfl, ho4, hb4⟩
              obtain ⟨a4, c4, rfl, -, -, -⟩ := ho4.len
              have HO4 := Lib.hid ho4
              have hb4' := (hb4.block _ hsb3).trans HB3.out
              have G5 := Lib.hid ((hb4.block _ hrb3).trans G3.out)
              have G6 := Lib.hid (G4.out.trans (Chg.ofBelow hb4 (fun k => k = rb)) (fun _ _ x => x))
              have HS4 := Lib.hid (BytesAt.below HS3'.out hb4)
              have HB4 := Lib.hid hb4'
              obtain ⟨q0, q1, q2⟩ := cells3 hb4'
              have f0 := frozen_of_row w4 w.heap.size 0 _ _ hb4'
              have f1 := frozen_of_row w4 w.heap.size 1 _ _ hb4'
              have f2 := frozen_of_row w4 w.heap.size 2 _ _ hb4'
              clear hb4 hb4' ho4
              obtain ⟨n4, hn4⟩ : ∃ n4, n4 = L.length := ⟨_, rfl⟩
              rw [← hn4] at HO4 ⊢
              clear hn4
              go_wp2_with fail
              have hbx := box3 HB4.out (.bool false) (.slice a4 n4 c4) (.slice none 0 0)
              obtain ⟨W, hW⟩ : ∃ W, W = ((w4.setCell ⟨w.heap.size, 0, none⟩ (.bool false)).setCell ⟨w.heap.size, 1, none⟩ (.slice a4 n4 c4)).setCell ⟨w.heap.size, 2, none⟩ (.slice none 0 0) := ⟨_, rfl⟩
              rw [← hW] at hbx ⊢
              obtain ⟨r0, r1, r2⟩ := cells3 hbx.at_
              refine bodyPost_ret (v := .agg #[.bool false, .slice a4 n4 c4, .slice none 0 0]) (by simp [results, Try.results95, go_sem, r0, r1, r2]) rfl ?_
              rw [HR3.out]
              exact Itemd.done (F := F0) hlt (fun _ => ⟨⟨_, _, rfl, HO4.out.at (fun g _ hg _ => by omega) (by decide), SliceAt.nil _ _ _ _⟩, by rw [← HFD.out]; exact HS4.out⟩) G5.out G6.out hbx
      · obtain rfl := s2 he1
        have HR2 : Hid (rdItem f (x :: t) = (e1, .text [], [])) := by
          show _ = _
          rw [HR.out, rdText, if_pos he1]
        clear s1 s2
        go_wp2_with fail
        have hbx := box3 HB2.out (.bool false) (.slice none 0 0) (.slice none 0 0)
        obtain ⟨W, hW⟩ : ∃ W, W = ((w2.setCell ⟨w.heap.size, 0, none⟩ (.bool false)).setCell ⟨w.heap.size, 1, none⟩ (.slice none 0 0)).setCell ⟨w.heap.size, 2, none⟩ (.slice none 0 0) := ⟨_, rfl⟩
        rw [← hW] at hbx ⊢
        obtain ⟨r0, r1, r2⟩ := cells3 hbx.at_
        refine bodyPost_ret (v := .agg #[.bool false, .slice none 0 0, .slice none 0 0]) (by simp [results, Try.results95, go_sem, r0, r1, r2]) rfl ?_
        rw [HR2.out]
        exact Itemd.done (F := F0) hlt (fun h => absurd h he1) G1.out G2.out hbx
end Go.Proofs.Ytndkkgkcbbmnpaa
