/-
  Contract of pergolaref02.first: a list with a size of its own.
  Contracts of pergolaref02.first, items at every depth.
  Contract of pergolaref02.Decode.
-/
import Derived.Test.YtndkkgkcbbmnpaaQbAH
import Derived.Deep.LoopGhost
namespace Go.Proofs.Ytndkkgkcbbmnpaa
open Go.RowKit Go.Pg

set_option maxRecDepth 100000 in
set_option maxHeartbeats 2000000 in
theorem rfirst_listC (f : Nat) (w : World) (n c p en deep : Nat) (B : List UInt8) (b o : Nat) (x : UInt8) (t : List UInt8) (m : Nat)
    (HB : Hid (BytesAt (fun b => b < w.heap.size) w (.slice (some ⟨b, o, none⟩) n c) B)) (HNB : Hid (n = B.length)) (HCELL : Hid (∀ (i : Nat), i < B.length → w.cell? ⟨b, o + i, none⟩ = some (.int .u8 ((B.getD i 0).toNat : Int))))
    (hp : p < en) (hen : en ≤ n) (hn : n ≤ 140737488351232) (hd : deep + f = 8) (hnc : n ≤ c) (hcm : c ≤ 2 ^ 63 - 1) (hbw : b < w.heap.size) (hc0 : w.cell? ⟨b, o + p, none⟩ = some (.int .u8 (x.toNat : Int))) (HT : Hid (t = seg B (p + 1) en)) (f' : Nat) (hf : f = f' + 1) (hm : x.toNat = m + 192) (HI : Hid (RItemsC f')) (h55 : 55 < m) (h58 : m ≤ 58) :
    Calls Try.prog 96 #[.slice (some ⟨b, o, none⟩) n c, .int .i64 p, .int .i64 en, .int .i64 deep] w (RFirstd w (f + 1) en (rdItem f (x :: t))) := by
  have hxl := x.toNat_lt
  subst hf

  have hmi : (x.toNat : Int) - 192 = (m : Int) := by omega
  have h128 : ¬ (x.toNat : Int) < 128 := by omega
  have h192 : (192 : Int) ≤ (x.toNat : Int) := by omega
  have hd8 : ¬ (8 : Int) ≤ (deep : Int) := by omega
  have hr1 : ¬ x.toNat < 128 := by omega
  have hr2 : ¬ x.toNat < 192 := by omega
  have hrt : rdItem (f' + 1) (x :: t) = rdList (rdItem f') (readSize m t) := by rw [rdItem, if_neg hr1, if_neg hr2, hm, Nat.add_sub_cancel]

  have HRT := Lib.hid hrt
  have HM := Lib.hid hm
  clear hrt hm hr1 hr2

  obtain ⟨k, hk⟩ : ∃ k, k = m - 55 := ⟨_, rfl⟩
  have hkk : (m : Int) - 55 = (k : Int) := by omega
  have hk1 : 1 ≤ k := by omega
  have hk3 : k ≤ 3 := by omega
  have htl : t.length = en - (p + 1) := by rw [HT.out, seg_len _ _ _ (by have := HNB.out; omega)]
  have HTL := Lib.hid htl
  clear htl
  by_cases hks : en < p + 1 + k
  · have hr : rdItem (f' + 1) (x :: t) = (22, .text [], []) := by
      have hs : readSize m t = (22, 0, t) := by unfold readSize; rw [if_neg (by omega), if_neg (by omega), if_pos (by have := HTL.out; omega)]
      rw [HRT.out, hs]; unfold rdList; rw [if_pos (by simp)]
    have HR := Lib.hid hr
    have HK := Lib.hid hk
    clear hr hk
    go_enter Try.func96, Try.ntmps96
    go_wp2_with fail
    refine bodyPost_ret (v := .tuple #[.agg #[.bool false, .slice none 0 0, .slice none 0 0], .int .i64 0, .int .i64 22]) (by simp [results, Try.results96, go_sem]) rfl ?_
    rw [HR.out]
    exact RFirstd.bad (k := 22) rfl (by decide) rfl rfl (Bel.alloc (Bel.refl w) _)
  · obtain ⟨nn, hnn⟩ : ∃ nn, nn = beNum (t.take k) := ⟨_, rfl⟩
    have hrs : readSize m t = if t.headD 0 = 0 ∨ nn ≤ 55 then (23, 0, seg B (p + 1 + k) en) else (0, nn, seg B (p + 1 + k) en) := by
      unfold readSize
      rw [if_neg (by omega), if_neg (by omega), if_neg (by have := HTL.out; omega), ← hk, ← hnn]
      have : t.drop k = seg B (p + 1 + k) en := by rw [HT.out, seg_drop]
      rw [this]
    have hcell := fun (j : Nat) (hj : j < k) => HCELL.out (p + 1 + j) (by have := HNB.out; omega)
    have hstep : ∀ (j : Nat) (hj : j < k), beNum (t.take (j + 1)) = beNum (t.take j) * 256 + (B.getD (p + 1 + j) 0).toNat := fun j hj => by
      rw [List.take_succ_eq_append_getElem (by have := HTL.out; omega), beNum_snoc]
      congr 2
      have h1 : t[j]? = B[p + 1 + j]? := by rw [HT.out, seg_get _ _ _ _ (by omega)]
      rw [List.getElem?_eq_getElem (by have := HTL.out; omega)] at h1
      rw [List.getD_eq_getElem?_getD, ← h1]; rfl
    have hbd : ∀ j, j ≤ k → beNum (t.take j) < 256 ^ j := fun j hj => by
      have h1 := beNum_lt (t.take j)
      rwa [List.length_take, Nat.min_eq_left (by have := HTL.out; omega)] at h1
    have hhead : t.headD 0 = B.getD (p + 1) 0 := by
      rw [HT.out, seg_getD _ _ _ (by omega) (by have := HNB.out; omega)]; rfl
    have hc1 : w.cell? ⟨b, o + (p + 1), none⟩ = some (.int .u8 ((B.getD (p + 1) 0).toNat : Int)) := HCELL.out (p + 1) (by have := HNB.out; omega)
    obtain ⟨z, hz⟩ : ∃ z, z = B.getD (p + 1) 0 := ⟨_, rfl⟩
    rw [← hz] at hhead hc1
    rw [hhead] at hrs
    have HK := Lib.hid hk
    have HNN := Lib.hid hnn
    have HRS := Lib.hid hrs
    have HC := Lib.hid hcell
    have HST := Lib.hid hstep
    have HBD := Lib.hid hbd
    clear hk hnn hrs hcell hstep hbd hhead hz
    go_enter Try.func96, Try.ntmps96
    go_wp2_with fail
    go_loop [13, 15] (fun q i => ∃ j v : Nat, j ≤ k ∧ i = .int .i64 j ∧ q = .int .i64 v ∧ v ≤ 16777215 ∧ Hid (v = beNum (t.take j))) (fun _ i => k - (intOf i).toNat)
    case atStart => exact ⟨0, 0, Nat.zero_le _, rfl, rfl, by omega, by show _ = _; simp [beNum]⟩
    case round =>
      obtain ⟨j, v, hj, rfl, rfl, hv, HV⟩ := hrel
      by_cases hlt : j < k
      · have hc2 := HC.out j hlt
        have hs2 := HST.out j hlt
        have hb2 := HBD.out j (by omega)
        obtain ⟨y, hy⟩ : ∃ y, y = B.getD (p + 1 + j) 0 := ⟨_, rfl⟩
        rw [← hy] at hc2 hs2
        rw [← HV.out] at hs2 hb2
        have hyl := y.toNat_lt
        have hvy : v ≤ 65535 := by
          have h3 : 256 ^ j ≤ 256 ^ 2 := Nat.pow_le_pow_right (by omega) (by omega)
          omega
        have HS2 := Lib.hid hs2
        have hjn : p + 1 + j < n := by omega
        clear hs2 hb2 hy
        go_wp2
        go_round
        case rel => exact ⟨j + 1, v * 256 + y.toNat, by omega, num_eq (by omega), num_eq (by omega), by omega, by show _ = _; rw [HS2.out]⟩
        case measure => simp [intOf]; omega
      · obtain rfl : j = k := by omega
        obtain rfl : v = nn := by rw [HV.out, HNN.out]
        have hpn : p + 1 < n := by omega
        by_cases hz0 : z.toNat = 0 ∨ v ≤ 55
        · have hr : rdItem (f' + 1) (x :: t) = (23, .text [], []) := by
            have hs : readSize m t = (23, 0, seg B (p + 1 + j) en) := by
              rw [HRS.out, if_pos]
              rcases hz0 with h | h
              · exact .inl (UInt8.toNat_inj.1 (by simpa using h))
              · exact .inr h
            rw [HRT.out, hs]; unfold rdList; rw [if_pos (by simp)]
          have HR := Lib.hid hr
          have hcase : ((z.toNat : Int) == 0) = true ∨ (((z.toNat : Int) == 0) = false ∧ (v : Int) < 56) := by
            by_cases h : z.toNat = 0
            · exact .inl (by simp; omega)
            · exact .inr ⟨by simp; omega, by omega⟩
          clear hr hz0
          rcases hcase with h | ⟨h, h2⟩
          all_goals
            go_wp2_with fail
            refine bodyPost_ret (v := .tuple #[.agg #[.bool false, .slice none 0 0, .slice none 0 0], .int .i64 0, .int .i64 23]) (by simp [results, Try.results96, go_sem]) rfl ?_
            rw [HR.out]
            exact RFirstd.bad (k := 23) rfl (by decide) rfl rfl (Bel.alloc (Bel.refl w) _)
        · have hs : readSize m t = (0, v, seg B (p + 1 + j) en) := by
            rw [HRS.out, if_neg]
            rintro (h | h)
            · exact hz0 (.inl (by rw [h]; rfl))
            · exact hz0 (.inr h)
          have HS := Lib.hid hs
          have hzb : ((z.toNat : Int) == 0) = false := by simp; omega
          have hv56 : ¬ (v : Int) < 56 := by omega
          clear hs hz0 HC HST HBD
          by_cases hsh : en < (p + 1 + j) + v
          · have hr : rdItem (f' + 1) (x :: t) = (22, .text [], []) := by
              rw [HRT.out, HS.out, rdList, if_neg (by simp), if_pos (by simp only; rw [seg_len _ _ _ (by have := HNB.out; omega)]; omega)]
            have HR := Lib.hid hr
            clear hr
            go_wp2_with fail
            refine bodyPost_ret (v := .tuple #[.agg #[.bool false, .slice none 0 0, .slice none 0 0], .int .i64 0, .int .i64 22]) (by simp [results, Try.results96, go_sem]) rfl ?_
            rw [HR.out]
            exact RFirstd.bad (k := 22) rfl (by decide) rfl rfl (Bel.alloc (Bel.refl w) _)

          · have hq : (p + 1 + j) + v ≤ n := by omega
            obtain ⟨L, hL⟩ : ∃ L, L = seg B (p + 1 + j) ((p + 1 + j) + v) := ⟨_, rfl⟩
            obtain ⟨e2, l, hal⟩ : ∃ e2 l, rdAll (rdItem f') v L = (e2, l) := ⟨_, _, rfl⟩
            obtain ⟨r, hrr⟩ : ∃ r : Nat × It × List UInt8, r = if e2 ≠ 0 then (e2, .text [], []) else (0, .list l, seg B ((p + 1 + j) + v) en) := ⟨_, rfl⟩
            have HRR := Lib.hid hrr
            have hr : rdItem (f' + 1) (x :: t) = r := by
              rw [hrr]
              rw [HRT.out, HS.out, rdList, if_neg (by simp), if_neg (by simp only; rw [seg_len _ _ _ (by have := HNB.out; omega)]; omega)]
              simp only [seg_drop, seg_take B (p + 1 + j) en v (by omega), ← hL, hal]
            have HR := Lib.hid hr
            have hcall := HI.out (fun b => b < w.heap.size) (w.alloc (.cells #[.bool false, .slice none 0 0, .slice none 0 0] 65)) (some ⟨b, o, none⟩) ((p : Int) + 1 + (j : Int)) ((p : Int) + 1 + (j : Int) + (v : Int)) ((deep : Int) + 1) n c (p + 1 + j) ((p + 1 + j) + v) (deep + 1) B (by omega) (by omega) (by omega) (BytesAt.below HB.out (Bel.alloc (Bel.refl w) _)) (by omega) (by omega) (by omega) hn (by omega)
            rw [show (p + 1 + j) + v - (p + 1 + j) = v by omega, ← hL, hal] at hcall
            have HC := Lib.hid hcall
            have hbox := heap_alloc_new w (.cells #[.bool false, .slice none 0 0, .slice none 0 0] 65)
            have HBOX := Lib.hid hbox
            have hsegl : (seg B ((p + 1 + j) + v) en).length = en - ((p + 1 + j) + v) := seg_len _ _ _ (by have := HNB.out; omega)
            have HSL := Lib.hid hsegl
            clear hr hL hal hcall hbox hsegl hrr
            go_wp2_with fail
            refine HC.out.mono ?_
            rintro e5 w1 ⟨l5, i1, y1, z1, i3, y3, z3, mm, rfl, k1, k2, k3, hb4⟩
            have hs4 := hb4.size
            simp only [World.size_alloc] at hs4
            have hlt4 : w.heap.size < w1.heap.size := by omega
            have hb1 := (hb4.block w.heap.size (by simp)).trans HBOX.out
            have HB1 := Lib.hid hb1
            have HBL1 := Lib.hid (Below.trans (Bel.alloc (Bel.refl w) _) (hb4.mono (by simp)))
            have K1 := Lib.hid k1
            have K2 := Lib.hid k2
            have K3 := Lib.hid k3
            obtain ⟨q0, q1, q2⟩ := cells3 hb1
            have f0 := frozen_of_row w1 w.heap.size 0 _ _ hb1
            have f1 := frozen_of_row w1 w.heap.size 1 _ _ hb1
            have f2 := frozen_of_row w1 w.heap.size 2 _ _ hb1
            clear hb1 hb4 hs4 k1 k2 k3
            go_wp2_with fail
            have hbx := box3 HB1.out (.bool l5) (.slice i1 y1 z1) (.slice i3 y3 z3)
            obtain ⟨W, hW⟩ : ∃ W, W = ((w1.setCell ⟨w.heap.size, 0, none⟩ (.bool l5)).setCell ⟨w.heap.size, 1, none⟩ (.slice i1 y1 z1)).setCell ⟨w.heap.size, 2, none⟩ (.slice i3 y3 z3) := ⟨_, rfl⟩
            rw [← hW] at hbx ⊢
            obtain ⟨r0, r1, r2⟩ := cells3 hbx.at_
            refine bodyPost_ret (v := .tuple #[.agg #[.bool l5, .slice i1 y1 z1, .slice i3 y3 z3], .int .i64 (mm : Int), .int .i64 (e2 : Int)]) (by simp [results, Try.results96, go_sem, r0, r1, r2]) rfl ?_
            have hfar : ∀ x, ItemAt (fresh (w.alloc (.cells #[.bool false, .slice none 0 0, .slice none 0 0] 65))) w1 (f' + 2) [.bool l5, .slice i1 y1 z1, .slice i3 y3 z3] x → ItemAt (fresh w) W (f' + 2) [.bool l5, .slice i1 y1 z1, .slice i3 y3 z3] x := fun x hx => by
              refine hx.carry (fun b _ hb => Nat.le_trans (by simp) hb) (fun b hb _ => hbx.other b ?_)
              have hb' : w.heap.size + 1 ≤ b := Nat.le_trans (by simp) hb
              omega
            have hbel := HBL1.out.trans (hbx.chg.toBelowAt (by omega) (fun k hk e => by omega))
            by_cases he : e2 = 0
            · subst he
              have K3' := K3.out
              rw [if_pos rfl] at K3'
              rw [HR.out, HRR.out, if_neg (by simp)]
              refine ⟨l5, i1, y1, z1, i3, y3, z3, mm, rfl, fun _ => ?_, fun h => absurd rfl h, hfar _ K3', hbel⟩
              have := K1.out (by trivial)
              show mm + (seg B ((p + 1 + j) + v) en).length = en
              rw [HSL.out]; omega
            · have K3' := K3.out
              rw [if_neg he] at K3'
              rw [HR.out, HRR.out, if_pos he]
              exact ⟨l5, i1, y1, z1, i3, y3, z3, mm, rfl, fun h => absurd h he, fun _ => K2.out he, hfar _ K3', hbel⟩
end Go.Proofs.Ytndkkgkcbbmnpaa
namespace Go.Pg
/-- how far a list's reading has come -/
def AllSt (f K : Nat) (L : List UInt8) (its : List It) (rest : List UInt8) : Prop :=
  ∃ j, rest.length ≤ j ∧ (rdAll (rdItem f) K L).1 = (rdAll (rdItem f) j rest).1 ∧ (rdAll (rdItem f) K L).2 = its ++ (rdAll (rdItem f) j rest).2
theorem AllSt.start (f K : Nat) (L : List UInt8) (h : L.length ≤ K) : AllSt f K L [] L := ⟨K, h, rfl, rfl⟩
theorem AllSt.bad {f K : Nat} {L : List UInt8} {its : List It} {c : UInt8} {t : List UInt8} (h : AllSt f K L its (c :: t)) (he : (rdItem f (c :: t)).1 ≠ 0) : (rdAll (rdItem f) K L).1 = (rdItem f (c :: t)).1 := by
  obtain ⟨j, h1, h2, h3⟩ := h
  cases j with
  | zero => simp at h1
  | succ j =>
    simp only [rdAll] at h2
    rw [if_neg (by simp), if_pos he] at h2
    exact h2
theorem AllSt.step {f K : Nat} {L : List UInt8} {its : List It} {c : UInt8} {t : List UInt8} (h : AllSt f K L its (c :: t)) (he : (rdItem f (c :: t)).1 = 0) : AllSt f K L (its ++ [(rdItem f (c :: t)).2.1]) (rdItem f (c :: t)).2.2 := by
  obtain ⟨j, h1, h2, h3⟩ := h
  have hr := rdItem_rest f c t
  cases j with
  | zero => simp at h1
  | succ j =>
    simp only [rdAll] at h2 h3
    rw [if_neg (by simp), if_neg (by simp [he])] at h2 h3
    exact ⟨j, by simp at h1; omega, h2, by rw [h3]; simp⟩
theorem AllSt.done {f K : Nat} {L : List UInt8} {its : List It} (h : AllSt f K L its []) : rdAll (rdItem f) K L = (0, its) := by
  obtain ⟨j, h1, h2, h3⟩ := h
  have : rdAll (rdItem f) j [] = (0, []) := by cases j <;> simp [rdAll]
  rw [this] at h2 h3
  rw [show rdAll (rdItem f) K L = ((rdAll (rdItem f) K L).1, (rdAll (rdItem f) K L).2) from rfl, h2, h3]
  simp
/-- what is left of bytes behind an item is their end -/
theorem rdItem_seg (f : Nat) (B : List UInt8) (p en : Nat) (x : It) (r : List UInt8) (h : rdItem f (seg B p en) = (0, x, r)) (hl : en ≤ B.length) (hp : p ≤ en) : r = seg B (en - r.length) en ∧ r.length ≤ en - p := by
  obtain ⟨e1, -⟩ := rdItem_sound f _ _ _ h
  have h1 := congrArg List.length e1
  rw [seg_len _ _ _ hl, List.length_append] at h1
  refine ⟨?_, by omega⟩
  have h2 := congrArg (List.drop x.enc.length) e1
  rw [seg_drop, List.drop_left] at h2
  rw [show en - r.length = p + x.enc.length by omega]; exact h2.symm
end Go.Pg
namespace Go.Proofs.Ytndkkgkcbbmnpaa
open Go.RowKit Go.Pg

theorem rfirst_some (f : Nat) (hi0 : ∀ f', f = f' + 1 → RItemsC f') (F0 : Nat → Prop) (w : World) (a : Option Addr) (n c p en deep : Nat) (B : List UInt8) (h0 : BytesAt F0 w (.slice a n c) B) (hp : p < en) (hen : en ≤ n) (hn : n ≤ 140737488351232) (hd : deep + f = 8) :
    Calls Try.prog 96 #[.slice a n c, .int .i64 p, .int .i64 en, .int .i64 deep] w (RFirstd w (f + 1) en (rdItem f (seg B p en))) := by
  obtain ⟨hnB, hnc, hcm⟩ := BytesAt.n h0
  have h : BytesAt (fun b => b < w.heap.size) w (.slice a n c) B := h0.carry (fun b hb _ => hb) (fun _ _ _ => rfl)
  rcases SliceAt.split h with ⟨hB, h00⟩ | ⟨b, o, rfl, -, -, hbw⟩
  · omega
  have hcell := fun i (hi : i < B.length) => BytesAt.cellD h i hi
  have hsc := seg_getD B p en hp (by omega)
  have hc0 := hcell p (by omega)
  obtain ⟨x, hx⟩ : ∃ x, x = B.getD p 0 := ⟨_, rfl⟩
  rw [← hx] at hsc hc0
  obtain ⟨t, ht⟩ : ∃ t, t = seg B (p + 1) en := ⟨_, rfl⟩
  rw [hsc, ← ht]
  unfold maxLen at hcm
  have hxl := x.toNat_lt
  by_cases h128 : x.toNat < 128
  · exact rfirst_plain f w n c p en deep B b o x t (Lib.hid h) (Lib.hid hnB) (Lib.hid hcell) hp hen hn hd hnc hcm hbw hc0 (Lib.hid ht) (by omega)
  · by_cases h192 : x.toNat < 192
    · obtain ⟨m, hm⟩ : ∃ m : Nat, x.toNat = m + 128 := ⟨x.toNat - 128, by omega⟩
      by_cases h58 : 58 < m
      · exact rfirst_textB f w n c p en deep B b o x t m (Lib.hid h) (Lib.hid hnB) (Lib.hid hcell) hp hen hn hd hnc hcm hbw hc0 (Lib.hid ht) hm h192 h58
      · by_cases h55 : m ≤ 55
        · exact rfirst_textA f w n c p en deep B b o x t m (Lib.hid h) (Lib.hid hnB) (Lib.hid hcell) hp hen hn hd hnc hcm hbw hc0 (Lib.hid ht) hm h192 h55
        · exact rfirst_textC f w n c p en deep B b o x t m (Lib.hid h) (Lib.hid hnB) (Lib.hid hcell) hp hen hn hd hnc hcm hbw hc0 (Lib.hid ht) hm h192 (by omega) (by omega)
    · obtain ⟨m, hm⟩ : ∃ m : Nat, x.toNat = m + 192 := ⟨x.toNat - 192, by omega⟩
      cases f with
      | zero => exact rfirst_deep 0 w n c p en deep B b o x t (Lib.hid h) (Lib.hid hnB) (Lib.hid hcell) hp hen hn hd hnc hcm hbw hc0 (Lib.hid ht) (by omega) rfl
      | succ f' =>
        by_cases h58 : 58 < m
        · exact rfirst_listB (f' + 1) w n c p en deep B b o x t m (Lib.hid h) (Lib.hid hnB) (Lib.hid hcell) hp hen hn hd hnc hcm hbw hc0 (Lib.hid ht) f' rfl hm (Lib.hid (hi0 f' rfl)) h58
        · by_cases h55 : m ≤ 55
          · exact rfirst_listA (f' + 1) w n c p en deep B b o x t m (Lib.hid h) (Lib.hid hnB) (Lib.hid hcell) hp hen hn hd hnc hcm hbw hc0 (Lib.hid ht) f' rfl hm (Lib.hid (hi0 f' rfl)) h55
          · exact rfirst_listC (f' + 1) w n c p en deep B b o x t m (Lib.hid h) (Lib.hid hnB) (Lib.hid hcell) hp hen hn hd hnc hcm hbw hc0 (Lib.hid ht) f' rfl hm (Lib.hid (hi0 f' rfl)) (by omega) (by omega)
theorem rfirst_of (f : Nat) (hi0 : ∀ f', f = f' + 1 → RItemsC f') : RFirstC f := by
  intro F w a pi ei di n c p en deep B hpi hei hdi h0 hp hen hn hd
  subst hpi hei hdi
  by_cases hlt : p < en
  · exact rfirst_some f hi0 F w a n c p en deep B h0 hlt hen hn hd
  · obtain rfl : p = en := by omega
    exact rfirst_end f w a n c p deep B

set_option maxRecDepth 100000 in
set_option maxHeartbeats 2000000 in
theorem ritems_of (f : Nat) (hf0 : RFirstC f) : RItemsC f := by
  intro F0 w a pi ei di n c p en deep B hpi hei hdi h0 hp hpe hen hn hd
  subst hpi hei hdi
  obtain ⟨hnB, hnc, hcm⟩ := BytesAt.n h0
  have h : BytesAt (fun b => b < w.heap.size) w (.slice a n c) B := h0.carry (fun b hb _ => hb) (fun _ _ _ => rfl)
  obtain ⟨i0, hi, hz0, hz1, hz2⟩ := info_parts infoItem
  obtain ⟨K, hK⟩ : ∃ K, K = en - p := ⟨_, rfl⟩
  obtain ⟨L, hL⟩ : ∃ L, L = seg B p en := ⟨_, rfl⟩
  rw [← hK, ← hL]
  have hLK : L.length ≤ K := by rw [hL, hK, seg_len _ _ _ (by omega)]; exact Nat.le_refl _
  have hS0 : AllSt f K L [] (seg B p en) := by rw [← hL]; exact AllSt.start f K L hLK
  obtain ⟨r, hrr⟩ : ∃ r, r = rdAll (rdItem f) K L := ⟨_, rfl⟩
  rw [← hrr]
  have HB := Lib.hid h
  have HNB := Lib.hid hnB
  have HF := Lib.hid hf0
  have HR := Lib.hid hrr
  have HS0 := Lib.hid hS0
  have HLK := Lib.hid hLK
  have HKK := Lib.hid hK
  clear h0 h hnB hf0 hrr hS0 hLK hK hL
  go_enter Try.func112, Try.ntmps112
  go_wp2
  go_loopw [1] (fun i wr => ∃ (q : Nat) (its : List It) (a1 : Option Addr) (c1 m : Nat), i = .int .i64 q ∧ q ≤ en ∧ p ≤ q ∧ m + p ≤ q ∧ Hid (m = its.length ∧ AllSt f K L its (seg B q en)) ∧ Hid (OwnList (fun F w cs x => ItemAt F w (f + 1) cs x) (fun b => w.heap.size + 1 < b) (w.heap.size + 2) wr 65 3 (.slice a1 m c1) its) ∧
      Hid (Below w.heap.size w wr ∧ wr.heap[w.heap.size]? = some (.cells #[.bool false, .slice none 0 0, .slice none 0 0] 65 (0, 0)) ∧ wr.heap[w.heap.size + 1]? = some (.cells #[.bool true, .slice none 0 0, .slice a1 m c1] 65 (0, 0)))) (fun i _ => en - (intOf i).toNat)
  case atStart =>
    refine ⟨p, [], none, 0, 0, rfl, hp, Nat.le_refl _, by omega, ⟨rfl, HS0.out⟩, OwnList.nil, Bel.alloc (Bel.alloc (Bel.refl w) _) _, ?_, ?_⟩
    · exact (Below.heap_alloc _ _ _ (by simp)).trans (heap_alloc_new w _)
    · have := heap_alloc_new (w.alloc (.cells #[.bool false, .slice none 0 0, .slice none 0 0] 65)) (.cells #[.bool true, .slice none 0 0, .slice none 0 0] 65)
      simpa using this
  case round =>
    obtain ⟨q, its, a1, c1, m, rfl, hq, hpq, hmq, HS, HO, HB0⟩ := hrel
    obtain ⟨p0, p1, p2⟩ := cells3 HB0.out.2.2
    obtain ⟨q0, q1, q2⟩ := cells3 HB0.out.2.1
    have fq := frozen_of_row wr (w.heap.size + 1) 2 _ _ HB0.out.2.2
    have f0 := frozen_of_row wr w.heap.size 0 _ _ HB0.out.2.1
    have f1 := frozen_of_row wr w.heap.size 1 _ _ HB0.out.2.1
    have f2 := frozen_of_row wr w.heap.size 2 _ _ HB0.out.2.1
    have hsw := (Array.getElem?_eq_some_iff.1 HB0.out.2.2).1
    by_cases hlt : q < en
    · have hseg := seg_getD B q en hlt (by have := HNB.out; omega)
      have hst := HS.out.2
      have hcall := HF.out (fun b => b < w.heap.size) wr a (q : Int) (en : Int) (deep : Int) n c q en deep B rfl rfl rfl (BytesAt.below HB.out HB0.out.1) hq hen hn hd
      have hrs := fun x r h => rdItem_seg f B q en x r h (by have := HNB.out; omega) hq
      rw [hseg] at hst hcall hrs
      obtain ⟨e5, y, t5, h5⟩ := triple (rdItem f (B.getD q 0 :: seg B (q + 1) en))
      have hbad := hst.bad
      have hstep := hst.step
      have hrest := rdItem_rest f (B.getD q 0) (seg B (q + 1) en)
      rw [seg_len _ _ _ (by have := HNB.out; omega)] at hrest
      rw [h5] at hcall hbad hstep hrest
      have hrs5 : e5 = 0 → t5 = seg B (en - t5.length) en := fun h => (hrs y t5 (by rw [h5, h])).1
      have HC := Lib.hid hcall
      have HBAD := Lib.hid hbad
      have HSTEP := Lib.hid hstep
      have HREST := Lib.hid hrest
      have HRS := Lib.hid hrs5
      clear hseg hst hcall hrs h5 hbad hstep hrest hrs5
      go_wp2_with fail
      refine HC.out.mono ?_
      rintro e w1 ⟨l5, i1, y1, z1, i3, y3, z3, m5, rfl, k1, k2, k3, hb1⟩
      have hs1 := hb1.size
      have hx1 : w1.heap[w.heap.size + 1]? = some (.cells #[.bool true, .slice none 0 0, .slice a1 m c1] 65 (0, 0)) := (hb1.block _ hsw).trans HB0.out.2.2
      have hy1 : w1.heap[w.heap.size]? = some (.cells #[.bool false, .slice none 0 0, .slice none 0 0] 65 (0, 0)) := (hb1.block _ (by omega)).trans HB0.out.2.1
      have hbel1 := Bel.call HB0.out.1 hb1
      have K1 := Lib.hid k1
      have K2 := Lib.hid k2
      have K3 := Lib.hid k3
      have HX1 := Lib.hid hx1
      have HY1 := Lib.hid hy1
      have HBL := Lib.hid hbel1
      have hO1 := (HO.out).call (carriedItem (f + 1)) hb1
      have HO1 := Lib.hid hO1
      have HSZ := Lib.hid hs1
      have hlt1 : w.heap.size + 1 < w1.heap.size := by omega
      have hlt0 : w.heap.size < w1.heap.size := by omega
      clear k1 k2 k3 p0 p1 p2 q0 q1 q2 fq f0 f1 f2 hb1 hbel1 hO1 hs1
      by_cases he : e5 = 0
      · subst he
        obtain ⟨p0, p1, p2⟩ := cells3 hx1
        have fq := frozen_of_row w1 (w.heap.size + 1) 2 _ _ hx1
        have howr := (HO1.out).own
        have hOa := (HO1.out).call (carriedItem (f + 1)) (Bel.alloc (Bel.refl w1) (.cells #[.bool l5, .slice i1 y1 z1, .slice i3 y3 z3] 65))
        have hit : ItemAt (fresh wr) (w1.alloc (.cells #[.bool l5, .slice i1 y1 z1, .slice i3 y3 z3] 65)) (f + 1) [.bool l5, .slice i1 y1 z1, .slice i3 y3 z3] y := K3.out.below (Bel.alloc (Bel.refl w1) _)
        have howr0 := (HO.out).own
        obtain ⟨R, hR1, hRo, hRs, hRn⟩ := hOa.push (carriedItem (f + 1)) hit rfl (by decide) (fun b' _ hb' => ⟨by have : wr.heap.size ≤ b' := hb'; show w.heap.size + 1 < b'; omega, fun e => by have h1 := (howr0 b' e).2; have h2 : wr.heap.size ≤ b' := hb'; omega⟩) 65
        simp only [World.size_alloc] at hRs
        have hmi : its.length = m := HS.out.1.symm
        have hle : (its.length + [y].length) * 56 ≤ 140737488355328 := by rw [hmi]; simp; omega
        have hbase : w.heap.size + 2 ≤ ((w1.alloc (.cells #[.bool l5, .slice i1 y1 z1, .slice i3 y3 z3] 65)).alloc (.cells [.bool l5, .slice i1 y1 z1, .slice i3 y3 z3].toArray 65)).heap.size := by simp; omega
        have hX : ∀ w2 : World, ((w1.alloc (.cells #[.bool l5, .slice i1 y1 z1, .slice i3 y3 z3] 65)).alloc (.cells [.bool l5, .slice i1 y1 z1, .slice i3 y3 z3].toArray 65)).grownBy w2 (Value.slice a1 m c1).ownBlock →
            Below w.heap.size w w2 ∧ w2.heap[w.heap.size]? = some (.cells #[.bool false, .slice none 0 0, .slice none 0 0] 65 (0, 0)) ∧ w2.heap[w.heap.size + 1]? = some (.cells #[.bool true, .slice none 0 0, .slice a1 m c1] 65 (0, 0)) := by
          intro w2 hg
          have hsz2 := hg.size
          simp only [World.size_alloc] at hsz2
          refine ⟨(Bel.alloc (Bel.alloc HBL.out _) _).grown hg (by simp; omega) (fun k hk => by have := (howr k hk).1; omega), ?_, ?_⟩
          · rw [hg.block _ (by simp; omega) (fun e => by have := (howr _ e.symm).1; omega), Below.heap_alloc _ _ _ (by simp; omega), Below.heap_alloc _ _ _ (by omega)]; exact HY1.out
          · rw [hg.block _ (by simp; omega) (fun e => by have := (howr _ e.symm).1; omega), Below.heap_alloc _ _ _ (by simp; omega), Below.heap_alloc _ _ _ (by omega)]; exact HX1.out
        have HX := Lib.hid hX
        have HRN := Lib.hid hRn
        have HRO := Lib.hid hRo
        have HRS' := Lib.hid hRs
        have HR1 := Lib.hid hR1
        have HMI := Lib.hid hmi
        have hln : (its ++ [y]).length = m + 1 := by rw [List.length_append, hmi]; rfl
        have HLN := Lib.hid hln
        clear hx1 hy1 hOa hit howr howr0 hRn hRo hRs hR1 hmi hX hln
        go_wp2_with (at_builtin; refine wpList_append_at rfl (.tmp 33) (.tmp 35) 63 rfl (w.heap.size + 2) 65 i0 (.agg #[.bool false, .slice none 0 0, .slice none 0 0]) 3 56 underlyingItems hi hz0 hz1 hz2 rfl (by decide) (by decide) HR1.out (.slice a1 m c1) its rfl HRO.out _ [y] (fun _ => True) rfl HRS'.out hle hbase ?_; intro v' w2 ho hg hm; obtain ⟨va, vc, hv', -, -, -⟩ := ho.len; rw [HLN.out] at hv'; subst hv'; have HON := Lib.hid (HRN.out _ _ ho hg hm); have HX2 := Lib.hid (HX.out _ hg); obtain ⟨r0, r1, r2⟩ := cells3 HX2.out.2.2; have fr := frozen_of_row w2 (w.heap.size + 1) 2 _ _ HX2.out.2.2; clear ho hg hm)
        have hme : m5 + t5.length = en := K1.out (by trivial)
        have hrl : t5.length ≤ en - (q + 1) := HREST.out
        have hown := HON.out.own
        have hsz2 := (Array.getElem?_eq_some_iff.1 HX2.out.2.2).1
        have hOs : Hid (OwnList (fun F w cs x => ItemAt F w (f + 1) cs x) (fun b => w.heap.size + 1 < b) (w.heap.size + 2) (w2.setCell ⟨w.heap.size + 1, 2, none⟩ (.slice va (m + 1) vc)) 65 3 (.slice va (m + 1) vc) (its ++ [y])) :=
          Lib.hid (HON.out.carry (carriedItem (f + 1)) (by simp) (fun b' hb' _ => Below.heap_setCell _ _ _ _ (by have : w.heap.size + 1 < b' := hb'; show b' ≠ w.heap.size + 1; omega)) (fun g' hg' => Below.heap_setCell _ _ _ _ (by have := (hown g' hg').1; show g' ≠ w.heap.size + 1; omega)))
        have hBs : Hid (Below w.heap.size w (w2.setCell ⟨w.heap.size + 1, 2, none⟩ (.slice va (m + 1) vc)) ∧ (w2.setCell ⟨w.heap.size + 1, 2, none⟩ (.slice va (m + 1) vc)).heap[w.heap.size]? = some (.cells #[.bool false, .slice none 0 0, .slice none 0 0] 65 (0, 0)) ∧
            (w2.setCell ⟨w.heap.size + 1, 2, none⟩ (.slice va (m + 1) vc)).heap[w.heap.size + 1]? = some (.cells #[.bool true, .slice none 0 0, .slice va (m + 1) vc] 65 (0, 0))) :=
          Lib.hid ⟨HX2.out.1.setCell (by show w.heap.size ≤ w.heap.size + 1; omega) _, by rw [Below.heap_setCell _ _ _ _ (by show w.heap.size ≠ w.heap.size + 1; omega)]; exact HX2.out.2.1, blk_setCell HX2.out.2.2⟩
        have hAS : Hid (m + 1 = (its ++ [y]).length ∧ AllSt f K L (its ++ [y]) (seg B m5 en)) := Lib.hid ⟨HLN.out.symm, by
          have h1 := HSTEP.out (by trivial)
          have h2 := HRS.out (by trivial)
          rw [show en - t5.length = m5 by omega] at h2
          rw [← h2]; exact h1⟩
        clear hown hsz2 r0 r1 r2 fr
        go_roundw
        case rel => exact ⟨m5, its ++ [y], va, vc, m + 1, rfl, by omega, by omega, by omega, hAS, hOs, hBs⟩
        case measure => simp [intOf]; omega
      · have hr1 : r.1 = e5 := by rw [HR.out]; exact HBAD.out he
        obtain ⟨q0, q1, q2⟩ := cells3 hy1
        have f0 := frozen_of_row w1 w.heap.size 0 _ _ hy1
        have f1 := frozen_of_row w1 w.heap.size 1 _ _ hy1
        have f2 := frozen_of_row w1 w.heap.size 2 _ _ hy1
        have hm5 : m5 = 0 := K2.out he
        have ht : (((e5 : Nat) : Int) != 0) = true := by simp; omega
        have HR1 := Lib.hid hr1
        have HE := Lib.hid he
        clear hx1 hy1 hr1 he hm5
        go_wp2_with fail
        have hbx := box3 HY1.out (.bool false) (.slice none 0 0) (.slice none 0 0)
        obtain ⟨W, hW⟩ : ∃ W, W = ((w1.setCell ⟨w.heap.size, 0, none⟩ (.bool false)).setCell ⟨w.heap.size, 1, none⟩ (.slice none 0 0)).setCell ⟨w.heap.size, 2, none⟩ (.slice none 0 0) := ⟨_, rfl⟩
        rw [← hW] at hbx ⊢
        obtain ⟨r0, r1, r2⟩ := cells3 hbx.at_
        have hlw : w.heap.size < W.heap.size := by rw [hbx.size]; exact hlt0
        refine bodyPost_ret (v := .tuple #[.agg #[.bool false, .slice none 0 0, .slice none 0 0], .int .i64 ((0 : Nat) : Int), .int .i64 (e5 : Int)]) (by simp [results, Try.results112, go_sem, r0, r1, r2, hlw]) rfl ?_
        refine ⟨false, none, 0, 0, none, 0, 0, 0, by rw [HR1.out], fun h => absurd (HR1.out.symm.trans h) HE.out, fun _ => rfl, ?_, (HBL.out.trans (hbx.chg.toBelowAt (by omega) (fun k hk e => by omega))).alloc (by omega) _⟩
        rw [if_neg (by rw [HR1.out]; exact HE.out)]
        exact ⟨_, _, rfl, BytesAt.nil _ _, SliceAt.nil _ _ _ _⟩
    · obtain rfl : q = en := by omega
      have hdone : r = (0, its) := by
        rw [HR.out]
        have := HS.out.2
        rw [seg_nil B q q (Nat.le_refl _)] at this
        exact this.done
      have hlt0 : w.heap.size < wr.heap.size := by omega
      have HD := Lib.hid hdone
      clear hdone
      go_wp2_with fail
      have hbx := box3 HB0.out.2.1 (.bool true) (.slice none 0 0) (.slice a1 m c1)
      obtain ⟨W, hW⟩ : ∃ W, W = ((wr.setCell ⟨w.heap.size, 0, none⟩ (.bool true)).setCell ⟨w.heap.size, 1, none⟩ (.slice none 0 0)).setCell ⟨w.heap.size, 2, none⟩ (.slice a1 m c1) := ⟨_, rfl⟩
      rw [← hW] at hbx ⊢
      obtain ⟨r0, r1, r2⟩ := cells3 hbx.at_
      refine bodyPost_ret (v := .tuple #[.agg #[.bool true, .slice none 0 0, .slice a1 m c1], .int .i64 (q : Int), .int .i64 ((0 : Nat) : Int)]) (by simp [results, Try.results112, go_sem, r0, r1, r2]) rfl ?_
      rw [HD.out]
      refine ⟨true, none, 0, 0, a1, m, c1, q, rfl, fun _ => rfl, fun h => absurd rfl h, ?_, HB0.out.1.trans (hbx.chg.toBelowAt (by omega) (fun k hk e => by omega))⟩
      rw [if_pos rfl]
      have hat := HO.out.at (carriedItem (f + 1)) (G' := fun b => w.heap.size + 1 < b) (fun _ h _ => h) (fun b h _ => by show w.heap.size + 1 < b; omega) (by decide)
      have hit : ItemAt (fun b => w.heap.size + 1 < b) wr (f + 2) [.bool true, .slice none 0 0, .slice a1 m c1] (.list its) := ⟨_, _, rfl, SliceAt.nil _ _ _ _, hat⟩
      exact hit.carry (fun b _ hb => by have : w.heap.size + 1 < b := hb; show w.heap.size ≤ b; omega) (fun b hb _ => hbx.other b (by have : w.heap.size + 1 < b := hb; omega))
theorem rfirst_all : ∀ f, RFirstC f ∧ RItemsC f
  | 0 => have h := rfirst_of 0 (fun f' h => by omega); ⟨h, ritems_of 0 h⟩
  | f + 1 => have h := rfirst_of (f + 1) (fun f' h => by obtain rfl : f = f' := by omega
                                                         exact (rfirst_all f).2); ⟨h, ritems_of (f + 1) h⟩

set_option maxRecDepth 100000 in
set_option maxHeartbeats 1000000 in
theorem rFirst_any (F0 : Nat → Prop) (w : World) (a : Option Addr) (n c : Nat) (bs : List UInt8) (h0 : BytesAt F0 w (.slice a n c) bs) (hn : n ≤ 140737488351232) :
    Calls Try.prog 78 #[.slice a n c] w (Firstd w n (rdItem 8 bs)) := by
  have hnl := (BytesAt.n h0).1
  have hcall := (rfirst_all 8).1 F0 (w.alloc (.cells #[.bool false, .slice none 0 0, .slice none 0 0] 65)) a 0 n 0 n c 0 n 0 bs rfl rfl rfl (BytesAt.below h0 (Bel.alloc (Bel.refl w) _)) (Nat.zero_le _) (Nat.le_refl _) hn rfl
  have hsa : seg bs 0 n = bs := by rw [hnl]; exact seg_all bs
  rw [hsa] at hcall
  have hbox := heap_alloc_new w (.cells #[.bool false, .slice none 0 0, .slice none 0 0] 65)
  have HBOX := Lib.hid hbox
  obtain ⟨r, hr⟩ : ∃ r, r = rdItem 8 bs := ⟨_, rfl⟩
  rw [← hr] at hcall ⊢
  have HC := Lib.hid hcall
  clear h0 hnl hcall hsa hbox hr
  go_enter Try.func78, Try.ntmps78
  go_wp2_with fail
  refine HC.out.mono ?_
  rintro e5 w1 ⟨l5, i1, y1, z1, i3, y3, z3, mm, rfl, k1, k2, k3, hb4⟩
  have hs4 := hb4.size
  simp only [World.size_alloc] at hs4
  have hb1 := (hb4.block w.heap.size (by simp)).trans HBOX.out
  have HB1 := Lib.hid hb1
  have HBL1 := Lib.hid (Below.trans (Bel.alloc (Bel.refl w) _) (hb4.mono (by simp)))
  have K1 := Lib.hid k1
  have K2 := Lib.hid k2
  have K3 := Lib.hid k3
  obtain ⟨q0, q1, q2⟩ := cells3 hb1
  have f0 := frozen_of_row w1 w.heap.size 0 _ _ hb1
  have f1 := frozen_of_row w1 w.heap.size 1 _ _ hb1
  have f2 := frozen_of_row w1 w.heap.size 2 _ _ hb1
  clear hb1 hb4 k1 k2 k3
  go_wp2_with fail
  have hbx := box3 HB1.out (.bool l5) (.slice i1 y1 z1) (.slice i3 y3 z3)
  obtain ⟨W, hW⟩ : ∃ W, W = ((w1.setCell ⟨w.heap.size, 0, none⟩ (.bool l5)).setCell ⟨w.heap.size, 1, none⟩ (.slice i1 y1 z1)).setCell ⟨w.heap.size, 2, none⟩ (.slice i3 y3 z3) := ⟨_, rfl⟩
  rw [← hW] at hbx ⊢
  obtain ⟨r0, r1, r2⟩ := cells3 hbx.at_
  refine bodyPost_ret (v := .tuple #[.agg #[.bool l5, .slice i1 y1 z1, .slice i3 y3 z3], .int .i64 (mm : Int), .int .i64 (r.1 : Int)]) (by simp [results, Try.results78, go_sem, r0, r1, r2]) rfl ?_
  refine ⟨l5, i1, y1, z1, i3, y3, z3, mm, rfl, K1.out, K2.out, K3.out.carry (fun b _ hb => Nat.le_trans (by simp) hb) (fun b hb _ => hbx.other b ?_), HBL1.out.trans (hbx.chg.toBelowAt (by omega) (fun k hk e => by omega))⟩
  have hb' : w.heap.size + 1 ≤ b := Nat.le_trans (by simp) hb
  omega
end Go.Proofs.Ytndkkgkcbbmnpaa
namespace Go.Proofs.Ytndkkgkcbbmnpaa
open Go.RowKit Go.Pg

set_option maxRecDepth 100000 in
set_option maxHeartbeats 2000000 in
theorem rdecode_any (F0 : Nat → Prop) (w : World) (a : Option Addr) (n c : Nat) (bs : List UInt8) (h0 : BytesAt F0 w (.slice a n c) bs) (hn : n ≤ 140737488351232) :
    Calls Try.prog 49 #[.slice a n c] w (Decd fresh w (rdWhole bs)) := by
  have hnl : n = bs.length := by
    obtain ⟨a', c', hv, h1, -⟩ := h0
    simp only [Value.slice.injEq] at hv
    exact hv.2.1
  obtain ⟨e1, y, t, hr⟩ : ∃ e1 y t, rdItem 8 bs = (e1, y, t) := ⟨_, _, _, rfl⟩
  have hrw : rdWhole bs = if e1 ≠ 0 then (e1, .text []) else if t ≠ [] then (24, .text []) else (0, y) := by unfold rdWhole; rw [hr]
  have herr := rdItem_err 8 bs
  rw [hr] at herr
  have hcall := rFirst_any F0 (w.alloc (.cells #[.bool false, .slice none 0 0, .slice none 0 0] 65)) a n c bs (BytesAt.below h0 (Bel.alloc (Bel.refl w) _)) hn
  rw [hr] at hcall
  have HC := Lib.hid hcall
  have HRW := Lib.hid hrw
  have HERR := Lib.hid herr
  have HNL := Lib.hid hnl
  clear h0 hnl hr hrw hcall herr
  go_enter Try.func49, Try.ntmps49
  go_wp2_with fail
  refine HC.out.mono ?_
  rintro e5 w5 ⟨l5, i1, y1, z1, i3, y3, z3, m, rfl, k1, k2, k3, k4⟩
  have hsz := k4.size
  simp only [World.size_alloc] at hsz
  have h0 : w.heap.size < w5.heap.size := by omega
  have hb5 := (k4.block w.heap.size (by simp)).trans (heap_alloc_new w _)
  have HB5 := Lib.hid hb5
  have K1 := Lib.hid k1
  have K2 := Lib.hid k2
  have K3 := Lib.hid k3
  have HBL := Lib.hid ((Bel.alloc (Bel.refl w) (.cells #[.bool false, .slice none 0 0, .slice none 0 0] 65)).trans (k4.mono (by simp)))
  obtain ⟨q0, q1, q2⟩ := cells3 hb5
  have f0 := frozen_of_row w5 w.heap.size 0 _ _ hb5
  have f1 := frozen_of_row w5 w.heap.size 1 _ _ hb5
  have f2 := frozen_of_row w5 w.heap.size 2 _ _ hb5
  clear hb5 k1 k2 k3 k4 hsz
  by_cases he : e1 = 0
  · subst he
    have hmn : m + t.length = n := K1.out rfl
    by_cases hlt : m < n
    · clear hmn
      go_wp2_with fail
      have hbx := box3 HB5.out (.bool false) (.slice none 0 0) (.slice none 0 0)
      obtain ⟨W, hW⟩ : ∃ W, W = ((w5.setCell ⟨w.heap.size, 0, none⟩ (.bool false)).setCell ⟨w.heap.size, 1, none⟩ (.slice none 0 0)).setCell ⟨w.heap.size, 2, none⟩ (.slice none 0 0) := ⟨_, rfl⟩
      rw [← hW] at hbx ⊢
      obtain ⟨r0, r1, r2⟩ := cells3 hbx.at_
      have hlw : w.heap.size < W.heap.size := by rw [hbx.size]; exact h0
      refine bodyPost_ret (v := .tuple #[.agg #[.bool false, .slice none 0 0, .slice none 0 0], .int .i64 ((24 : Nat) : Int)]) (by simp [results, Try.results49, go_sem, r0, r1, r2, hlw]) rfl ?_
      have ht : t ≠ [] := by intro h; have := K1.out trivial; rw [h] at this; simp at this; omega
      rw [HRW.out, if_neg (by simp), if_pos ht]
      exact ⟨false, none, 0, 0, none, 0, 0, rfl, ⟨_, _, rfl, BytesAt.nil _ _, SliceAt.nil _ _ _ _⟩, ((HBL.out.trans (hbx.chg.toBelowAt (by omega) (fun k hk e => by omega))).alloc (by omega) _)⟩
    · have ht : t = [] := List.eq_nil_of_length_eq_zero (by omega)
      have HT := Lib.hid ht
      clear ht hmn
      go_wp2_with fail
      have hbx := box3 HB5.out (.bool l5) (.slice i1 y1 z1) (.slice i3 y3 z3)
      obtain ⟨W, hW⟩ : ∃ W, W = ((w5.setCell ⟨w.heap.size, 0, none⟩ (.bool l5)).setCell ⟨w.heap.size, 1, none⟩ (.slice i1 y1 z1)).setCell ⟨w.heap.size, 2, none⟩ (.slice i3 y3 z3) := ⟨_, rfl⟩
      rw [← hW] at hbx ⊢
      obtain ⟨r0, r1, r2⟩ := cells3 hbx.at_
      have hlw : w.heap.size < W.heap.size := by rw [hbx.size]; exact h0
      refine bodyPost_ret (v := .tuple #[.agg #[.bool l5, .slice i1 y1 z1, .slice i3 y3 z3], .int .i64 ((0 : Nat) : Int)]) (by simp [results, Try.results49, go_sem, r0, r1, r2, hlw]) rfl ?_
      rw [HRW.out, if_neg (by simp), if_neg (by simp [HT.out])]
      refine ⟨l5, i1, y1, z1, i3, y3, z3, rfl, ?_, ((HBL.out.trans (hbx.chg.toBelowAt (by omega) (fun k hk e => by omega))).alloc (by omega) _)⟩
      refine K3.out.carry (fun b _ hb => Nat.le_trans (by simp) hb) (fun b hb hlt => ?_)
      have hb' : w.heap.size + 1 ≤ b := Nat.le_trans (by simp) hb
      rw [Below.heap_alloc _ _ _ (by rw [hbx.size]; exact hlt), hbx.other _ (by omega)]
  · have HE := Lib.hid he
    have hm : m = 0 := K2.out he
    have hy : y = .text [] := HERR.out he
    have ht : (((e1:Nat):Int) != 0) = true := by simp; omega
    have HY := Lib.hid hy
    subst hm
    clear he hy
    go_wp2_with fail
    have hbx := box3 HB5.out (.bool false) (.slice none 0 0) (.slice none 0 0)
    obtain ⟨W, hW⟩ : ∃ W, W = ((w5.setCell ⟨w.heap.size, 0, none⟩ (.bool false)).setCell ⟨w.heap.size, 1, none⟩ (.slice none 0 0)).setCell ⟨w.heap.size, 2, none⟩ (.slice none 0 0) := ⟨_, rfl⟩
    rw [← hW] at hbx ⊢
    obtain ⟨r0, r1, r2⟩ := cells3 hbx.at_
    have hlw : w.heap.size < W.heap.size := by rw [hbx.size]; exact h0
    refine bodyPost_ret (v := .tuple #[.agg #[.bool false, .slice none 0 0, .slice none 0 0], .int .i64 (e1 : Int)]) (by simp [results, Try.results49, go_sem, r0, r1, r2, hlw]) rfl ?_
    rw [HRW.out, if_pos HE.out]
    exact ⟨false, none, 0, 0, none, 0, 0, rfl, ⟨_, _, rfl, BytesAt.nil _ _, SliceAt.nil _ _ _ _⟩, ((HBL.out.trans (hbx.chg.toBelowAt (by omega) (fun k hk e => by omega))).alloc (by omega) _)⟩
end Go.Proofs.Ytndkkgkcbbmnpaa
