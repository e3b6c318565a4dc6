/-
  Contract of pergolaref02.first: a short text.
  Contract of pergolaref02.first: a text with a size of its own.
  Contract of pergolaref02.first: a short list.
  Contract of pergolaref02.first: a list with a size of its own.
-/
import Derived.Test.YtndkkgkcbbmnpaaEtAI
namespace Go.Proofs.Ytndkkgkcbbmnpaa
open Go.RowKit Go.Pg

set_option maxRecDepth 100000 in
set_option maxHeartbeats 2000000 in
theorem rfirst_textA (f : Nat) (w : World) (n c p en deep : Nat) (B : List UInt8) (b o : Nat) (x : UInt8) (t : List UInt8) (m : Nat)
    (HB : Hid (BytesAt (fun b => b < w.heap.size) w (.slice (some ⟨b, o, none⟩) n c) B)) (HNB : Hid (n = B.length)) (HCELL : Hid (∀ (i : Nat), i < B.length → w.cell? ⟨b, o + i, none⟩ = some (.int .u8 ((B.getD i 0).toNat : Int))))
    (hp : p < en) (hen : en ≤ n) (hn : n ≤ 70368744177664) (hd : deep + f = 8) (hnc : n ≤ c) (hcm : c ≤ 2 ^ 63 - 1) (hbw : b < w.heap.size) (hc0 : w.cell? ⟨b, o + p, none⟩ = some (.int .u8 (x.toNat : Int))) (HT : Hid (t = seg B (p + 1) en)) (hm : x.toNat = m + 128) (hm2 : x.toNat < 192) (h55 : m ≤ 55) :
    Calls Try.prog 96 #[.slice (some ⟨b, o, none⟩) n c, .int .i64 p, .int .i64 en, .int .i64 deep] w (RFirstd w (f + 1) en (rdItem f (x :: t))) := by
  have hxl := x.toNat_lt
  have hmi : (x.toNat : Int) - 128 = (m : Int) := by omega
  have h128 : ¬ (x.toNat : Int) < 128 := by omega
  have h192 : ¬ (192 : Int) ≤ (x.toNat : Int) := by omega

  have hr1 : ¬ x.toNat < 128 := by omega
  have hr2 := hm2
  have hrt : rdItem f (x :: t) = rdText (readSize m t) := by unfold rdItem; rw [if_neg hr1, if_pos hr2, hm, Nat.add_sub_cancel]
  clear hm2
  have HRT := Lib.hid hrt
  have HM := Lib.hid hm
  clear hrt hm hr1 hr2

  have hs : readSize m t = (0, m, seg B (p + 1) en) := by unfold readSize; rw [if_pos h55, HT.out]
  have HS := Lib.hid hs
  clear hs

  by_cases hsh : en < (p + 1) + m
  · have hr : rdItem f (x :: t) = (22, .text [], []) := by
      rw [HRT.out, HS.out, rdText, if_neg (by simp), if_pos (by simp only; rw [seg_len _ _ _ (by have := HNB.out; omega)]; omega)]
    have HR := Lib.hid hr
    clear hr
    go_enter Try.func96, Try.ntmps96
    go_wp2_with fail
    refine bodyPost_ret (v := .tuple #[.agg #[.bool false, .slice none 0 0, .slice none 0 0], .int .i64 0, .int .i64 22]) (by simp [results, Try.results96, go_sem]) rfl ?_
    rw [HR.out]
    exact RFirstd.bad (k := 22) rfl (by decide) rfl rfl (Bel.alloc (Bel.refl w) _)

  · have hq : (p + 1) + m ≤ n := by omega
    have hone : m = 1 → ∃ y : UInt8, seg B (p + 1) ((p + 1) + m) = [y] ∧ w.cell? ⟨b, o + ((p + 1)), none⟩ = some (.int .u8 (y.toNat : Int)) := fun h1 =>
      ⟨B.getD (p + 1) 0, by rw [seg_getD B (p + 1) ((p + 1) + m) (by omega) (by have := HNB.out; omega), seg_nil _ _ _ (by omega)], HCELL.out ((p + 1)) (by have := HNB.out; omega)⟩
    obtain ⟨L, hL⟩ : ∃ L, L = seg B (p + 1) ((p + 1) + m) := ⟨_, rfl⟩
    have hLl : L.length = m := by rw [hL, seg_len _ _ _ (by have := HNB.out; omega)]; omega
    have hrd : rdItem f (x :: t) = if m = 1 ∧ (L.headD 0).toNat < 128 then (23, .text [], []) else (0, .text L, seg B ((p + 1) + m) en) := by
      rw [HRT.out, HS.out, rdText, if_neg (by simp), if_neg (by simp only; rw [seg_len _ _ _ (by have := HNB.out; omega)]; omega)]
      simp only [seg_drop, seg_take B (p + 1) en m (by omega), ← hL]
      have hh : m = 1 → (seg B (p + 1) en).headD 0 = L.headD 0 := fun h1 => by
        rw [hL, seg_cons B (p + 1) en (by omega) (by have := HNB.out; omega), seg_cons B (p + 1) ((p + 1) + m) (by omega) (by have := HNB.out; omega)]; rfl
      by_cases h1 : m = 1
      · rw [hh h1]
      · rw [if_neg (fun h => h1 h.1), if_neg (fun h => h1 h.1)]
    have hcase : (m = 1 ∧ ∃ y : UInt8, L = [y] ∧ w.cell? ⟨b, o + ((p + 1)), none⟩ = some (.int .u8 (y.toNat : Int))) ∨ ((m : Int) == 1) = false := by
      by_cases h1 : m = 1
      · obtain ⟨y, hy, hc⟩ := hone h1
        exact .inl ⟨h1, y, by rw [hL]; exact hy, hc⟩
      · exact .inr (by simp; omega)
    have HRD := Lib.hid hrd
    have HL := Lib.hid hL
    have HLL := Lib.hid hLl
    clear hrd hL hLl hone
    by_cases hbad : m = 1 ∧ (L.headD 0).toNat < 128
    · rcases hcase with ⟨h1, y, hy, hc⟩ | h1
      · have hr : rdItem f (x :: t) = (23, .text [], []) := by rw [HRD.out, if_pos hbad]
        have HR := Lib.hid hr
        have hb1 : ((m : Int) == 1) = true := by simp; omega
        have hqn : (p + 1) < n := by omega
        have hy8 : (y.toNat : Int) < 128 := by have := hbad.2; rw [hy] at this; simp at this; omega
        clear hr h1 hbad hy
        go_enter Try.func96, Try.ntmps96
        go_wp2_with fail
        refine bodyPost_ret (v := .tuple #[.agg #[.bool false, .slice none 0 0, .slice none 0 0], .int .i64 0, .int .i64 23]) (by simp [results, Try.results96, go_sem]) rfl ?_
        rw [HR.out]
        exact RFirstd.bad (k := 23) rfl (by decide) rfl rfl (Bel.alloc (Bel.refl w) _)
      · have := hbad.1; simp at h1; omega
    · have hr : rdItem f (x :: t) = (0, .text L, seg B ((p + 1) + m) en) := by rw [HRD.out, if_neg hbad]
      have HR := Lib.hid hr
      have hcase2 : (((m : Int) == 1) = true ∧ (p + 1) < n ∧ ¬ c = (p + 1) ∧ ∃ y : UInt8, w.cell? ⟨b, o + ((p + 1)), none⟩ = some (.int .u8 (y.toNat : Int)) ∧ ¬ (y.toNat : Int) < 128) ∨ (((m : Int) == 1) = false ∧ ¬ c = (p + 1)) ∨ (((m : Int) == 1) = false ∧ c = (p + 1)) := by
        rcases hcase with ⟨h1, y, hy, hc⟩ | h1
        · exact .inl ⟨by simp; omega, by omega, by omega, y, hc, fun h => hbad ⟨h1, by rw [hy]; simp; omega⟩⟩
        · by_cases hcq : c = (p + 1)
          · exact .inr (.inr ⟨h1, hcq⟩)
          · exact .inr (.inl ⟨h1, hcq⟩)
      have hargB : c = (p + 1) → m = 0 ∧ L = [] := fun hcq => by
        have h0 : m = 0 := by omega
        exact ⟨h0, List.eq_nil_of_length_eq_zero (by rw [HLL.out]; exact h0)⟩
      have hargA : ¬ c = (p + 1) → BytesAt (fun b => b < w.heap.size) w (.slice (some ⟨b, o + ((p + 1)), none⟩) m (c - ((p + 1)))) L := fun hcq => by
        have := BytesAt.seg HB.out ((p + 1)) ((p + 1) + m) (by omega) hq rfl
        rw [if_neg hcq, show (p + 1) + m - ((p + 1)) = m by omega, ← HL.out, addr_map_add] at this
        exact this
      have HARGA := Lib.hid hargA
      have HARGB := Lib.hid hargB
      have hbox := heap_alloc_new w (.cells #[.bool false, .slice none 0 0, .slice none 0 0] 65)
      have HBOX := Lib.hid hbox
      have hLb : L.length ≤ 70368744177664 := by rw [HLL.out]; omega
      have hsegl : (seg B ((p + 1) + m) en).length = en - ((p + 1) + m) := seg_len _ _ _ (by have := HNB.out; omega)
      have HSL := Lib.hid hsegl
      clear hr hbad hcase hargA hargB hbox hsegl
      rcases hcase2 with ⟨h1, hqn, hcq, y, hc, hy⟩ | ⟨h1, hcq⟩ | ⟨h1, hcq⟩
      all_goals
        go_enter Try.func96, Try.ntmps96
        go_wp2_with fail
        refine (copied_any (fun b => b < w.heap.size) _ _ L ?_ hLb).mono ?_
        · first
            | exact BytesAt.below (HARGA.out hcq) (Bel.alloc (Bel.refl w) _)
            | (obtain ⟨e1, e2⟩ := HARGB.out hcq; rw [e2, e1]; exact SliceAt.empty _ _ _ _ _ _ (by unfold maxLen; omega) (fun h => by cases h))
        rintro e w1 ⟨v4, rfl, ho4, hb4⟩
        obtain ⟨a4, c4, rfl, -, -, -⟩ := ho4.len
        have hs4 := hb4.size
        simp only [World.size_alloc] at hs4
        have hlt4 : w.heap.size < w1.heap.size := by omega
        have hb1 := (hb4.block w.heap.size (by simp)).trans HBOX.out
        have HB1 := Lib.hid hb1
        have HBL1 := Lib.hid (Below.trans (Bel.alloc (Bel.refl w) _) (hb4.mono (by simp)))
        have HAT := Lib.hid (ho4.at (F := fun b => w.heap.size + 1 ≤ b) (fun g _ hg _ => by simpa using hg) (by decide))
        obtain ⟨q0, q1, q2⟩ := cells3 hb1
        have f0 := frozen_of_row w1 w.heap.size 0 _ _ hb1
        have f1 := frozen_of_row w1 w.heap.size 1 _ _ hb1
        have f2 := frozen_of_row w1 w.heap.size 2 _ _ hb1
        obtain ⟨n4, hn4⟩ : ∃ n4, n4 = L.length := ⟨_, rfl⟩
        rw [← hn4] at HAT ⊢
        clear hb1 hb4 ho4 hs4 hn4
        go_wp2_with fail
        have hbx := box3 HB1.out (.bool false) (.slice a4 n4 c4) (.slice none 0 0)
        obtain ⟨W, hW⟩ : ∃ W, W = ((w1.setCell ⟨w.heap.size, 0, none⟩ (.bool false)).setCell ⟨w.heap.size, 1, none⟩ (.slice a4 n4 c4)).setCell ⟨w.heap.size, 2, none⟩ (.slice none 0 0) := ⟨_, rfl⟩
        rw [← hW] at hbx ⊢
        obtain ⟨r0, r1, r2⟩ := cells3 hbx.at_
        refine bodyPost_ret (v := .tuple #[.agg #[.bool false, .slice a4 n4 c4, .slice none 0 0], .int .i64 ((p : Int) + 1 + (m : Int)), .int .i64 0]) (by simp [results, Try.results96, go_sem, r0, r1, r2]) rfl ?_
        rw [HR.out]
        refine ⟨false, a4, n4, c4, none, 0, 0, (p + 1) + m, ?_, fun _ => ?_, fun h => absurd rfl h, ⟨_, _, rfl, ?_, SliceAt.nil _ _ _ _⟩, HBL1.out.trans (hbx.chg.toBelowAt (by omega) (fun k hk e => by omega))⟩
        · rfl
        · show (p + 1) + m + (seg B ((p + 1) + m) en).length = en
          rw [HSL.out]; omega
        · exact BytesAt.carry HAT.out (fun b _ hb => by show w.heap.size ≤ b; have : w.heap.size + 1 ≤ b := hb; omega) (fun b hb _ => hbx.other b (by have : w.heap.size + 1 ≤ b := hb; omega))
end Go.Proofs.Ytndkkgkcbbmnpaa
namespace Go.Proofs.Ytndkkgkcbbmnpaa
open Go.RowKit Go.Pg

set_option maxRecDepth 100000 in
set_option maxHeartbeats 2000000 in
theorem rfirst_textC (f : Nat) (w : World) (n c p en deep : Nat) (B : List UInt8) (b o : Nat) (x : UInt8) (t : List UInt8) (m : Nat)
    (HB : Hid (BytesAt (fun b => b < w.heap.size) w (.slice (some ⟨b, o, none⟩) n c) B)) (HNB : Hid (n = B.length)) (HCELL : Hid (∀ (i : Nat), i < B.length → w.cell? ⟨b, o + i, none⟩ = some (.int .u8 ((B.getD i 0).toNat : Int))))
    (hp : p < en) (hen : en ≤ n) (hn : n ≤ 70368744177664) (hd : deep + f = 8) (hnc : n ≤ c) (hcm : c ≤ 2 ^ 63 - 1) (hbw : b < w.heap.size) (hc0 : w.cell? ⟨b, o + p, none⟩ = some (.int .u8 (x.toNat : Int))) (HT : Hid (t = seg B (p + 1) en)) (hm : x.toNat = m + 128) (hm2 : x.toNat < 192) (h55 : 55 < m) (h58 : m ≤ 58) :
    Calls Try.prog 96 #[.slice (some ⟨b, o, none⟩) n c, .int .i64 p, .int .i64 en, .int .i64 deep] w (RFirstd w (f + 1) en (rdItem f (x :: t))) := by
  have hxl := x.toNat_lt
  have hmi : (x.toNat : Int) - 128 = (m : Int) := by omega
  have h128 : ¬ (x.toNat : Int) < 128 := by omega
  have h192 : ¬ (192 : Int) ≤ (x.toNat : Int) := by omega

  have hr1 : ¬ x.toNat < 128 := by omega
  have hr2 := hm2
  have hrt : rdItem f (x :: t) = rdText (readSize m t) := by unfold rdItem; rw [if_neg hr1, if_pos hr2, hm, Nat.add_sub_cancel]
  clear hm2
  have HRT := Lib.hid hrt
  have HM := Lib.hid hm
  clear hrt hm hr1 hr2

  obtain ⟨k, hk⟩ : ∃ k, k = m - 55 := ⟨_, rfl⟩
  have hkk : (m : Int) - 55 = (k : Int) := by omega
  have hk1 : 1 ≤ k := by omega
  have hk3 : k ≤ 3 := by omega
  have htl : t.length = en - (p + 1) := by rw [HT.out, seg_len _ _ _ (by have := HNB.out; omega)]
  have HTL := Lib.hid htl
  clear htl
  by_cases hks : en < p + 1 + k
  · have hr : rdItem f (x :: t) = (22, .text [], []) := by
      have hs : readSize m t = (22, 0, t) := by unfold readSize; rw [if_neg (by omega), if_neg (by omega), if_pos (by have := HTL.out; omega)]
      rw [HRT.out, hs]; unfold rdText; rw [if_pos (by simp)]
    have HR := Lib.hid hr
    have HK := Lib.hid hk
    clear hr hk
    go_enter Try.func96, Try.ntmps96
    go_wp2_with fail
    refine bodyPost_ret (v := .tuple #[.agg #[.bool false, .slice none 0 0, .slice none 0 0], .int .i64 0, .int .i64 22]) (by simp [results, Try.results96, go_sem]) rfl ?_
    rw [HR.out]
    exact RFirstd.bad (k := 22) rfl (by decide) rfl rfl (Bel.alloc (Bel.refl w) _)
  · obtain ⟨nn, hnn⟩ : ∃ nn, nn = beNum (t.take k) := ⟨_, rfl⟩
    have hrs : readSize m t = if t.headD 0 = 0 ∨ nn ≤ 55 then (23, 0, seg B (p + 1 + k) en) else (0, nn, seg B (p + 1 + k) en) := by
      unfold readSize
      rw [if_neg (by omega), if_neg (by omega), if_neg (by have := HTL.out; omega), ← hk, ← hnn]
      have : t.drop k = seg B (p + 1 + k) en := by rw [HT.out, seg_drop]
      rw [this]
    have hcell := fun (j : Nat) (hj : j < k) => HCELL.out (p + 1 + j) (by have := HNB.out; omega)
    have hstep : ∀ (j : Nat) (hj : j < k), beNum (t.take (j + 1)) = beNum (t.take j) * 256 + (B.getD (p + 1 + j) 0).toNat := fun j hj => by
      rw [List.take_succ_eq_append_getElem (by have := HTL.out; omega), beNum_snoc]
      congr 2
      have h1 : t[j]? = B[p + 1 + j]? := by rw [HT.out, seg_get _ _ _ _ (by omega)]
      rw [List.getElem?_eq_getElem (by have := HTL.out; omega)] at h1
      rw [List.getD_eq_getElem?_getD, ← h1]; rfl
    have hbd : ∀ j, j ≤ k → beNum (t.take j) < 256 ^ j := fun j hj => by
      have h1 := beNum_lt (t.take j)
      rwa [List.length_take, Nat.min_eq_left (by have := HTL.out; omega)] at h1
    have hhead : t.headD 0 = B.getD (p + 1) 0 := by
      rw [HT.out, seg_getD _ _ _ (by omega) (by have := HNB.out; omega)]; rfl
    have hc1 : w.cell? ⟨b, o + (p + 1), none⟩ = some (.int .u8 ((B.getD (p + 1) 0).toNat : Int)) := HCELL.out (p + 1) (by have := HNB.out; omega)
    obtain ⟨z, hz⟩ : ∃ z, z = B.getD (p + 1) 0 := ⟨_, rfl⟩
    rw [← hz] at hhead hc1
    rw [hhead] at hrs
    have HK := Lib.hid hk
    have HNN := Lib.hid hnn
    have HRS := Lib.hid hrs
    have HC := Lib.hid hcell
    have HST := Lib.hid hstep
    have HBD := Lib.hid hbd
    clear hk hnn hrs hcell hstep hbd hhead hz
    go_enter Try.func96, Try.ntmps96
    go_wp2_with fail
    go_loop [13, 15] (fun q i => ∃ j v : Nat, j ≤ k ∧ i = .int .i64 j ∧ q = .int .i64 v ∧ v ≤ 16777215 ∧ Hid (v = beNum (t.take j))) (fun _ i => k - (intOf i).toNat)
    case atStart => exact ⟨0, 0, Nat.zero_le _, rfl, rfl, by omega, by show _ = _; simp [beNum]⟩
    case round =>
      obtain ⟨j, v, hj, rfl, rfl, hv, HV⟩ := hrel
      by_cases hlt : j < k
      · have hc2 := HC.out j hlt
        have hs2 := HST.out j hlt
        have hb2 := HBD.out j (by omega)
        obtain ⟨y, hy⟩ : ∃ y, y = B.getD (p + 1 + j) 0 := ⟨_, rfl⟩
        rw [← hy] at hc2 hs2
        rw [← HV.out] at hs2 hb2
        have hyl := y.toNat_lt
        have hvy : v ≤ 65535 := by
          have h3 : 256 ^ j ≤ 256 ^ 2 := Nat.pow_le_pow_right (by omega) (by omega)
          omega
        have HS2 := Lib.hid hs2
        have hjn : p + 1 + j < n := by omega
        clear hs2 hb2 hy
        go_wp2
        go_round
        case rel => exact ⟨j + 1, v * 256 + y.toNat, by omega, num_eq (by omega), num_eq (by omega), by omega, by show _ = _; rw [HS2.out]⟩
        case measure => simp [intOf]; omega
      · obtain rfl : j = k := by omega
        obtain rfl : v = nn := by rw [HV.out, HNN.out]
        have hpn : p + 1 < n := by omega
        by_cases hz0 : z.toNat = 0 ∨ v ≤ 55
        · have hr : rdItem f (x :: t) = (23, .text [], []) := by
            have hs : readSize m t = (23, 0, seg B (p + 1 + j) en) := by
              rw [HRS.out, if_pos]
              rcases hz0 with h | h
              · exact .inl (UInt8.toNat_inj.1 (by simpa using h))
              · exact .inr h
            rw [HRT.out, hs]; unfold rdText; rw [if_pos (by simp)]
          have HR := Lib.hid hr
          have hcase : ((z.toNat : Int) == 0) = true ∨ (((z.toNat : Int) == 0) = false ∧ (v : Int) < 56) := by
            by_cases h : z.toNat = 0
            · exact .inl (by simp; omega)
            · exact .inr ⟨by simp; omega, by omega⟩
          clear hr hz0
          rcases hcase with h | ⟨h, h2⟩
          all_goals
            go_wp2_with fail
            refine bodyPost_ret (v := .tuple #[.agg #[.bool false, .slice none 0 0, .slice none 0 0], .int .i64 0, .int .i64 23]) (by simp [results, Try.results96, go_sem]) rfl ?_
            rw [HR.out]
            exact RFirstd.bad (k := 23) rfl (by decide) rfl rfl (Bel.alloc (Bel.refl w) _)
        · have hs : readSize m t = (0, v, seg B (p + 1 + j) en) := by
            rw [HRS.out, if_neg]
            rintro (h | h)
            · exact hz0 (.inl (by rw [h]; rfl))
            · exact hz0 (.inr h)
          have HS := Lib.hid hs
          have hzb : ((z.toNat : Int) == 0) = false := by simp; omega
          have hv56 : ¬ (v : Int) < 56 := by omega
          clear hs hz0 HC HST HBD
          by_cases hsh : en < (p + 1 + j) + v
          · have hr : rdItem f (x :: t) = (22, .text [], []) := by
              rw [HRT.out, HS.out, rdText, if_neg (by simp), if_pos (by simp only; rw [seg_len _ _ _ (by have := HNB.out; omega)]; omega)]
            have HR := Lib.hid hr
            clear hr
            go_wp2_with fail
            refine bodyPost_ret (v := .tuple #[.agg #[.bool false, .slice none 0 0, .slice none 0 0], .int .i64 0, .int .i64 22]) (by simp [results, Try.results96, go_sem]) rfl ?_
            rw [HR.out]
            exact RFirstd.bad (k := 22) rfl (by decide) rfl rfl (Bel.alloc (Bel.refl w) _)

          · have hq : (p + 1 + j) + v ≤ n := by omega
            have hone : v = 1 → ∃ y : UInt8, seg B (p + 1 + j) ((p + 1 + j) + v) = [y] ∧ w.cell? ⟨b, o + ((p + 1 + j)), none⟩ = some (.int .u8 (y.toNat : Int)) := fun h1 =>
              ⟨B.getD (p + 1 + j) 0, by rw [seg_getD B (p + 1 + j) ((p + 1 + j) + v) (by omega) (by have := HNB.out; omega), seg_nil _ _ _ (by omega)], HCELL.out ((p + 1 + j)) (by have := HNB.out; omega)⟩
            obtain ⟨L, hL⟩ : ∃ L, L = seg B (p + 1 + j) ((p + 1 + j) + v) := ⟨_, rfl⟩
            have hLl : L.length = v := by rw [hL, seg_len _ _ _ (by have := HNB.out; omega)]; omega
            have hrd : rdItem f (x :: t) = if v = 1 ∧ (L.headD 0).toNat < 128 then (23, .text [], []) else (0, .text L, seg B ((p + 1 + j) + v) en) := by
              rw [HRT.out, HS.out, rdText, if_neg (by simp), if_neg (by simp only; rw [seg_len _ _ _ (by have := HNB.out; omega)]; omega)]
              simp only [seg_drop, seg_take B (p + 1 + j) en v (by omega), ← hL]
              have hh : v = 1 → (seg B (p + 1 + j) en).headD 0 = L.headD 0 := fun h1 => by
                rw [hL, seg_cons B (p + 1 + j) en (by omega) (by have := HNB.out; omega), seg_cons B (p + 1 + j) ((p + 1 + j) + v) (by omega) (by have := HNB.out; omega)]; rfl
              by_cases h1 : v = 1
              · rw [hh h1]
              · rw [if_neg (fun h => h1 h.1), if_neg (fun h => h1 h.1)]
            have hcase : (v = 1 ∧ ∃ y : UInt8, L = [y] ∧ w.cell? ⟨b, o + ((p + 1 + j)), none⟩ = some (.int .u8 (y.toNat : Int))) ∨ ((v : Int) == 1) = false := by
              by_cases h1 : v = 1
              · obtain ⟨y, hy, hc⟩ := hone h1
                exact .inl ⟨h1, y, by rw [hL]; exact hy, hc⟩
              · exact .inr (by simp; omega)
            have HRD := Lib.hid hrd
            have HL := Lib.hid hL
            have HLL := Lib.hid hLl
            clear hrd hL hLl hone
            by_cases hbad : v = 1 ∧ (L.headD 0).toNat < 128
            · rcases hcase with ⟨h1, y, hy, hc⟩ | h1
              · have hr : rdItem f (x :: t) = (23, .text [], []) := by rw [HRD.out, if_pos hbad]
                have HR := Lib.hid hr
                have hb1 : ((v : Int) == 1) = true := by simp; omega
                have hqn : (p + 1 + j) < n := by omega
                have hy8 : (y.toNat : Int) < 128 := by have := hbad.2; rw [hy] at this; simp at this; omega
                clear hr h1 hbad hy
                go_wp2_with fail
                refine bodyPost_ret (v := .tuple #[.agg #[.bool false, .slice none 0 0, .slice none 0 0], .int .i64 0, .int .i64 23]) (by simp [results, Try.results96, go_sem]) rfl ?_
                rw [HR.out]
                exact RFirstd.bad (k := 23) rfl (by decide) rfl rfl (Bel.alloc (Bel.refl w) _)
              · have := hbad.1; simp at h1; omega
            · have hr : rdItem f (x :: t) = (0, .text L, seg B ((p + 1 + j) + v) en) := by rw [HRD.out, if_neg hbad]
              have HR := Lib.hid hr
              have hcase2 : (((v : Int) == 1) = true ∧ (p + 1 + j) < n ∧ ¬ c = (p + 1 + j) ∧ ∃ y : UInt8, w.cell? ⟨b, o + ((p + 1 + j)), none⟩ = some (.int .u8 (y.toNat : Int)) ∧ ¬ (y.toNat : Int) < 128) ∨ (((v : Int) == 1) = false ∧ ¬ c = (p + 1 + j)) ∨ (((v : Int) == 1) = false ∧ c = (p + 1 + j)) := by
                rcases hcase with ⟨h1, y, hy, hc⟩ | h1
                · exact .inl ⟨by simp; omega, by omega, by omega, y, hc, fun h => hbad ⟨h1, by rw [hy]; simp; omega⟩⟩
                · by_cases hcq : c = (p + 1 + j)
                  · exact .inr (.inr ⟨h1, hcq⟩)
                  · exact .inr (.inl ⟨h1, hcq⟩)
              have hargB : c = (p + 1 + j) → v = 0 ∧ L = [] := fun hcq => by
                have h0 : v = 0 := by omega
                exact ⟨h0, List.eq_nil_of_length_eq_zero (by rw [HLL.out]; exact h0)⟩
              have hargA : ¬ c = (p + 1 + j) → BytesAt (fun b => b < w.heap.size) w (.slice (some ⟨b, o + ((p + 1 + j)), none⟩) v (c - ((p + 1 + j)))) L := fun hcq => by
                have := BytesAt.seg HB.out ((p + 1 + j)) ((p + 1 + j) + v) (by omega) hq rfl
                rw [if_neg hcq, show (p + 1 + j) + v - ((p + 1 + j)) = v by omega, ← HL.out, addr_map_add] at this
                exact this
              have HARGA := Lib.hid hargA
              have HARGB := Lib.hid hargB
              have hbox := heap_alloc_new w (.cells #[.bool false, .slice none 0 0, .slice none 0 0] 65)
              have HBOX := Lib.hid hbox
              have hLb : L.length ≤ 70368744177664 := by rw [HLL.out]; omega
              have hsegl : (seg B ((p + 1 + j) + v) en).length = en - ((p + 1 + j) + v) := seg_len _ _ _ (by have := HNB.out; omega)
              have HSL := Lib.hid hsegl
              clear hr hbad hcase hargA hargB hbox hsegl
              have hcq : ¬ c = (p + 1 + j) := by omega
              have h1 : ((v : Int) == 1) = false := by simp; omega
              clear hcase2
              all_goals
                go_wp2_with fail
                refine (copied_any (fun b => b < w.heap.size) _ _ L ?_ hLb).mono ?_
                · first
                    | exact BytesAt.below (HARGA.out hcq) (Bel.alloc (Bel.refl w) _)
                    | (obtain ⟨e1, e2⟩ := HARGB.out hcq; rw [e2, e1]; exact SliceAt.empty _ _ _ _ _ _ (by unfold maxLen; omega) (fun h => by cases h))
                rintro e w1 ⟨v4, rfl, ho4, hb4⟩
                obtain ⟨a4, c4, rfl, -, -, -⟩ := ho4.len
                have hs4 := hb4.size
                simp only [World.size_alloc] at hs4
                have hlt4 : w.heap.size < w1.heap.size := by omega
                have hb1 := (hb4.block w.heap.size (by simp)).trans HBOX.out
                have HB1 := Lib.hid hb1
                have HBL1 := Lib.hid (Below.trans (Bel.alloc (Bel.refl w) _) (hb4.mono (by simp)))
                have HAT := Lib.hid (ho4.at (F := fun b => w.heap.size + 1 ≤ b) (fun g _ hg _ => by simpa using hg) (by decide))
                obtain ⟨q0, q1, q2⟩ := cells3 hb1
                have f0 := frozen_of_row w1 w.heap.size 0 _ _ hb1
                have f1 := frozen_of_row w1 w.heap.size 1 _ _ hb1
                have f2 := frozen_of_row w1 w.heap.size 2 _ _ hb1
                obtain ⟨n4, hn4⟩ : ∃ n4, n4 = L.length := ⟨_, rfl⟩
                rw [← hn4] at HAT ⊢
                clear hb1 hb4 ho4 hs4 hn4
                go_wp2_with fail
                have hbx := box3 HB1.out (.bool false) (.slice a4 n4 c4) (.slice none 0 0)
                obtain ⟨W, hW⟩ : ∃ W, W = ((w1.setCell ⟨w.heap.size, 0, none⟩ (.bool false)).setCell ⟨w.heap.size, 1, none⟩ (.slice a4 n4 c4)).setCell ⟨w.heap.size, 2, none⟩ (.slice none 0 0) := ⟨_, rfl⟩
                rw [← hW] at hbx ⊢
                obtain ⟨r0, r1, r2⟩ := cells3 hbx.at_
                refine bodyPost_ret (v := .tuple #[.agg #[.bool false, .slice a4 n4 c4, .slice none 0 0], .int .i64 ((p : Int) + 1 + (j : Int) + (v : Int)), .int .i64 0]) (by simp [results, Try.results96, go_sem, r0, r1, r2]) rfl ?_
                rw [HR.out]
                refine ⟨false, a4, n4, c4, none, 0, 0, (p + 1 + j) + v, ?_, fun _ => ?_, fun h => absurd rfl h, ⟨_, _, rfl, ?_, SliceAt.nil _ _ _ _⟩, HBL1.out.trans (hbx.chg.toBelowAt (by omega) (fun k hk e => by omega))⟩
                · rfl
                · show (p + 1 + j) + v + (seg B ((p + 1 + j) + v) en).length = en
                  rw [HSL.out]; omega
                · exact BytesAt.carry HAT.out (fun b _ hb => by show w.heap.size ≤ b; have : w.heap.size + 1 ≤ b := hb; omega) (fun b hb _ => hbx.other b (by have : w.heap.size + 1 ≤ b := hb; omega))
end Go.Proofs.Ytndkkgkcbbmnpaa
namespace Go.Proofs.Ytndkkgkcbbmnpaa
open Go.RowKit Go.Pg

set_option maxRecDepth 100000 in
set_option maxHeartbeats 2000000 in
theorem rfirst_listA (f : Nat) (w : World) (n c p en deep : Nat) (B : List UInt8) (b o : Nat) (x : UInt8) (t : List UInt8) (m : Nat)
    (HB : Hid (BytesAt (fun b => b < w.heap.size) w (.slice (some ⟨b, o, none⟩) n c) B)) (HNB : Hid (n = B.length)) (HCELL : Hid (∀ (i : Nat), i < B.length → w.cell? ⟨b, o + i, none⟩ = some (.int .u8 ((B.getD i 0).toNat : Int))))
    (hp : p < en) (hen : en ≤ n) (hn : n ≤ 70368744177664) (hd : deep + f = 8) (hnc : n ≤ c) (hcm : c ≤ 2 ^ 63 - 1) (hbw : b < w.heap.size) (hc0 : w.cell? ⟨b, o + p, none⟩ = some (.int .u8 (x.toNat : Int))) (HT : Hid (t = seg B (p + 1) en)) (f' : Nat) (hf : f = f' + 1) (hm : x.toNat = m + 192) (HI : Hid (RItemsC f')) (h55 : m ≤ 55) :
    Calls Try.prog 96 #[.slice (some ⟨b, o, none⟩) n c, .int .i64 p, .int .i64 en, .int .i64 deep] w (RFirstd w (f + 1) en (rdItem f (x :: t))) := by
  have hxl := x.toNat_lt
  subst hf

  have hmi : (x.toNat : Int) - 192 = (m : Int) := by omega
  have h128 : ¬ (x.toNat : Int) < 128 := by omega
  have h192 : (192 : Int) ≤ (x.toNat : Int) := by omega
  have hd8 : ¬ (8 : Int) ≤ (deep : Int) := by omega
  have hr1 : ¬ x.toNat < 128 := by omega
  have hr2 : ¬ x.toNat < 192 := by omega
  have hrt : rdItem (f' + 1) (x :: t) = rdList (rdItem f') (readSize m t) := by rw [rdItem, if_neg hr1, if_neg hr2, hm, Nat.add_sub_cancel]

  have HRT := Lib.hid hrt
  have HM := Lib.hid hm
  clear hrt hm hr1 hr2

  have hs : readSize m t = (0, m, seg B (p + 1) en) := by unfold readSize; rw [if_pos h55, HT.out]
  have HS := Lib.hid hs
  clear hs

  by_cases hsh : en < (p + 1) + m
  · have hr : rdItem (f' + 1) (x :: t) = (22, .text [], []) := by
      rw [HRT.out, HS.out, rdList, if_neg (by simp), if_pos (by simp only; rw [seg_len _ _ _ (by have := HNB.out; omega)]; omega)]
    have HR := Lib.hid hr
    clear hr
    go_enter Try.func96, Try.ntmps96
    go_wp2_with fail
    refine bodyPost_ret (v := .tuple #[.agg #[.bool false, .slice none 0 0, .slice none 0 0], .int .i64 0, .int .i64 22]) (by simp [results, Try.results96, go_sem]) rfl ?_
    rw [HR.out]
    exact RFirstd.bad (k := 22) rfl (by decide) rfl rfl (Bel.alloc (Bel.refl w) _)

  · have hq : (p + 1) + m ≤ n := by omega
    obtain ⟨L, hL⟩ : ∃ L, L = seg B (p + 1) ((p + 1) + m) := ⟨_, rfl⟩
    obtain ⟨e2, l, hal⟩ : ∃ e2 l, rdAll (rdItem f') m L = (e2, l) := ⟨_, _, rfl⟩
    obtain ⟨r, hrr⟩ : ∃ r : Nat × It × List UInt8, r = if e2 ≠ 0 then (e2, .text [], []) else (0, .list l, seg B ((p + 1) + m) en) := ⟨_, rfl⟩
    have HRR := Lib.hid hrr
    have hr : rdItem (f' + 1) (x :: t) = r := by
      rw [hrr]
      rw [HRT.out, HS.out, rdList, if_neg (by simp), if_neg (by simp only; rw [seg_len _ _ _ (by have := HNB.out; omega)]; omega)]
      simp only [seg_drop, seg_take B (p + 1) en m (by omega), ← hL, hal]
    have HR := Lib.hid hr
    have hcall := HI.out (fun b => b < w.heap.size) (w.alloc (.cells #[.bool false, .slice none 0 0, .slice none 0 0] 65)) (some ⟨b, o, none⟩) ((p : Int) + 1) ((p : Int) + 1 + (m : Int)) ((deep : Int) + 1) n c (p + 1) ((p + 1) + m) (deep + 1) B (by omega) (by omega) (by omega) (BytesAt.below HB.out (Bel.alloc (Bel.refl w) _)) (by omega) (by omega) (by omega) hn (by omega)
    rw [show (p + 1) + m - (p + 1) = m by omega, ← hL, hal] at hcall
    have HC := Lib.hid hcall
    have hbox := heap_alloc_new w (.cells #[.bool false, .slice none 0 0, .slice none 0 0] 65)
    have HBOX := Lib.hid hbox
    have hsegl : (seg B ((p + 1) + m) en).length = en - ((p + 1) + m) := seg_len _ _ _ (by have := HNB.out; omega)
    have HSL := Lib.hid hsegl
    clear hr hL hal hcall hbox hsegl hrr
    go_enter Try.func96, Try.ntmps96
    go_wp2_with fail
    refine HC.out.mono ?_
    rintro e5 w1 ⟨l5, i1, y1, z1, i3, y3, z3, mm, rfl, k1, k2, k3, hb4⟩
    have hs4 := hb4.size
    simp only [World.size_alloc] at hs4
    have hlt4 : w.heap.size < w1.heap.size := by omega
    have hb1 := (hb4.block w.heap.size (by simp)).trans HBOX.out
    have HB1 := Lib.hid hb1
    have HBL1 := Lib.hid (Below.trans (Bel.alloc (Bel.refl w) _) (hb4.mono (by simp)))
    have K1 := Lib.hid k1
    have K2 := Lib.hid k2
    have K3 := Lib.hid k3
    obtain ⟨q0, q1, q2⟩ := cells3 hb1
    have f0 := frozen_of_row w1 w.heap.size 0 _ _ hb1
    have f1 := frozen_of_row w1 w.heap.size 1 _ _ hb1
    have f2 := frozen_of_row w1 w.heap.size 2 _ _ hb1
    clear hb1 hb4 hs4 k1 k2 k3
    go_wp2_with fail
    have hbx := box3 HB1.out (.bool l5) (.slice i1 y1 z1) (.slice i3 y3 z3)
    obtain ⟨W, hW⟩ : ∃ W, W = ((w1.setCell ⟨w.heap.size, 0, none⟩ (.bool l5)).setCell ⟨w.heap.size, 1, none⟩ (.slice i1 y1 z1)).setCell ⟨w.heap.size, 2, none⟩ (.slice i3 y3 z3) := ⟨_, rfl⟩
    rw [← hW] at hbx ⊢
    obtain ⟨r0, r1, r2⟩ := cells3 hbx.at_
    refine bodyPost_ret (v := .tuple #[.agg #[.bool l5, .slice i1 y1 z1, .slice i3 y3 z3], .int .i64 (mm : Int), .int .i64 (e2 : Int)]) (by simp [results, Try.results96, go_sem, r0, r1, r2]) rfl ?_
    have hfar : ∀ x, ItemAt (fresh (w.alloc (.cells #[.bool false, .slice none 0 0, .slice none 0 0] 65))) w1 (f' + 2) [.bool l5, .slice i1 y1 z1, .slice i3 y3 z3] x → ItemAt (fresh w) W (f' + 2) [.bool l5, .slice i1 y1 z1, .slice i3 y3 z3] x := fun x hx => by
      refine hx.carry (fun b _ hb => Nat.le_trans (by simp) hb) (fun b hb _ => hbx.other b ?_)
      have hb' : w.heap.size + 1 ≤ b := Nat.le_trans (by simp) hb
      omega
    have hbel := HBL1.out.trans (hbx.chg.toBelowAt (by omega) (fun k hk e => by omega))
    by_cases he : e2 = 0
    · subst he
      have K3' := K3.out
      rw [if_pos rfl] at K3'
      rw [HR.out, HRR.out, if_neg (by simp)]
      refine ⟨l5, i1, y1, z1, i3, y3, z3, mm, rfl, fun _ => ?_, fun h => absurd rfl h, hfar _ K3', hbel⟩
      have := K1.out (by trivial)
      show mm + (seg B ((p + 1) + m) en).length = en
      rw [HSL.out]; omega
    · have K3' := K3.out
      rw [if_neg he] at K3'
      rw [HR.out, HRR.out, if_pos he]
      exact ⟨l5, i1, y1, z1, i3, y3, z3, mm, rfl, fun h => absurd h he, fun _ => K2.out he, hfar _ K3', hbel⟩
end Go.Proofs.Ytndkkgkcbbmnpaa
namespace Go.Proofs.Ytndkkgkcbbmnpaa
open Go.RowKit Go.Pg

set_option maxRecDepth 100000 in
set_option maxHeartbeats 2000000 in
theorem rfirst_listC (f : Nat) (w : World) (n c p en deep : Nat) (B : List UInt8) (b o : Nat) (x : UInt8) (t : List UInt8) (m : Nat)
    (HB : Hid (BytesAt (fun b => b < w.heap.size) w (.slice (some ⟨b, o, none⟩) n c) B)) (HNB : Hid (n = B.length)) (HCELL : Hid (∀ (i : Nat), i < B.length → w.cell? ⟨b, o + i, none⟩ = some (.int .u8 ((B.getD i 0).toNat : Int))))
    (hp : p < en) (hen : en ≤ n) (hn : n ≤ 70368744177664) (hd : deep + f = 8) (hnc : n ≤ c) (hcm : c ≤ 2 ^ 63 - 1) (hbw : b < w.heap.size) (hc0 : w.cell? ⟨b, o + p, none⟩ = some (.int .u8 (x.toNat : Int))) (HT : Hid (t = seg B (p + 1) en)) (f' : Nat) (hf : f = f' + 1) (hm : x.toNat = m + 192) (HI : Hid (RItemsC f')) (h55 : 55 < m) (h58 : m ≤ 58) :
    Calls Try.prog 96 #[.slice (some ⟨b, o, none⟩) n c, .int .i64 p, .int .i64 en, .int .i64 deep] w (RFirstd w (f + 1) en (rdItem f (x :: t))) := by
  have hxl := x.toNat_lt
  subst hf

  have hmi : (x.toNat : Int) - 192 = (m : Int) := by omega
  have h128 : ¬ (x.toNat : Int) < 128 := by omega
  have h192 : (192 : Int) ≤ (x.toNat : Int) := by omega
  have hd8 : ¬ (8 : Int) ≤ (deep : Int) := by omega
  have hr1 : ¬ x.toNat < 128 := by omega
  have hr2 : ¬ x.toNat < 192 := by omega
  have hrt : rdItem (f' + 1) (x :: t) = rdList (rdItem f') (readSize m t) := by rw [rdItem, if_neg hr1, if_neg hr2, hm, Nat.add_sub_cancel]

  have HRT := Lib.hid hrt
  have HM := Lib.hid hm
  clear hrt hm hr1 hr2

  obtain ⟨k, hk⟩ : ∃ k, k = m - 55 := ⟨_, rfl⟩
  have hkk : (m : Int) - 55 = (k : Int) := by omega
  have hk1 : 1 ≤ k := by omega
  have hk3 : k ≤ 3 := by omega
  have htl : t.length = en - (p + 1) := by rw [HT.out, seg_len _ _ _ (by have := HNB.out; omega)]
  have HTL := Lib.hid htl
  clear htl
  by_cases hks : en < p + 1 + k
  · have hr : rdItem (f' + 1) (x :: t) = (22, .text [], []) := by
      have hs : readSize m t = (22, 0, t) := by unfold readSize; rw [if_neg (by omega), if_neg (by omega), if_pos (by have := HTL.out; omega)]
      rw [HRT.out, hs]; unfold rdList; rw [if_pos (by simp)]
    have HR := Lib.hid hr
    have HK := Lib.hid hk
    clear hr hk
    go_enter Try.func96, Try.ntmps96
    go_wp2_with fail
    refine bodyPost_ret (v := .tuple #[.agg #[.bool false, .slice none 0 0, .slice none 0 0], .int .i64 0, .int .i64 22]) (by simp [results, Try.results96, go_sem]) rfl ?_
    rw [HR.out]
    exact RFirstd.bad (k := 22) rfl (by decide) rfl rfl (Bel.alloc (Bel.refl w) _)
  · obtain ⟨nn, hnn⟩ : ∃ nn, nn = beNum (t.take k) := ⟨_, rfl⟩
    have hrs : readSize m t = if t.headD 0 = 0 ∨ nn ≤ 55 then (23, 0, seg B (p + 1 + k) en) else (0, nn, seg B (p + 1 + k) en) := by
      unfold readSize
      rw [if_neg (by omega), if_neg (by omega), if_neg (by have := HTL.out; omega), ← hk, ← hnn]
      have : t.drop k = seg B (p + 1 + k) en := by rw [HT.out, seg_drop]
      rw [this]
    have hcell := fun (j : Nat) (hj : j < k) => HCELL.out (p + 1 + j) (by have := HNB.out; omega)
    have hstep : ∀ (j : Nat) (hj : j < k), beNum (t.take (j + 1)) = beNum (t.take j) * 256 + (B.getD (p + 1 + j) 0).toNat := fun j hj => by
      rw [List.take_succ_eq_append_getElem (by have := HTL.out; omega), beNum_snoc]
      congr 2
      have h1 : t[j]? = B[p + 1 + j]? := by rw [HT.out, seg_get _ _ _ _ (by omega)]
      rw [List.getElem?_eq_getElem (by have := HTL.out; omega)] at h1
      rw [List.getD_eq_getElem?_getD, ← h1]; rfl
    have hbd : ∀ j, j ≤ k → beNum (t.take j) < 256 ^ j := fun j hj => by
      have h1 := beNum_lt (t.take j)
      rwa [List.length_take, Nat.min_eq_left (by have := HTL.out; omega)] at h1
    have hhead : t.headD 0 = B.getD (p + 1) 0 := by
      rw [HT.out, seg_getD _ _ _ (by omega) (by have := HNB.out; omega)]; rfl
    have hc1 : w.cell? ⟨b, o + (p + 1), none⟩ = some (.int .u8 ((B.getD (p + 1) 0).toNat : Int)) := HCELL.out (p + 1) (by have := HNB.out; omega)
    obtain ⟨z, hz⟩ : ∃ z, z = B.getD (p + 1) 0 := ⟨_, rfl⟩
    rw [← hz] at hhead hc1
    rw [hhead] at hrs
    have HK := Lib.hid hk
    have HNN := Lib.hid hnn
    have HRS := Lib.hid hrs
    have HC := Lib.hid hcell
    have HST := Lib.hid hstep
    have HBD := Lib.hid hbd
    clear hk hnn hrs hcell hstep hbd hhead hz
    go_enter Try.func96, Try.ntmps96
    go_wp2_with fail
    go_loop [13, 15] (fun q i => ∃ j v : Nat, j ≤ k ∧ i = .int .i64 j ∧ q = .int .i64 v ∧ v ≤ 16777215 ∧ Hid (v = beNum (t.take j))) (fun _ i => k - (intOf i).toNat)
    case atStart => exact ⟨0, 0, Nat.zero_le _, rfl, rfl, by omega, by show _ = _; simp [beNum]⟩
    case round =>
      obtain ⟨j, v, hj, rfl, rfl, hv, HV⟩ := hrel
      by_cases hlt : j < k
      · have hc2 := HC.out j hlt
        have hs2 := HST.out j hlt
        have hb2 := HBD.out j (by omega)
        obtain ⟨y, hy⟩ : ∃ y, y = B.getD (p + 1 + j) 0 := ⟨_, rfl⟩
        rw [← hy] at hc2 hs2
        rw [← HV.out] at hs2 hb2
        have hyl := y.toNat_lt
        have hvy : v ≤ 65535 := by
          have h3 : 256 ^ j ≤ 256 ^ 2 := Nat.pow_le_pow_right (by omega) (by omega)
          omega
        have HS2 := Lib.hid hs2
        have hjn : p + 1 + j < n := by omega
        clear hs2 hb2 hy
        go_wp2
        go_round
        case rel => exact ⟨j + 1, v * 256 + y.toNat, by omega, num_eq (by omega), num_eq (by omega), by omega, by show _ = _; rw [HS2.out]⟩
        case measure => simp [intOf]; omega
      · obtain rfl : j = k := by omega
        obtain rfl : v = nn := by rw [HV.out, HNN.out]
        have hpn : p + 1 < n := by omega
        by_cases hz0 : z.toNat = 0 ∨ v ≤ 55
        · have hr : rdItem (f' + 1) (x :: t) = (23, .text [], []) := by
            have hs : readSize m t = (23, 0, seg B (p + 1 + j) en) := by
              rw [HRS.out, if_pos]
              rcases hz0 with h | h
              · exact .inl (UInt8.toNat_inj.1 (by simpa using h))
              · exact .inr h
            rw [HRT.out, hs]; unfold rdList; rw [if_pos (by simp)]
          have HR := Lib.hid hr
          have hcase : ((z.toNat : Int) == 0) = true ∨ (((z.toNat : Int) == 0) = false ∧ (v : Int) < 56) := by
            by_cases h : z.toNat = 0
            · exact .inl (by simp; omega)
            · exact .inr ⟨by simp; omega, by omega⟩
          clear hr hz0
          rcases hcase with h | ⟨h, h2⟩
          all_goals
            go_wp2_with fail
            refine bodyPost_ret (v := .tuple #[.agg #[.bool false, .slice none 0 0, .slice none 0 0], .int .i64 0, .int .i64 23]) (by simp [results, Try.results96, go_sem]) rfl ?_
            rw [HR.out]
            exact RFirstd.bad (k := 23) rfl (by decide) rfl rfl (Bel.alloc (Bel.refl w) _)
        · have hs : readSize m t = (0, v, seg B (p + 1 + j) en) := by
            rw [HRS.out, if_neg]
            rintro (h | h)
            · exact hz0 (.inl (by rw [h]; rfl))
            · exact hz0 (.inr h)
          have HS := Lib.hid hs
          have hzb : ((z.toNat : Int) == 0) = false := by simp; omega
          have hv56 : ¬ (v : Int) < 56 := by omega
          clear hs hz0 HC HST HBD
          by_cases hsh : en < (p + 1 + j) + v
          · have hr : rdItem (f' + 1) (x :: t) = (22, .text [], []) := by
              rw [HRT.out, HS.out, rdList, if_neg (by simp), if_pos (by simp only; rw [seg_len _ _ _ (by have := HNB.out; omega)]; omega)]
            have HR := Lib.hid hr
            clear hr
            go_wp2_with fail
            refine bodyPost_ret (v := .tuple #[.agg #[.bool false, .slice none 0 0, .slice none 0 0], .int .i64 0, .int .i64 22]) (by simp [results, Try.results96, go_sem]) rfl ?_
            rw [HR.out]
            exact RFirstd.bad (k := 22) rfl (by decide) rfl rfl (Bel.alloc (Bel.refl w) _)

          · have hq : (p + 1 + j) + v ≤ n := by omega
            obtain ⟨L, hL⟩ : ∃ L, L = seg B (p + 1 + j) ((p + 1 + j) + v) := ⟨_, rfl⟩
            obtain ⟨e2, l, hal⟩ : ∃ e2 l, rdAll (rdItem f') v L = (e2, l) := ⟨_, _, rfl⟩
            obtain ⟨r, hrr⟩ : ∃ r : Nat × It × List UInt8, r = if e2 ≠ 0 then (e2, .text [], []) else (0, .list l, seg B ((p + 1 + j) + v) en) := ⟨_, rfl⟩
            have HRR := Lib.hid hrr
            have hr : rdItem (f' + 1) (x :: t) = r := by
              rw [hrr]
              rw [HRT.out, HS.out, rdList, if_neg (by simp), if_neg (by simp only; rw [seg_len _ _ _ (by have := HNB.out; omega)]; omega)]
              simp only [seg_drop, seg_take B (p + 1 + j) en v (by omega), ← hL, hal]
            have HR := Lib.hid hr
            have hcall := HI.out (fun b => b < w.heap.size) (w.alloc (.cells #[.bool false, .slice none 0 0, .slice none 0 0] 65)) (some ⟨b, o, none⟩) ((p : Int) + 1 + (j : Int)) ((p : Int) + 1 + (j : Int) + (v : Int)) ((deep : Int) + 1) n c (p + 1 + j) ((p + 1 + j) + v) (deep + 1) B (by omega) (by omega) (by omega) (BytesAt.below HB.out (Bel.alloc (Bel.refl w) _)) (by omega) (by omega) (by omega) hn (by omega)
            rw [show (p + 1 + j) + v - (p + 1 + j) = v by omega, ← hL, hal] at hcall
            have HC := Lib.hid hcall
            have hbox := heap_alloc_new w (.cells #[.bool false, .slice none 0 0, .slice none 0 0] 65)
            have HBOX := Lib.hid hbox
            have hsegl : (seg B ((p + 1 + j) + v) en).length = en - ((p + 1 + j) + v) := seg_len _ _ _ (by have := HNB.out; omega)
            have HSL := Lib.hid hsegl
            clear hr hL hal hcall hbox hsegl hrr
            go_wp2_with fail
            refine HC.out.mono ?_
            rintro e5 w1 ⟨l5, i1, y1, z1, i3, y3, z3, mm, rfl, k1, k2, k3, hb4⟩
            have hs4 := hb4.size
            simp only [World.size_alloc] at hs4
            have hlt4 : w.heap.size < w1.heap.size := by omega
            have hb1 := (hb4.block w.heap.size (by simp)).trans HBOX.out
            have HB1 := Lib.hid hb1
            have HBL1 := Lib.hid (Below.trans (Bel.alloc (Bel.refl w) _) (hb4.mono (by simp)))
            have K1 := Lib.hid k1
            have K2 := Lib.hid k2
            have K3 := Lib.hid k3
            obtain ⟨q0, q1, q2⟩ := cells3 hb1
            have f0 := frozen_of_row w1 w.heap.size 0 _ _ hb1
            have f1 := frozen_of_row w1 w.heap.size 1 _ _ hb1
            have f2 := frozen_of_row w1 w.heap.size 2 _ _ hb1
            clear hb1 hb4 hs4 k1 k2 k3
            go_wp2_with fail
            have hbx := box3 HB1.out (.bool l5) (.slice i1 y1 z1) (.slice i3 y3 z3)
            obtain ⟨W, hW⟩ : ∃ W, W = ((w1.setCell ⟨w.heap.size, 0, none⟩ (.bool l5)).setCell ⟨w.heap.size, 1, none⟩ (.slice i1 y1 z1)).setCell ⟨w.heap.size, 2, none⟩ (.slice i3 y3 z3) := ⟨_, rfl⟩
            rw [← hW] at hbx ⊢
            obtain ⟨r0, r1, r2⟩ := cells3 hbx.at_
            refine bodyPost_ret (v := .tuple #[.agg #[.bool l5, .slice i1 y1 z1, .slice i3 y3 z3], .int .i64 (mm : Int), .int .i64 (e2 : Int)]) (by simp [results, Try.results96, go_sem, r0, r1, r2]) rfl ?_
            have hfar : ∀ x, ItemAt (fresh (w.alloc (.cells #[.bool false, .slice none 0 0, .slice none 0 0] 65))) w1 (f' + 2) [.bool l5, .slice i1 y1 z1, .slice i3 y3 z3] x → ItemAt (fresh w) W (f' + 2) [.bool l5, .slice i1 y1 z1, .slice i3 y3 z3] x := fun x hx => by
              refine hx.carry (fun b _ hb => Nat.le_trans (by simp) hb) (fun b hb _ => hbx.other b ?_)
              have hb' : w.heap.size + 1 ≤ b := Nat.le_trans (by simp) hb
              omega
            have hbel := HBL1.out.trans (hbx.chg.toBelowAt (by omega) (fun k hk e => by omega))
            by_cases he : e2 = 0
            · subst he
              have K3' := K3.out
              rw [if_pos rfl] at K3'
              rw [HR.out, HRR.out, if_neg (by simp)]
              refine ⟨l5, i1, y1, z1, i3, y3, z3, mm, rfl, fun _ => ?_, fun h => absurd rfl h, hfar _ K3', hbel⟩
              have := K1.out (by trivial)
              show mm + (seg B ((p + 1 + j) + v) en).length = en
              rw [HSL.out]; omega
            · have K3' := K3.out
              rw [if_neg he] at K3'
              rw [HR.out, HRR.out, if_pos he]
              exact ⟨l5, i1, y1, z1, i3, y3, z3, mm, rfl, fun h => absurd h he, fun _ => K2.out he, hfar _ K3', hbel⟩
end Go.Proofs.Ytndkkgkcbbmnpaa
