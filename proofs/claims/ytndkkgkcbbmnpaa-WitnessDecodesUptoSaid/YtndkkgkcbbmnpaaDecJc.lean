/-
  Contract of pergolaref02.first: a short list.
-/
import Derived.Test.YtndkkgkcbbmnpaaDecJ
namespace Go.Proofs.Ytndkkgkcbbmnpaa
open Go.RowKit Go.Pg

set_option maxRecDepth 100000 in
set_option maxHeartbeats 2000000 in
theorem rfirst_listA (f : Nat) (w : World) (n c p en deep : Nat) (B : List UInt8) (b o : Nat) (x : UInt8) (t : List UInt8) (m : Nat)
    (HB : Hid (BytesAt (fun b => b < w.heap.size) w (.slice (some ⟨b, o, none⟩) n c) B)) (HNB : Hid (n = B.length)) (HCELL : Hid (∀ (i : Nat), i < B.length → w.cell? ⟨b, o + i, none⟩ = some (.int .u8 ((B.getD i 0).toNat : Int))))
    (hp : p < en) (hen : en ≤ n) (hn : n ≤ 70368744177664) (hd : deep + f = 8) (hnc : n ≤ c) (hcm : c ≤ 2 ^ 63 - 1) (hbw : b < w.heap.size) (hc0 : w.cell? ⟨b, o + p, none⟩ = some (.int .u8 (x.toNat : Int))) (HT : Hid (t = seg B (p + 1) en)) (f' : Nat) (hf : f = f' + 1) (hm : x.toNat = m + 192) (HI : Hid (RItemsC f')) (h55 : m ≤ 55) :
    Calls Try.prog 96 #[.slice (some ⟨b, o, none⟩) n c, .int .i64 p, .int .i64 en, .int .i64 deep] w (RFirstd w (f + 1) en (rdItem f (x :: t))) := by
  have hxl := x.toNat_lt
  subst hf

  have hmi : (x.toNat : Int) - 192 = (m : Int) := by omega
  have h128 : ¬ (x.toNat : Int) < 128 := by omega
  have h192 : (192 : Int) ≤ (x.toNat : Int) := by omega
  have hd8 : ¬ (8 : Int) ≤ (deep : Int) := by omega
  have hr1 : ¬ x.toNat < 128 := by omega
  have hr2 : ¬ x.toNat < 192 := by omega
  have hrt : rdItem (f' + 1) (x :: t) = rdList (rdItem f') (readSize m t) := by rw [rdItem, if_neg hr1, if_neg hr2, hm, Nat.add_sub_cancel]

  have HRT := Lib.hid hrt
  have HM := Lib.hid hm
  clear hrt hm hr1 hr2

  have hs : readSize m t = (0, m, seg B (p + 1) en) := by unfold readSize; rw [if_pos h55, HT.out]
  have HS := Lib.hid hs
  clear hs

  by_cases hsh : en < (p + 1) + m
  · have hr : rdItem (f' + 1) (x :: t) = (22, .text [], []) := by
      rw [HRT.out, HS.out, rdList, if_neg (by simp), if_pos (by simp only; rw [seg_len _ _ _ (by have := HNB.out; omega)]; omega)]
    have HR := Lib.hid hr
    clear hr
    go_enter Try.func96, Try.ntmps96
    go_wp2_with fail
    refine bodyPost_ret (v := .tuple #[.agg #[.bool false, .slice none 0 0, .slice none 0 0], .int .i64 0, .int .i64 22]) (by simp [results, Try.results96, go_sem]) rfl ?_
    rw [HR.out]
    exact RFirstd.bad (k := 22) rfl (by decide) rfl rfl (Bel.alloc (Bel.refl w) _)

  · have hq : (p + 1) + m ≤ n := by omega
    obtain ⟨L, hL⟩ : ∃ L, L = seg B (p + 1) ((p + 1) + m) := ⟨_, rfl⟩
    obtain ⟨e2, l, hal⟩ : ∃ e2 l, rdAll (rdItem f') m L = (e2, l) := ⟨_, _, rfl⟩
    obtain ⟨r, hrr⟩ : ∃ r : Nat × It × List UInt8, r = if e2 ≠ 0 then (e2, .text [], []) else (0, .list l, seg B ((p + 1) + m) en) := ⟨_, rfl⟩
    have HRR := Lib.hid hrr
    have hr : rdItem (f' + 1) (x :: t) = r := by
      rw [hrr]
      rw [HRT.out, HS.out, rdList, if_neg (by simp), if_neg (by simp only; rw [seg_len _ _ _ (by have := HNB.out; omega)]; omega)]
      simp only [seg_drop, seg_take B (p + 1) en m (by omega), ← hL, hal]
    have HR := Lib.hid hr
    have hcall := HI.out (fun b => b < w.heap.size) (w.alloc (.cells #[.bool false, .slice none 0 0, .slice none 0 0] 65)) (some ⟨b, o, none⟩) ((p : Int) + 1) ((p : Int) + 1 + (m : Int)) ((deep : Int) + 1) n c (p + 1) ((p + 1) + m) (deep + 1) B (by omega) (by omega) (by omega) (BytesAt.below HB.out (Bel.alloc (Bel.refl w) _)) (by omega) (by omega) (by omega) hn (by omega)
    rw [show (p + 1) + m - (p + 1) = m by omega, ← hL, hal] at hcall
    have HC := Lib.hid hcall
    have hbox := heap_alloc_new w (.cells #[.bool false, .slice none 0 0, .slice none 0 0] 65)
    have HBOX := Lib.hid hbox
    have hsegl : (seg B ((p + 1) + m) en).length = en - ((p + 1) + m) := seg_len _ _ _ (by have := HNB.out; omega)
    have HSL := Lib.hid hsegl
    clear hr hL hal hcall hbox hsegl hrr
    go_enter Try.func96, Try.ntmps96
    go_wp2_with fail
    refine HC.out.mono ?_
    rintro e5 w1 ⟨l5, i1, y1, z1, i3, y3, z3, mm, rfl, k1, k2, k3, hb4⟩
    have hs4 := hb4.size
    simp only [World.size_alloc] at hs4
    have hlt4 : w.heap.size < w1.heap.size := by omega
    have hb1 := (hb4.block w.heap.size (by simp)).trans HBOX.out
    have HB1 := Lib.hid hb1
    have HBL1 := Lib.hid (Below.trans (Bel.alloc (Bel.refl w) _) (hb4.mono (by simp)))
    have K1 := Lib.hid k1
    have K2 := Lib.hid k2
    have K3 := Lib.hid k3
    obtain ⟨q0, q1, q2⟩ := cells3 hb1
    have f0 := frozen_of_row w1 w.heap.size 0 _ _ hb1
    have f1 := frozen_of_row w1 w.heap.size 1 _ _ hb1
    have f2 := frozen_of_row w1 w.heap.size 2 _ _ hb1
    clear hb1 hb4 hs4 k1 k2 k3
    go_wp2_with fail
    have hbx := box3 HB1.out (.bool l5) (.slice i1 y1 z1) (.slice i3 y3 z3)
    obtain ⟨W, hW⟩ : ∃ W, W = ((w1.setCell ⟨w.heap.size, 0, none⟩ (.bool l5)).setCell ⟨w.heap.size, 1, none⟩ (.slice i1 y1 z1)).setCell ⟨w.heap.size, 2, none⟩ (.slice i3 y3 z3) := ⟨_, rfl⟩
    rw [← hW] at hbx ⊢
    obtain ⟨r0, r1, r2⟩ := cells3 hbx.at_
    refine bodyPost_ret (v := .tuple #[.agg #[.bool l5, .slice i1 y1 z1, .slice i3 y3 z3], .int .i64 (mm : Int), .int .i64 (e2 : Int)]) (by simp [results, Try.results96, go_sem, r0, r1, r2]) rfl ?_
    have hfar : ∀ x, ItemAt (fresh (w.alloc (.cells #[.bool false, .slice none 0 0, .slice none 0 0] 65))) w1 (f' + 2) [.bool l5, .slice i1 y1 z1, .slice i3 y3 z3] x → ItemAt (fresh w) W (f' + 2) [.bool l5, .slice i1 y1 z1, .slice i3 y3 z3] x := fun x hx => by
      refine hx.carry (fun b _ hb => Nat.le_trans (by simp) hb) (fun b hb _ => hbx.other b ?_)
      have hb' : w.heap.size + 1 ≤ b := Nat.le_trans (by simp) hb
      omega
    have hbel := HBL1.out.trans (hbx.chg.toBelowAt (by omega) (fun k hk e => by omega))
    by_cases he : e2 = 0
    · subst he
      have K3' := K3.out
      rw [if_pos rfl] at K3'
      rw [HR.out, HRR.out, if_neg (by simp)]
      refine ⟨l5, i1, y1, z1, i3, y3, z3, mm, rfl, fun _ => ?_, fun h => absurd rfl h, hfar _ K3', hbel⟩
      have := K1.out (by trivial)
      show mm + (seg B ((p + 1) + m) en).length = en
      rw [HSL.out]; omega
    · have K3' := K3.out
      rw [if_neg he] at K3'
      rw [HR.out, HRR.out, if_pos he]
      exact ⟨l5, i1, y1, z1, i3, y3, z3, mm, rfl, fun h => absurd h he, fun _ => K2.out he, hfar _ K3', hbel⟩
end Go.Proofs.Ytndkkgkcbbmnpaa
