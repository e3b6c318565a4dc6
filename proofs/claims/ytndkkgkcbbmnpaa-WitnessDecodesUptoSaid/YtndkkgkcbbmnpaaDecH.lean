/-
  Contract of nest.Decode.
-/
import Derived.Test.YtndkkgkcbbmnpaaDecG
namespace Go.Proofs.Ytndkkgkcbbmnpaa
open Go.RowKit Go.Pg

/-- an item, or an empty one and a fault -/
def Decd (F : World → Nat → Prop) (w : World) (r : Nat × It) (e : Ending) (w' : World) : Prop :=
  ∃ l a1 n1 c1 a3 n3 c3, e = .returned (.tuple #[.agg #[.bool l, .slice a1 n1 c1, .slice a3 n3 c3], .int .i64 r.1]) ∧
    ItemAt (F w) w' 9 [.bool l, .slice a1 n1 c1, .slice a3 n3 c3] r.2 ∧ Below w.heap.size w w'
def fresh (w : World) (b : Nat) : Prop := w.heap.size ≤ b

set_option maxRecDepth 100000 in
set_option maxHeartbeats 2000000 in
theorem decode_any (F0 : Nat → Prop) (w : World) (a : Option Addr) (n c : Nat) (bs : List UInt8) (h0 : BytesAt F0 w (.slice a n c) bs) (hn : n ≤ 70368744177664) :
    Calls Try.prog 47 #[.slice a n c] w (Decd fresh w (rdWhole bs)) := by
  have hnl : n = bs.length := by
    obtain ⟨a', c', hv, h1, -⟩ := h0
    simp only [Value.slice.injEq] at hv
    exact hv.2.1
  obtain ⟨e1, y, t, hr⟩ : ∃ e1 y t, rdItem 8 bs = (e1, y, t) := ⟨_, _, _, rfl⟩
  have hrw : rdWhole bs = if e1 ≠ 0 then (e1, .text []) else if t ≠ [] then (24, .text []) else (0, y) := by unfold rdWhole; rw [hr]
  have herr := rdItem_err 8 bs
  rw [hr] at herr
  have hcall := first_any F0 (w.alloc (.cells #[.bool false, .slice none 0 0, .slice none 0 0] 65)) a n c bs (BytesAt.below h0 (Bel.alloc (Bel.refl w) _)) hn
  rw [hr] at hcall
  have HC := Lib.hid hcall
  have HRW := Lib.hid hrw
  have HERR := Lib.hid herr
  have HNL := Lib.hid hnl
  clear h0 hnl hr hrw hcall herr
  go_enter Try.func47, Try.ntmps47
  go_wp2_with fail
  refine HC.out.mono ?_
  rintro e5 w5 ⟨l5, i1, y1, z1, i3, y3, z3, m, rfl, k1, k2, k3, k4⟩
  have hsz := k4.size
  simp only [World.size_alloc] at hsz
  have h0 : w.heap.size < w5.heap.size := by omega
  have hb5 := (k4.block w.heap.size (by simp)).trans (heap_alloc_new w _)
  have HB5 := Lib.hid hb5
  have K1 := Lib.hid k1
  have K2 := Lib.hid k2
  have K3 := Lib.hid k3
  have HBL := Lib.hid ((Bel.alloc (Bel.refl w) (.cells #[.bool false, .slice none 0 0, .slice none 0 0] 65)).trans (k4.mono (by simp)))
  obtain ⟨q0, q1, q2⟩ := cells3 hb5
  have f0 := frozen_of_row w5 w.heap.size 0 _ _ hb5
  have f1 := frozen_of_row w5 w.heap.size 1 _ _ hb5
  have f2 := frozen_of_row w5 w.heap.size 2 _ _ hb5
  clear hb5 k1 k2 k3 k4 hsz
  by_cases he : e1 = 0
  · subst he
    have hmn : m + t.length = n := K1.out rfl
    by_cases hlt : m < n
    · clear hmn
      go_wp2_with fail
      have hbx := box3 HB5.out (.bool false) (.slice none 0 0) (.slice none 0 0)
      obtain ⟨W, hW⟩ : ∃ W, W = ((w5.setCell ⟨w.heap.size, 0, none⟩ (.bool false)).setCell ⟨w.heap.size, 1, none⟩ (.slice none 0 0)).setCell ⟨w.heap.size, 2, none⟩ (.slice none 0 0) := ⟨_, rfl⟩
      rw [← hW] at hbx ⊢
      obtain ⟨r0, r1, r2⟩ := cells3 hbx.at_
      have hlw : w.heap.size < W.heap.size := by rw [hbx.size]; exact h0
      refine bodyPost_ret (v := .tuple #[.agg #[.bool false, .slice none 0 0, .slice none 0 0], .int .i64 ((24 : Nat) : Int)]) (by simp [results, Try.results47, go_sem, r0, r1, r2, hlw]) rfl ?_
      have ht : t ≠ [] := by intro h; have := K1.out trivial; rw [h] at this; simp at this; omega
      rw [HRW.out, if_neg (by simp), if_pos ht]
      exact ⟨false, none, 0, 0, none, 0, 0, rfl, ⟨_, _, rfl, BytesAt.nil _ _, SliceAt.nil _ _ _ _⟩, ((HBL.out.trans (hbx.chg.toBelowAt (by omega) (fun k hk e => by omega))).alloc (by omega) _)⟩
    · have ht : t = [] := List.eq_nil_of_length_eq_zero (by omega)
      have HT := Lib.hid ht
      clear ht hmn
      go_wp2_with fail
      have hbx := box3 HB5.out (.bool l5) (.slice i1 y1 z1) (.slice i3 y3 z3)
      obtain ⟨W, hW⟩ : ∃ W, W = ((w5.setCell ⟨w.heap.size, 0, none⟩ (.bool l5)).setCell ⟨w.heap.size, 1, none⟩ (.slice i1 y1 z1)).setCell ⟨w.heap.size, 2, none⟩ (.slice i3 y3 z3) := ⟨_, rfl⟩
      rw [← hW] at hbx ⊢
      obtain ⟨r0, r1, r2⟩ := cells3 hbx.at_
      have hlw : w.heap.size < W.heap.size := by rw [hbx.size]; exact h0
      refine bodyPost_ret (v := .tuple #[.agg #[.bool l5, .slice i1 y1 z1, .slice i3 y3 z3], .int .i64 ((0 : Nat) : Int)]) (by simp [results, Try.results47, go_sem, r0, r1, r2, hlw]) rfl ?_
      rw [HRW.out, if_neg (by simp), if_neg (by simp [HT.out])]
      refine ⟨l5, i1, y1, z1, i3, y3, z3, rfl, ?_, ((HBL.out.trans (hbx.chg.toBelowAt (by omega) (fun k hk e => by omega))).alloc (by omega) _)⟩
      refine K3.out.carry (fun b _ hb => Nat.le_trans (by simp) hb) (fun b hb hlt => ?_)
      have hb' : w.heap.size + 1 ≤ b := Nat.le_trans (by simp) hb
      rw [Below.heap_alloc _ _ _ (by rw [hbx.size]; exact hlt), hbx.other _ (by omega)]
  · have HE := Lib.hid he
    have hm : m = 0 := K2.out he
    have hy : y = .text [] := HERR.out he
    have ht : (((e1:Nat):Int) == 0) = false := by simp; omega
    have HY := Lib.hid hy
    subst hm
    clear he hy
    go_wp2_with fail
    have hbx := box3 HB5.out (.bool l5) (.slice i1 y1 z1) (.slice i3 y3 z3)
    obtain ⟨W, hW⟩ : ∃ W, W = ((w5.setCell ⟨w.heap.size, 0, none⟩ (.bool l5)).setCell ⟨w.heap.size, 1, none⟩ (.slice i1 y1 z1)).setCell ⟨w.heap.size, 2, none⟩ (.slice i3 y3 z3) := ⟨_, rfl⟩
    rw [← hW] at hbx ⊢
    obtain ⟨r0, r1, r2⟩ := cells3 hbx.at_
    have hlw : w.heap.size < W.heap.size := by rw [hbx.size]; exact h0
    refine bodyPost_ret (v := .tuple #[.agg #[.bool l5, .slice i1 y1 z1, .slice i3 y3 z3], .int .i64 (e1 : Int)]) (by simp [results, Try.results47, go_sem, r0, r1, r2, hlw]) rfl ?_
    rw [HRW.out, if_pos HE.out]
    refine ⟨l5, i1, y1, z1, i3, y3, z3, rfl, ?_, ((HBL.out.trans (hbx.chg.toBelowAt (by omega) (fun k hk e => by omega))).alloc (by omega) _)⟩
    have := K3.out
    rw [HY.out] at this
    refine this.carry (fun b _ hb => Nat.le_trans (by simp) hb) (fun b hb hlt => ?_)
    have hb' : w.heap.size + 1 ≤ b := Nat.le_trans (by simp) hb
    rw [Below.heap_alloc _ _ _ (by rw [hbx.size]; exact hlt), hbx.other _ (by omega)]
end Go.Proofs.Ytndkkgkcbbmnpaa
