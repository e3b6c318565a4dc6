/-
  Contract of (*nest.reader).item, where that of list is known.
-/
import Derived.Test.YtndkkgkcbbmnpaaDecB
import Derived.Test.YtndkkgkcbbmnpaaNestC
namespace Go.Pg
open Go.RowKit
/-- three cells written into a box -/
structure Box3 (W1 W : World) (b : Nat) (v0 v1 v2 : Value) (t : TypeId) : Prop where
  at_ : W.heap[b]? = some (.cells #[v0, v1, v2] t (0, 0))
  other : ∀ k, k ≠ b → W.heap[k]? = W1.heap[k]?
  size : W.heap.size = W1.heap.size
  chg : Chg (fun k => k = b) W1 W
theorem box3 {W1 : World} {b : Nat} {x0 x1 x2 : Value} {t : TypeId} (hk : W1.heap[b]? = some (.cells #[x0, x1, x2] t (0, 0))) (v0 v1 v2 : Value) :
    Box3 W1 (((W1.setCell ⟨b, 0, none⟩ v0).setCell ⟨b, 1, none⟩ v1).setCell ⟨b, 2, none⟩ v2) b v0 v1 v2 t :=
  ⟨heap_setCell_same _ _ _ _ _ _ (heap_setCell_same _ _ _ _ _ _ (heap_setCell_same _ _ _ _ _ _ hk)),
   fun k hk => by rw [Below.heap_setCell _ _ _ _ hk, Below.heap_setCell _ _ _ _ hk, Below.heap_setCell _ _ _ _ hk], by simp, (((Chg.refl (fun k => k = b) W1).atb _).atb _).atb _⟩
theorem Box3.alloc {W1 W : World} {b : Nat} {v0 v1 v2 : Value} {t : TypeId} (h : Box3 W1 W b v0 v1 v2 t) (o : Obj) : Box3 (W1.alloc o) (W.alloc o) b v0 v1 v2 t := by
  have hlt := (Array.getElem?_eq_some_iff.1 h.at_).1
  refine ⟨by rw [Below.heap_alloc _ _ _ hlt]; exact h.at_, fun k hk => ?_, by simp [h.size], ⟨h.chg.os, h.chg.tape, h.chg.output, by simp [h.size], fun k hk hn => ?_⟩⟩
  all_goals
    show (W.heap.push o)[k]? = (W1.heap.push o)[k]?
    rw [Array.getElem?_push, Array.getElem?_push, h.size, h.other k (by assumption)]
end Go.Pg
namespace Go.Proofs.Ytndkkgkcbbmnpaa
open Go.RowKit Go.Pg

/-- an item was read, or a fault noted -/
def Itemd (F : Nat → Prop) (w : World) (rb D : Nat) (r : Nat × It × List UInt8) (e : Ending) (w' : World) : Prop :=
  ∃ l a1 n1 c1 a3 n3 c3 a2 n2 c2, e = .returned (.agg #[.bool l, .slice a1 n1 c1, .slice a3 n3 c3]) ∧
    (r.1 = 0 → ItemAt (fun b => w.heap.size ≤ b) w' D [.bool l, .slice a1 n1 c1, .slice a3 n3 c3] r.2.1 ∧ BytesAt F w' (.slice a2 n2 c2) r.2.2) ∧
    w'.heap[rb]? = some (.cells #[.slice a2 n2 c2, .int .i64 r.1] 117 (0, 0)) ∧ Chg (fun k => k = rb) w w'
def RItemC (f : Nat) : Prop := ∀ (F : Nat → Prop) (w : World) (rb : Nat) (a : Option Addr) (n c deep : Nat) (bs : List UInt8), BytesAt F w (.slice a n c) bs →
  w.heap[rb]? = some (.cells #[.slice a n c, .int .i64 0] 117 (0, 0)) → ¬ F rb → n ≤ 70368744177664 → deep + f = 8 →
  Calls Try.prog 95 #[.pointer (some ⟨rb, 0, none⟩), .int .i64 deep] w (Itemd F w rb (f + 1) (rdItem f bs))
def RListC (f : Nat) : Prop := ∀ (F : Nat → Prop) (w : World) (rb : Nat) (a : Option Addr) (n c deep m : Nat) (bs : List UInt8), BytesAt F w (.slice a n c) bs →
  w.heap[rb]? = some (.cells #[.slice a n c, .int .i64 0] 117 (0, 0)) → ¬ F rb → n ≤ 70368744177664 → deep + 1 + f = 8 → m ≤ 255 →
  Calls Try.prog 109 #[.pointer (some ⟨rb, 0, none⟩), .int .i64 m, .int .i64 deep] w (Itemd F w rb (f + 2) (rdList (rdItem f) (readSize m bs)))

theorem int_fail (w : World) (rb : Nat) (a : Option Addr) (n c : Nat) (k : Int) (code : Nat) (hkc : k = code) (hk : w.heap[rb]? = some (.cells #[.slice a n c, .int .i64 0] 117 (0, 0))) :
    Calls Try.prog 108 #[.pointer (some ⟨rb, 0, none⟩), .int .i64 k] w (Failed w rb (.slice a n c) code) := by
  subst hkc; exact fail_any w rb a n c code hk

set_option maxRecDepth 100000 in
set_option maxHeartbeats 1000000 in
theorem item_none (F : Nat → Prop) (f : Nat) (w : World) (rb : Nat) (a : Option Addr) (c deep : Nat)
    (hk : w.heap[rb]? = some (.cells #[.slice a 0 c, .int .i64 0] 117 (0, 0))) :
    Calls Try.prog 95 #[.pointer (some ⟨rb, 0, none⟩), .int .i64 deep] w (Itemd F w rb (f + 1) (rdItem f [])) := by
  have hlt := (Array.getElem?_eq_some_iff.1 hk).1
  have hr : rdItem f [] = (22, .text [], []) := by cases f <;> rfl
  have HR := Lib.hid hr
  have hk0 : (w.alloc (.cells #[.bool false, .slice none 0 0, .slice none 0 0] 65)).heap[rb]? = some (.cells #[.slice a 0 c, .int .i64 0] 117 (0, 0)) := by rw [Below.heap_alloc _ _ _ hlt]; exact hk
  have HK0 := Lib.hid hk0
  clear hr hk hk0
  go_enter Try.func95, Try.ntmps95
  go_wp2_with fail
  refine (take_no _ rb a 0 c 1 HK0.out (by omega)).mono ?_
  rintro e w1 ⟨rfl, h1, h2⟩
  have hb1 : w1.heap[w.heap.size]? = some (.cells #[.bool false, .slice none 0 0, .slice none 0 0] 65 (0, 0)) := by
    rw [h2.block _ (by simp) (by omega)]; exact heap_alloc_new w _
  obtain ⟨q0, q1, q2⟩ := cells3 hb1
  have f0 := frozen_of_row w1 w.heap.size 0 _ _ hb1
  have f1 := frozen_of_row w1 w.heap.size 1 _ _ hb1
  have f2 := frozen_of_row w1 w.heap.size 2 _ _ hb1
  have H1 := Lib.hid h1
  have H2 := Lib.hid h2
  have HB1 := Lib.hid hb1
  clear h1 h2 hb1
  go_wp2_with fail
  have hbx := box3 HB1.out (.bool false) (.slice none 0 0) (.slice none 0 0)
  obtain ⟨W, hW⟩ : ∃ W, W = ((w1.setCell ⟨w.heap.size, 0, none⟩ (.bool false)).setCell ⟨w.heap.size, 1, none⟩ (.slice none 0 0)).setCell ⟨w.heap.size, 2, none⟩ (.slice none 0 0) := ⟨_, rfl⟩
  rw [← hW] at hbx ⊢
  obtain ⟨r0, r1, r2⟩ := cells3 hbx.at_
  refine bodyPost_ret (v := .agg #[.bool false, .slice none 0 0, .slice none 0 0]) (by simp [results, Try.results95, go_sem, r0, r1, r2]) rfl ?_
  unfold Itemd
  rw [HR.out]
  refine ⟨false, none, 0, 0, none, 0, 0, a, 0, c, rfl, (fun h => by cases h), ?_, ?_⟩
  · rw [hbx.other _ (by omega)]; exact H1.out
  · exact (((Chg.refl (fun k => k = rb) w).alloc _).trans H2.out (fun _ _ x => x)).trans hbx.chg (fun i hi e => by omega)
end Go.Proofs.Ytndkkgkcbbmnpaa
