/-
  Contracts of (*nest.reader).item at every depth, of nest.First.
-/
import Derived.Test.YtndkkgkcbbmnpaaDecF
namespace Go.Pg
theorem err3 {c1 c2 c3 : Prop} [Decidable c1] [Decidable c2] [Decidable c3] {e1 e2 e3 : Nat} {x : It} {l : List UInt8}
    (h : (if c1 then (e1, It.text [], ([] : List UInt8)) else if c2 then (e2, It.text [], []) else if c3 then (e3, It.text [], []) else (0, x, l)).1 ≠ 0) :
    (if c1 then (e1, It.text [], ([] : List UInt8)) else if c2 then (e2, It.text [], []) else if c3 then (e3, It.text [], []) else (0, x, l)).2.1 = .text [] := by
  by_cases h1 : c1
  · rw [if_pos h1]
  · rw [if_neg h1] at h ⊢
    by_cases h2 : c2
    · rw [if_pos h2]
    · rw [if_neg h2] at h ⊢
      by_cases h3 : c3
      · rw [if_pos h3]
      · rw [if_neg h3] at h; exact (h rfl).elim
theorem rdText_err (r : Nat × Nat × List UInt8) (h : (rdText r).1 ≠ 0) : (rdText r).2.1 = .text [] := by
  unfold rdText at h ⊢; exact err3 h
theorem rdList_err (rd : List UInt8 → Nat × It × List UInt8) (r : Nat × Nat × List UInt8) (h : (rdList rd r).1 ≠ 0) : (rdList rd r).2.1 = .text [] := by
  unfold rdList at h ⊢; exact err3 h
theorem rdItem_err (f : Nat) (bs : List UInt8) (h : (rdItem f bs).1 ≠ 0) : (rdItem f bs).2.1 = .text [] := by
  cases bs with
  | nil => cases f <;> rfl
  | cons c t =>
    by_cases h1 : c.toNat < 128
    · have : rdItem f (c :: t) = (0, .text [c], t) := by unfold rdItem; rw [if_pos h1]
      rw [this] at h; exact (h rfl).elim
    · by_cases h2 : c.toNat < 192
      · have : rdItem f (c :: t) = rdText (readSize (c.toNat - 128) t) := by unfold rdItem; rw [if_neg h1, if_pos h2]
        rw [this] at h ⊢; exact rdText_err _ h
      · cases f with
        | zero =>
          have : rdItem 0 (c :: t) = (21, .text [], []) := by unfold rdItem; rw [if_neg h1, if_neg h2]
          rw [this]
        | succ f =>
          have : rdItem (f + 1) (c :: t) = rdList (rdItem f) (readSize (c.toNat - 192) t) := by rw [rdItem, if_neg h1, if_neg h2]
          rw [this] at h ⊢; exact rdList_err _ _ h
end Go.Pg
namespace Go.Proofs.Ytndkkgkcbbmnpaa
open Go.RowKit Go.Pg

theorem ritem_of (f : Nat) (hl : ∀ f', f = f' + 1 → RListC f') : RItemC f := by
  intro F w rb a n c deep bs h hk hF hn hd
  cases bs with
  | nil =>
    obtain ⟨a', c', hv, h1, -⟩ := h
    simp only [Value.slice.injEq, List.length_nil] at hv
    obtain ⟨-, rfl, -⟩ := hv
    exact item_none F f w rb a c deep hk
  | cons x t => exact item_some F f hl w rb a n c deep x t h hk hF hn hd
theorem ritem_any : ∀ f, RItemC f
  | 0 => ritem_of 0 (fun f' h => by omega)
  | f + 1 => ritem_of (f + 1) (fun f' h => by
      have : f = f' := by omega
      subst this
      exact list_step f (ritem_any f))

theorem new_at {W : World} {n : Nat} (h : W.heap.size = n) (cs : Array Value) (t : TypeId) (i : Nat) : (W.alloc (.cells cs t)).drew.cell? ⟨n, i, none⟩ = cs[i]? := by
  subst h
  show (W.alloc (.cells cs t)).cell? _ = _
  simp
/-- an item with its number of bytes and a fault -/
def Firstd (w : World) (n : Nat) (r : Nat × It × List UInt8) (e : Ending) (w' : World) : Prop :=
  ∃ l a1 n1 c1 a3 n3 c3 m, e = .returned (.tuple #[.agg #[.bool l, .slice a1 n1 c1, .slice a3 n3 c3], .int .i64 ((m : Nat) : Int), .int .i64 r.1]) ∧
    (r.1 = 0 → m + r.2.2.length = n) ∧ (r.1 ≠ 0 → m = 0) ∧ ItemAt (fun b => w.heap.size ≤ b) w' 9 [.bool l, .slice a1 n1 c1, .slice a3 n3 c3] r.2.1 ∧ Below w.heap.size w w'

set_option maxRecDepth 100000 in
set_option maxHeartbeats 2000000 in
theorem first_any (F0 : Nat → Prop) (w : World) (a : Option Addr) (n c : Nat) (bs : List UInt8) (h0 : BytesAt F0 w (.slice a n c) bs) (hn : n ≤ 70368744177664) :
    Calls Try.prog 77 #[.slice a n c] w (Firstd w n (rdItem 8 bs)) := by
  have h : BytesAt (fun b => b < w.heap.size) w (.slice a n c) bs := h0.carry (fun b hb _ => hb) (fun _ _ _ => rfl)
  obtain ⟨e1, y, t, hr⟩ : ∃ e1 y t, rdItem 8 bs = (e1, y, t) := ⟨_, _, _, rfl⟩
  rw [hr]
  have hk1 : ((w.alloc (.cells #[.bool false, .slice none 0 0, .slice none 0 0] 65)).alloc (.cells #[.slice a n c, .int .i64 0] 117)).heap[w.heap.size + 1]? = some (.cells #[.slice a n c, .int .i64 0] 117 (0, 0)) := by
    have := heap_alloc_new (w.alloc (.cells #[.bool false, .slice none 0 0, .slice none 0 0] 65)) (.cells #[.slice a n c, .int .i64 0] 117)
    simpa using this
  have hk0 : ((w.alloc (.cells #[.bool false, .slice none 0 0, .slice none 0 0] 65)).alloc (.cells #[.slice a n c, .int .i64 0] 117)).heap[w.heap.size]? = some (.cells #[.bool false, .slice none 0 0, .slice none 0 0] 65 (0, 0)) :=
    (Below.heap_alloc _ _ _ (by simp)).trans (heap_alloc_new w _)
  have hby := BytesAt.below h (Bel.alloc (Bel.alloc (Bel.refl w) (.cells #[.bool false, .slice none 0 0, .slice none 0 0] 65)) (.cells #[.slice a n c, .int .i64 0] 117))
  have hnl : n = bs.length := by
    obtain ⟨a', c', hv, h1, -⟩ := h
    simp only [Value.slice.injEq] at hv
    exact hv.2.1
  have hcall := ritem_any 8 (fun b => b < w.heap.size) _ (w.heap.size + 1) a n c 0 bs hby hk1 (by omega) hn rfl
  rw [hr] at hcall
  have HC := Lib.hid hcall
  have HK0 := Lib.hid hk0
  have HNL := Lib.hid hnl
  have HR := Lib.hid hr
  clear h0 hr h hk1 hk0 hby hnl hcall
  go_enter Try.func77, Try.ntmps77
  go_wp2_with fail
  refine HC.out.mono ?_
  rintro e5 w5 ⟨l5, i1, y1, z1, i3, y3, z3, i2, y2, z2, rfl, k1, k2, k3⟩
  have hsz := k3.size
  simp only [World.size_alloc] at hsz
  have h1 : w.heap.size + 1 < w5.heap.size := by omega
  have h0 : w.heap.size < w5.heap.size := by omega
  have hb5 := (k3.block w.heap.size (by simp; omega) (by omega)).trans HK0.out
  have HB5 := Lib.hid hb5
  have K1 := Lib.hid k1
  have HBL := Lib.hid (((Bel.alloc (Bel.alloc (Bel.refl w) (.cells #[.bool false, .slice none 0 0, .slice none 0 0] 65)) (.cells #[.slice a n c, .int .i64 0] 117))).trans (k3.toBelowAt (B := w.heap.size) (by simp; omega) (fun k hk e => by omega)))
  obtain ⟨s0, s1⟩ := cells2 k2
  obtain ⟨q0, q1, q2⟩ := cells3 hb5
  have f0 := frozen_of_row w5 w.heap.size 0 _ _ hb5
  have f1 := frozen_of_row w5 w.heap.size 1 _ _ hb5
  have f2 := frozen_of_row w5 w.heap.size 2 _ _ hb5
  have HLE : Hid (e1 = 0 → y2 = t.length ∧ t.length ≤ n) := Lib.hid fun h => by
    obtain ⟨a', c', hv, h1, -⟩ := (k1 h).2
    simp only [Value.slice.injEq] at hv
    refine ⟨hv.2.1, ?_⟩
    have h2 := HNL.out
    cases bs with
    | nil => have h3 : t = [] := by have := HR.out; have h4 : rdItem 8 [] = (22, .text [], []) := rfl; rw [h4] at this; simp_all
             rw [h3]; simp
    | cons x bs' => have h3 := rdItem_rest 8 x bs'; rw [HR.out] at h3; simp at h2 h3; omega
  clear hb5 k1 k2 k3 hsz
  by_cases he : e1 = 0
  · subst he
    have hy2 := (HLE.out rfl).1
    have hyn := (HLE.out rfl).2
    rw [← hy2] at hyn
    have HY := Lib.hid hy2
    have s1' : w5.cell? ⟨w.heap.size + 1, 1, none⟩ = some (.int .i64 0) := s1
    clear s1 hy2
    go_wp2_with fail
    have hx0 : ((((w5.setCell ⟨w.heap.size, 0, none⟩ (Value.bool l5)).setCell ⟨w.heap.size, 1, none⟩ (Value.slice i1 y1 z1)).setCell ⟨w.heap.size, 2, none⟩ (Value.slice i3 y3 z3)).alloc (Obj.cells #[Value.bool l5, Value.slice i1 y1 z1, Value.slice i3 y3 z3] 65)).drew.cell? ⟨w5.heap.size, 0, none⟩ = some (Value.bool l5) := new_at (by simp [World.setCell]) _ _ _
    have hx1 : ((((w5.setCell ⟨w.heap.size, 0, none⟩ (Value.bool l5)).setCell ⟨w.heap.size, 1, none⟩ (Value.slice i1 y1 z1)).setCell ⟨w.heap.size, 2, none⟩ (Value.slice i3 y3 z3)).alloc (Obj.cells #[Value.bool l5, Value.slice i1 y1 z1, Value.slice i3 y3 z3] 65)).drew.cell? ⟨w5.heap.size, 1, none⟩ = some (Value.slice i1 y1 z1) := new_at (by simp [World.setCell]) _ _ _
    have hx2 : ((((w5.setCell ⟨w.heap.size, 0, none⟩ (Value.bool l5)).setCell ⟨w.heap.size, 1, none⟩ (Value.slice i1 y1 z1)).setCell ⟨w.heap.size, 2, none⟩ (Value.slice i3 y3 z3)).alloc (Obj.cells #[Value.bool l5, Value.slice i1 y1 z1, Value.slice i3 y3 z3] 65)).drew.cell? ⟨w5.heap.size, 2, none⟩ = some (Value.slice i3 y3 z3) := new_at (by simp [World.setCell]) _ _ _
    go_region_held3 (fun w' => w'.cell? ⟨w.heap.size + 1, 0, none⟩ = some (.slice i2 y2 z2) ∧ w'.cell? ⟨w5.heap.size, 0, none⟩ = some (.bool l5) ∧ w'.cell? ⟨w5.heap.size, 1, none⟩ = some (.slice i1 y1 z1) ∧ w'.cell? ⟨w5.heap.size, 2, none⟩ = some (.slice i3 y3 z3)) (go_keep) (fail)
    clear hx0 hx1 hx2
    go_wp2_with fail
    have hbx := box3 HB5.out (.bool l5) (.slice i1 y1 z1) (.slice i3 y3 z3)
    obtain ⟨W, hW⟩ : ∃ W, W = ((w5.setCell ⟨w.heap.size, 0, none⟩ (.bool l5)).setCell ⟨w.heap.size, 1, none⟩ (.slice i1 y1 z1)).setCell ⟨w.heap.size, 2, none⟩ (.slice i3 y3 z3) := ⟨_, rfl⟩
    rw [← hW] at hbx ⊢
    obtain ⟨r0, r1, r2⟩ := cells3 hbx.at_
    have hlw : w.heap.size < W.heap.size := by rw [hbx.size]; exact h0
    have hnm : IntKind.i64.wrap ((n : Int) - (y2 : Int)) = ((n - y2 : Nat) : Int) := by rw [IntKind.wrap_i64]; omega
    refine bodyPost_ret (v := .tuple #[.agg #[.bool l5, .slice i1 y1 z1, .slice i3 y3 z3], .int .i64 ((n - y2 : Nat) : Int), .int .i64 0]) (by simp [results, Try.results77, go_sem, r0, r1, r2, hlw, hnm]) rfl ?_
    refine ⟨l5, i1, y1, z1, i3, y3, z3, n - y2, rfl, fun _ => by have := HY.out; show n - y2 + t.length = n; omega, fun h => absurd rfl h, ?_, ?_⟩
    · refine (K1.out trivial).1.carry (fun b _ hb => Nat.le_trans (by simp; omega) hb) (fun b hb hlt => ?_)
      have hb' : w.heap.size + 1 ≤ b := Nat.le_trans (by simp) hb
      show (W.alloc _).heap[b]? = _
      rw [Below.heap_alloc _ _ _ (by rw [hbx.size]; exact hlt), hbx.other _ (by omega)]
    · exact ((HBL.out.trans (hbx.chg.toBelowAt (by omega) (fun k hk e => by omega))).alloc (by omega) _).drew
  · have HE := Lib.hid he
    have ht : (((e1:Nat):Int) != 0) = true := by simp; omega
    clear he
    go_wp2_with fail
    go_region_held3 (fun w' => w'.cell? ⟨w.heap.size + 1, 1, none⟩ = some (.int .i64 (e1 : Int))) (go_keep) (fail)
    go_wp2_with fail
    have hbx := box3 HB5.out (.bool false) (.slice none 0 0) (.slice none 0 0)
    obtain ⟨W, hW⟩ : ∃ W, W = ((w5.setCell ⟨w.heap.size, 0, none⟩ (.bool false)).setCell ⟨w.heap.size, 1, none⟩ (.slice none 0 0)).setCell ⟨w.heap.size, 2, none⟩ (.slice none 0 0) := ⟨_, rfl⟩
    rw [← hW] at hbx ⊢
    obtain ⟨r0, r1, r2⟩ := cells3 hbx.at_
    have hlw : w.heap.size < W.heap.size := by rw [hbx.size]; exact h0
    refine bodyPost_ret (v := .tuple #[.agg #[.bool false, .slice none 0 0, .slice none 0 0], .int .i64 ((0 : Nat) : Int), .int .i64 e1]) (by simp [results, Try.results77, go_sem, r0, r1, r2, hlw]) rfl ?_
    exact ⟨false, none, 0, 0, none, 0, 0, 0, rfl, fun h => absurd h HE.out, fun _ => rfl, by
      have hy : y = .text [] := by have := rdItem_err 8 bs; rw [HR.out] at this; exact this HE.out
      rw [hy]; exact ⟨_, _, rfl, BytesAt.nil _ _, SliceAt.nil _ _ _ _⟩, ((HBL.out.trans (hbx.chg.toBelowAt (by omega) (fun k hk e => by omega))).alloc (by omega) _).drew⟩
end Go.Proofs.Ytndkkgkcbbmnpaa
