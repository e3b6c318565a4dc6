/-
  Contracts of (*nest.reader).item at every depth, of nest.First.
  Contract of nest.Decode.
  Contracts of pergolaref02.head, body, Bytes.
  Reading items out of bytes and writing them are one another's inverse (plain law).
  Contract of pergolaref02.copied; pieces of bytes.
  Contracts of words.Read, pergolaref03.Bytes, pergolaref03.Read.
-/
import Derived.Test.YtndkkgkcbbmnpaaQgAD
namespace Go.Pg
theorem err3 {c1 c2 c3 : Prop} [Decidable c1] [Decidable c2] [Decidable c3] {e1 e2 e3 : Nat} {x : It} {l : List UInt8}
    (h : (if c1 then (e1, It.text [], ([] : List UInt8)) else if c2 then (e2, It.text [], []) else if c3 then (e3, It.text [], []) else (0, x, l)).1 ≠ 0) :
    (if c1 then (e1, It.text [], ([] : List UInt8)) else if c2 then (e2, It.text [], []) else if c3 then (e3, It.text [], []) else (0, x, l)).2.1 = .text [] := by
  by_cases h1 : c1
  · rw [if_pos h1]
  · rw [if_neg h1] at h ⊢
    by_cases h2 : c2
    · rw [if_pos h2]
    · rw [if_neg h2] at h ⊢
      by_cases h3 : c3
      · rw [if_pos h3]
      · rw [if_neg h3] at h; exact (h rfl).elim
theorem rdText_err (r : Nat × Nat × List UInt8) (h : (rdText r).1 ≠ 0) : (rdText r).2.1 = .text [] := by
  unfold rdText at h ⊢; exact err3 h
theorem rdList_err (rd : List UInt8 → Nat × It × List UInt8) (r : Nat × Nat × List UInt8) (h : (rdList rd r).1 ≠ 0) : (rdList rd r).2.1 = .text [] := by
  unfold rdList at h ⊢; exact err3 h
theorem rdItem_err (f : Nat) (bs : List UInt8) (h : (rdItem f bs).1 ≠ 0) : (rdItem f bs).2.1 = .text [] := by
  cases bs with
  | nil => cases f <;> rfl
  | cons c t =>
    by_cases h1 : c.toNat < 128
    · have : rdItem f (c :: t) = (0, .text [c], t) := by unfold rdItem; rw [if_pos h1]
      rw [this] at h; exact (h rfl).elim
    · by_cases h2 : c.toNat < 192
      · have : rdItem f (c :: t) = rdText (readSize (c.toNat - 128) t) := by unfold rdItem; rw [if_neg h1, if_pos h2]
        rw [this] at h ⊢; exact rdText_err _ h
      · cases f with
        | zero =>
          have : rdItem 0 (c :: t) = (21, .text [], []) := by unfold rdItem; rw [if_neg h1, if_neg h2]
          rw [this]
        | succ f =>
          have : rdItem (f + 1) (c :: t) = rdList (rdItem f) (readSize (c.toNat - 192) t) := by rw [rdItem, if_neg h1, if_neg h2]
          rw [this] at h ⊢; exact rdList_err _ _ h
end Go.Pg
namespace Go.Proofs.Ytndkkgkcbbmnpaa
open Go.RowKit Go.Pg

theorem ritem_of (f : Nat) (hl : ∀ f', f = f' + 1 → RListC f') : RItemC f := by
  intro F w rb a n c deep bs h hk hF hn hd
  cases bs with
  | nil =>
    obtain ⟨a', c', hv, h1, -⟩ := h
    simp only [Value.slice.injEq, List.length_nil] at hv
    obtain ⟨-, rfl, -⟩ := hv
    exact item_none F f w rb a c deep hk
  | cons x t => exact item_some F f hl w rb a n c deep x t h hk hF hn hd
theorem ritem_any : ∀ f, RItemC f
  | 0 => ritem_of 0 (fun f' h => by omega)
  | f + 1 => ritem_of (f + 1) (fun f' h => by
      have : f = f' := by omega
      subst this
      exact list_step f (ritem_any f))

theorem new_at {W : World} {n : Nat} (h : W.heap.size = n) (cs : Array Value) (t : TypeId) (i : Nat) : (W.alloc (.cells cs t)).drew.cell? ⟨n, i, none⟩ = cs[i]? := by
  subst h
  show (W.alloc (.cells cs t)).cell? _ = _
  simp
/-- an item with its number of bytes and a fault -/
def Firstd (w : World) (n : Nat) (r : Nat × It × List UInt8) (e : Ending) (w' : World) : Prop :=
  ∃ l a1 n1 c1 a3 n3 c3 m, e = .returned (.tuple #[.agg #[.bool l, .slice a1 n1 c1, .slice a3 n3 c3], .int .i64 ((m : Nat) : Int), .int .i64 r.1]) ∧
    (r.1 = 0 → m + r.2.2.length = n) ∧ (r.1 ≠ 0 → m = 0) ∧ ItemAt (fun b => w.heap.size ≤ b) w' 9 [.bool l, .slice a1 n1 c1, .slice a3 n3 c3] r.2.1 ∧ Below w.heap.size w w'

set_option maxRecDepth 100000 in
set_option maxHeartbeats 2000000 in
theorem first_any (F0 : Nat → Prop) (w : World) (a : Option Addr) (n c : Nat) (bs : List UInt8) (h0 : BytesAt F0 w (.slice a n c) bs) (hn : n ≤ 140737488351232) :
    Calls Try.prog 77 #[.slice a n c] w (Firstd w n (rdItem 8 bs)) := by
  have h : BytesAt (fun b => b < w.heap.size) w (.slice a n c) bs := h0.carry (fun b hb _ => hb) (fun _ _ _ => rfl)
  obtain ⟨e1, y, t, hr⟩ : ∃ e1 y t, rdItem 8 bs = (e1, y, t) := ⟨_, _, _, rfl⟩
  rw [hr]
  have hk1 : ((w.alloc (.cells #[.bool false, .slice none 0 0, .slice none 0 0] 65)).alloc (.cells #[.slice a n c, .int .i64 0] 117)).heap[w.heap.size + 1]? = some (.cells #[.slice a n c, .int .i64 0] 117 (0, 0)) := by
    have := heap_alloc_new (w.alloc (.cells #[.bool false, .slice none 0 0, .slice none 0 0] 65)) (.cells #[.slice a n c, .int .i64 0] 117)
    simpa using this
  have hk0 : ((w.alloc (.cells #[.bool false, .slice none 0 0, .slice none 0 0] 65)).alloc (.cells #[.slice a n c, .int .i64 0] 117)).heap[w.heap.size]? = some (.cells #[.bool false, .slice none 0 0, .slice none 0 0] 65 (0, 0)) :=
    (Below.heap_alloc _ _ _ (by simp)).trans (heap_alloc_new w _)
  have hby := BytesAt.below h (Bel.alloc (Bel.alloc (Bel.refl w) (.cells #[.bool false, .slice none 0 0, .slice none 0 0] 65)) (.cells #[.slice a n c, .int .i64 0] 117))
  have hnl : n = bs.length := by
    obtain ⟨a', c', hv, h1, -⟩ := h
    simp only [Value.slice.injEq] at hv
    exact hv.2.1
  have hcall := ritem_any 8 (fun b => b < w.heap.size) _ (w.heap.size + 1) a n c 0 bs hby hk1 (by omega) hn rfl
  rw [hr] at hcall
  have HC := Lib.hid hcall
  have HK0 := Lib.hid hk0
  have HNL := Lib.hid hnl
  have HR := Lib.hid hr
  clear h0 hr h hk1 hk0 hby hnl hcall
  go_enter Try.func77, Try.ntmps77
  go_wp2_with fail
  refine HC.out.mono ?_
  rintro e5 w5 ⟨l5, i1, y1, z1, i3, y3, z3, i2, y2, z2, rfl, k1, k2, k3⟩
  have hsz := k3.size
  simp only [World.size_alloc] at hsz
  have h1 : w.heap.size + 1 < w5.heap.size := by omega
  have h0 : w.heap.size < w5.heap.size := by omega
  have hb5 := (k3.block w.heap.size (by simp; omega) (by omega)).trans HK0.out
  have HB5 := Lib.hid hb5
  have K1 := Lib.hid k1
  have HBL := Lib.hid (((Bel.alloc (Bel.alloc (Bel.refl w) (.cells #[.bool false, .slice none 0 0, .slice none 0 0] 65)) (.cells #[.slice a n c, .int .i64 0] 117))).trans (k3.toBelowAt (B := w.heap.size) (by simp; omega) (fun k hk e => by omega)))
  obtain ⟨s0, s1⟩ := cells2 k2
  obtain ⟨q0, q1, q2⟩ := cells3 hb5
  have f0 := frozen_of_row w5 w.heap.size 0 _ _ hb5
  have f1 := frozen_of_row w5 w.heap.size 1 _ _ hb5
  have f2 := frozen_of_row w5 w.heap.size 2 _ _ hb5
  have HLE : Hid (e1 = 0 → y2 = t.length ∧ t.length ≤ n) := Lib.hid fun h => by
    obtain ⟨a', c', hv, h1, -⟩ := (k1 h).2
    simp only [Value.slice.injEq] at hv
    refine ⟨hv.2.1, ?_⟩
    have h2 := HNL.out
    cases bs with
    | nil => have h3 : t = [] := by have := HR.out; have h4 : rdItem 8 [] = (22, .text [], []) := rfl; rw [h4] at this; simp_all
             rw [h3]; simp
    | cons x bs' => have h3 := rdItem_rest 8 x bs'; rw [HR.out] at h3; simp at h2 h3; omega
  clear hb5 k1 k2 k3 hsz
  by_cases he : e1 = 0
  · subst he
    have hy2 := (HLE.out rfl).1
    have hyn := (HLE.out rfl).2
    rw [← hy2] at hyn
    have HY := Lib.hid hy2
    have s1' : w5.cell? ⟨w.heap.size + 1, 1, none⟩ = some (.int .i64 0) := s1
    clear s1 hy2
    go_wp2_with fail
    have hx0 : ((((w5.setCell ⟨w.heap.size, 0, none⟩ (Value.bool l5)).setCell ⟨w.heap.size, 1, none⟩ (Value.slice i1 y1 z1)).setCell ⟨w.heap.size, 2, none⟩ (Value.slice i3 y3 z3)).alloc (Obj.cells #[Value.bool l5, Value.slice i1 y1 z1, Value.slice i3 y3 z3] 65)).drew.cell? ⟨w5.heap.size, 0, none⟩ = some (Value.bool l5) := new_at (by simp [World.setCell]) _ _ _
    have hx1 : ((((w5.setCell ⟨w.heap.size, 0, none⟩ (Value.bool l5)).setCell ⟨w.heap.size, 1, none⟩ (Value.slice i1 y1 z1)).setCell ⟨w.heap.size, 2, none⟩ (Value.slice i3 y3 z3)).alloc (Obj.cells #[Value.bool l5, Value.slice i1 y1 z1, Value.slice i3 y3 z3] 65)).drew.cell? ⟨w5.heap.size, 1, none⟩ = some (Value.slice i1 y1 z1) := new_at (by simp [World.setCell]) _ _ _
    have hx2 : ((((w5.setCell ⟨w.heap.size, 0, none⟩ (Value.bool l5)).setCell ⟨w.heap.size, 1, none⟩ (Value.slice i1 y1 z1)).setCell ⟨w.heap.size, 2, none⟩ (Value.slice i3 y3 z3)).alloc (Obj.cells #[Value.bool l5, Value.slice i1 y1 z1, Value.slice i3 y3 z3] 65)).drew.cell? ⟨w5.heap.size, 2, none⟩ = some (Value.slice i3 y3 z3) := new_at (by simp [World.setCell]) _ _ _
    go_region_held3 (fun w' => w'.cell? ⟨w.heap.size + 1, 0, none⟩ = some (.slice i2 y2 z2) ∧ w'.cell? ⟨w5.heap.size, 0, none⟩ = some (.bool l5) ∧ w'.cell? ⟨w5.heap.size, 1, none⟩ = some (.slice i1 y1 z1) ∧ w'.cell? ⟨w5.heap.size, 2, none⟩ = some (.slice i3 y3 z3)) (go_keep) (fail)
    clear hx0 hx1 hx2
    go_wp2_with fail
    have hbx := box3 HB5.out (.bool l5) (.slice i1 y1 z1) (.slice i3 y3 z3)
    obtain ⟨W, hW⟩ : ∃ W, W = ((w5.setCell ⟨w.heap.size, 0, none⟩ (.bool l5)).setCell ⟨w.heap.size, 1, none⟩ (.slice i1 y1 z1)).setCell ⟨w.heap.size, 2, none⟩ (.slice i3 y3 z3) := ⟨_, rfl⟩
    rw [← hW] at hbx ⊢
    obtain ⟨r0, r1, r2⟩ := cells3 hbx.at_
    have hlw : w.heap.size < W.heap.size := by rw [hbx.size]; exact h0
    have hnm : IntKind.i64.wrap ((n : Int) - (y2 : Int)) = ((n - y2 : Nat) : Int) := by rw [IntKind.wrap_i64]; omega
    refine bodyPost_ret (v := .tuple #[.agg #[.bool l5, .slice i1 y1 z1, .slice i3 y3 z3], .int .i64 ((n - y2 : Nat) : Int), .int .i64 0]) (by simp [results, Try.results77, go_sem, r0, r1, r2, hlw, hnm]) rfl ?_
    refine ⟨l5, i1, y1, z1, i3, y3, z3, n - y2, rfl, fun _ => by have := HY.out; show n - y2 + t.length = n; omega, fun h => absurd rfl h, ?_, ?_⟩
    · refine (K1.out trivial).1.carry (fun b _ hb => Nat.le_trans (by simp; omega) hb) (fun b hb hlt => ?_)
      have hb' : w.heap.size + 1 ≤ b := Nat.le_trans (by simp) hb
      show (W.alloc _).heap[b]? = _
      rw [Below.heap_alloc _ _ _ (by rw [hbx.size]; exact hlt), hbx.other _ (by omega)]
    · exact ((HBL.out.trans (hbx.chg.toBelowAt (by omega) (fun k hk e => by omega))).alloc (by omega) _).drew
  · have HE := Lib.hid he
    have ht : (((e1:Nat):Int) != 0) = true := by simp; omega
    clear he
    go_wp2_with fail
    go_region_held3 (fun w' => w'.cell? ⟨w.heap.size + 1, 1, none⟩ = some (.int .i64 (e1 : Int))) (go_keep) (fail)
    go_wp2_with fail
    have hbx := box3 HB5.out (.bool false) (.slice none 0 0) (.slice none 0 0)
    obtain ⟨W, hW⟩ : ∃ W, W = ((w5.setCell ⟨w.heap.size, 0, none⟩ (.bool false)).setCell ⟨w.heap.size, 1, none⟩ (.slice none 0 0)).setCell ⟨w.heap.size, 2, none⟩ (.slice none 0 0) := ⟨_, rfl⟩
    rw [← hW] at hbx ⊢
    obtain ⟨r0, r1, r2⟩ := cells3 hbx.at_
    have hlw : w.heap.size < W.heap.size := by rw [hbx.size]; exact h0
    refine bodyPost_ret (v := .tuple #[.agg #[.bool false, .slice none 0 0, .slice none 0 0], .int .i64 ((0 : Nat) : Int), .int .i64 e1]) (by simp [results, Try.results77, go_sem, r0, r1, r2, hlw]) rfl ?_
    exact ⟨false, none, 0, 0, none, 0, 0, 0, rfl, fun h => absurd h HE.out, fun _ => rfl, by
      have hy : y = .text [] := by have := rdItem_err 8 bs; rw [HR.out] at this; exact this HE.out
      rw [hy]; exact ⟨_, _, rfl, BytesAt.nil _ _, SliceAt.nil _ _ _ _⟩, ((HBL.out.trans (hbx.chg.toBelowAt (by omega) (fun k hk e => by omega))).alloc (by omega) _).drew⟩
end Go.Proofs.Ytndkkgkcbbmnpaa
namespace Go.Proofs.Ytndkkgkcbbmnpaa
open Go.RowKit Go.Pg

/-- an item, or an empty one and a fault -/
def Decd (F : World → Nat → Prop) (w : World) (r : Nat × It) (e : Ending) (w' : World) : Prop :=
  ∃ l a1 n1 c1 a3 n3 c3, e = .returned (.tuple #[.agg #[.bool l, .slice a1 n1 c1, .slice a3 n3 c3], .int .i64 r.1]) ∧
    ItemAt (F w) w' 9 [.bool l, .slice a1 n1 c1, .slice a3 n3 c3] r.2 ∧ Below w.heap.size w w'
def fresh (w : World) (b : Nat) : Prop := w.heap.size ≤ b

set_option maxRecDepth 100000 in
set_option maxHeartbeats 2000000 in
theorem decode_any (F0 : Nat → Prop) (w : World) (a : Option Addr) (n c : Nat) (bs : List UInt8) (h0 : BytesAt F0 w (.slice a n c) bs) (hn : n ≤ 140737488351232) :
    Calls Try.prog 47 #[.slice a n c] w (Decd fresh w (rdWhole bs)) := by
  have hnl : n = bs.length := by
    obtain ⟨a', c', hv, h1, -⟩ := h0
    simp only [Value.slice.injEq] at hv
    exact hv.2.1
  obtain ⟨e1, y, t, hr⟩ : ∃ e1 y t, rdItem 8 bs = (e1, y, t) := ⟨_, _, _, rfl⟩
  have hrw : rdWhole bs = if e1 ≠ 0 then (e1, .text []) else if t ≠ [] then (24, .text []) else (0, y) := by unfold rdWhole; rw [hr]
  have herr := rdItem_err 8 bs
  rw [hr] at herr
  have hcall := first_any F0 (w.alloc (.cells #[.bool false, .slice none 0 0, .slice none 0 0] 65)) a n c bs (BytesAt.below h0 (Bel.alloc (Bel.refl w) _)) hn
  rw [hr] at hcall
  have HC := Lib.hid hcall
  have HRW := Lib.hid hrw
  have HERR := Lib.hid herr
  have HNL := Lib.hid hnl
  clear h0 hnl hr hrw hcall herr
  go_enter Try.func47, Try.ntmps47
  go_wp2_with fail
  refine HC.out.mono ?_
  rintro e5 w5 ⟨l5, i1, y1, z1, i3, y3, z3, m, rfl, k1, k2, k3, k4⟩
  have hsz := k4.size
  simp only [World.size_alloc] at hsz
  have h0 : w.heap.size < w5.heap.size := by omega
  have hb5 := (k4.block w.heap.size (by simp)).trans (heap_alloc_new w _)
  have HB5 := Lib.hid hb5
  have K1 := Lib.hid k1
  have K2 := Lib.hid k2
  have K3 := Lib.hid k3
  have HBL := Lib.hid ((Bel.alloc (Bel.refl w) (.cells #[.bool false, .slice none 0 0, .slice none 0 0] 65)).trans (k4.mono (by simp)))
  obtain ⟨q0, q1, q2⟩ := cells3 hb5
  have f0 := frozen_of_row w5 w.heap.size 0 _ _ hb5
  have f1 := frozen_of_row w5 w.heap.size 1 _ _ hb5
  have f2 := frozen_of_row w5 w.heap.size 2 _ _ hb5
  clear hb5 k1 k2 k3 k4 hsz
  by_cases he : e1 = 0
  · subst he
    have hmn : m + t.length = n := K1.out rfl
    by_cases hlt : m < n
    · clear hmn
      go_wp2_with fail
      have hbx := box3 HB5.out (.bool false) (.slice none 0 0) (.slice none 0 0)
      obtain ⟨W, hW⟩ : ∃ W, W = ((w5.setCell ⟨w.heap.size, 0, none⟩ (.bool false)).setCell ⟨w.heap.size, 1, none⟩ (.slice none 0 0)).setCell ⟨w.heap.size, 2, none⟩ (.slice none 0 0) := ⟨_, rfl⟩
      rw [← hW] at hbx ⊢
      obtain ⟨r0, r1, r2⟩ := cells3 hbx.at_
      have hlw : w.heap.size < W.heap.size := by rw [hbx.size]; exact h0
      refine bodyPost_ret (v := .tuple #[.agg #[.bool false, .slice none 0 0, .slice none 0 0], .int .i64 ((24 : Nat) : Int)]) (by simp [results, Try.results47, go_sem, r0, r1, r2, hlw]) rfl ?_
      have ht : t ≠ [] := by intro h; have := K1.out trivial; rw [h] at this; simp at this; omega
      rw [HRW.out, if_neg (by simp), if_pos ht]
      exact ⟨false, none, 0, 0, none, 0, 0, rfl, ⟨_, _, rfl, BytesAt.nil _ _, SliceAt.nil _ _ _ _⟩, ((HBL.out.trans (hbx.chg.toBelowAt (by omega) (fun k hk e => by omega))).alloc (by omega) _)⟩
    · have ht : t = [] := List.eq_nil_of_length_eq_zero (by omega)
      have HT := Lib.hid ht
      clear ht hmn
      go_wp2_with fail
      have hbx := box3 HB5.out (.bool l5) (.slice i1 y1 z1) (.slice i3 y3 z3)
      obtain ⟨W, hW⟩ : ∃ W, W = ((w5.setCell ⟨w.heap.size, 0, none⟩ (.bool l5)).setCell ⟨w.heap.size, 1, none⟩ (.slice i1 y1 z1)).setCell ⟨w.heap.size, 2, none⟩ (.slice i3 y3 z3) := ⟨_, rfl⟩
      rw [← hW] at hbx ⊢
      obtain ⟨r0, r1, r2⟩ := cells3 hbx.at_
      have hlw : w.heap.size < W.heap.size := by rw [hbx.size]; exact h0
      refine bodyPost_ret (v := .tuple #[.agg #[.bool l5, .slice i1 y1 z1, .slice i3 y3 z3], .int .i64 ((0 : Nat) : Int)]) (by simp [results, Try.results47, go_sem, r0, r1, r2, hlw]) rfl ?_
      rw [HRW.out, if_neg (by simp), if_neg (by simp [HT.out])]
      refine ⟨l5, i1, y1, z1, i3, y3, z3, rfl, ?_, ((HBL.out.trans (hbx.chg.toBelowAt (by omega) (fun k hk e => by omega))).alloc (by omega) _)⟩
      refine K3.out.carry (fun b _ hb => Nat.le_trans (by simp) hb) (fun b hb hlt => ?_)
      have hb' : w.heap.size + 1 ≤ b := Nat.le_trans (by simp) hb
      rw [Below.heap_alloc _ _ _ (by rw [hbx.size]; exact hlt), hbx.other _ (by omega)]
  · have HE := Lib.hid he
    have hm : m = 0 := K2.out he
    have hy : y = .text [] := HERR.out he
    have ht : (((e1:Nat):Int) == 0) = false := by simp; omega
    have HY := Lib.hid hy
    subst hm
    clear he hy
    go_wp2_with fail
    have hbx := box3 HB5.out (.bool l5) (.slice i1 y1 z1) (.slice i3 y3 z3)
    obtain ⟨W, hW⟩ : ∃ W, W = ((w5.setCell ⟨w.heap.size, 0, none⟩ (.bool l5)).setCell ⟨w.heap.size, 1, none⟩ (.slice i1 y1 z1)).setCell ⟨w.heap.size, 2, none⟩ (.slice i3 y3 z3) := ⟨_, rfl⟩
    rw [← hW] at hbx ⊢
    obtain ⟨r0, r1, r2⟩ := cells3 hbx.at_
    have hlw : w.heap.size < W.heap.size := by rw [hbx.size]; exact h0
    refine bodyPost_ret (v := .tuple #[.agg #[.bool l5, .slice i1 y1 z1, .slice i3 y3 z3], .int .i64 (e1 : Int)]) (by simp [results, Try.results47, go_sem, r0, r1, r2, hlw]) rfl ?_
    rw [HRW.out, if_pos HE.out]
    refine ⟨l5, i1, y1, z1, i3, y3, z3, rfl, ?_, ((HBL.out.trans (hbx.chg.toBelowAt (by omega) (fun k hk e => by omega))).alloc (by omega) _)⟩
    have := K3.out
    rw [HY.out] at this
    refine this.carry (fun b _ hb => Nat.le_trans (by simp) hb) (fun b hb hlt => ?_)
    have hb' : w.heap.size + 1 ≤ b := Nat.le_trans (by simp) hb
    rw [Below.heap_alloc _ _ _ (by rw [hbx.size]; exact hlt), hbx.other _ (by omega)]
end Go.Proofs.Ytndkkgkcbbmnpaa
namespace Go.Pg
open Go.RowKit
/-- bytes that have just been laid -/
theorem OwnAt.lit (w : World) (e : TypeId) (cs : Array Value) (bs : List UInt8) (h : cs.toList = bs.map fun x => .int .u8 (x.toNat : Int)) (hl : bs.length ≤ maxLen) :
    OwnAt (w.alloc (.cells cs e)) w.heap.size e 1 byteR (.slice (some ⟨w.heap.size, 0, none⟩) bs.length bs.length) bs := by
  refine ⟨cs.toList, World.ownsRow_lit w cs bs.length (Nat.le_refl _) hl (by rw [← Array.length_toList, h]; simp), by rw [h]; simp, fun i x hx => ?_⟩
  refine ⟨[.int .u8 (x.toNat : Int)], rfl, rfl, fun j u hu => ?_⟩
  match j, hu with
  | 0, hu =>
    simp at hu; subst hu
    rw [h]; simp [hx]
theorem toNat_ofNat_lt (n : Nat) (h : n < 256) : (((UInt8.ofNat n).toNat : Nat) : Int) = (n : Int) := by
  rw [UInt8.toNat_ofNat', Nat.mod_eq_of_lt (by omega)]
theorem headB_1 (base n : Nat) (h : n ≤ 55) : headB base n = [UInt8.ofNat (base + n)] := by unfold headB; rw [if_pos h]
theorem number_1 (n : Nat) (h0 : 0 < n) (h : n < 256) : number n = 1 := by
  rw [number_pos h0, show n / 256 = 0 by omega, number_zero]
theorem number_2 (n : Nat) (h0 : 256 ≤ n) (h : n < 65536) : number n = 2 := by
  rw [number_pos (by omega), number_1 _ (by omega) (by omega)]
theorem number_3 (n : Nat) (h0 : 65536 ≤ n) (h : n < 16777216) : number n = 3 := by
  rw [number_pos (by omega), number_2 _ (by omega) (by omega)]
theorem headB_2 (base n : Nat) (h0 : 55 < n) (h : n < 256) : headB base n = [UInt8.ofNat (base + 56), UInt8.ofNat n] := by
  unfold headB; rw [if_neg (by omega), number_1 n (by omega) h]
  simp only [beBytes, List.nil_append]
  rw [show n % 256 = n by omega]
theorem headB_3 (base n : Nat) (h0 : 256 ≤ n) (h : n < 65536) : headB base n = [UInt8.ofNat (base + 57), UInt8.ofNat (n / 256), UInt8.ofNat (n % 256)] := by
  unfold headB; rw [if_neg (by omega), number_2 n (by omega) h]
  simp only [beBytes, List.nil_append, List.cons_append]
  rw [show n / 256 % 256 = n / 256 by omega]
theorem headB_4 (base n : Nat) (h0 : 65536 ≤ n) (h : n < 16777216) : headB base n = [UInt8.ofNat (base + 58), UInt8.ofNat (n / 65536), UInt8.ofNat (n / 256 % 256), UInt8.ofNat (n % 256)] := by
  unfold headB; rw [if_neg (by omega), number_3 n (by omega) h]
  simp only [beBytes, List.nil_append, List.cons_append]
  rw [show n / 256 / 256 = n / 65536 by omega, show n / 65536 % 256 = n / 65536 by omega]
end Go.Pg
namespace Go.Proofs.Ytndkkgkcbbmnpaa
open Go.RowKit Go.Pg

set_option maxRecDepth 100000 in
set_option maxHeartbeats 1000000 in
theorem head_any (base n : Nat) (w : World) (hb : base ≤ 192) (hn : n < 16777216) :
    Calls Try.prog 93 #[.int .i64 base, .int .i64 n] w (Fresh w 5 1 byteR (headB base n)) := by
  by_cases h1 : n ≤ 55
  · have e := headB_1 base n h1
    rw [e]
    go_enter Try.func93, Try.ntmps93
    go_wp2
    go_ret
    exact ⟨_, rfl, OwnAt.lit w _ _ [UInt8.ofNat (base + n)] (by simp only [List.map_cons, List.map_nil]; rw [toNat_ofNat_lt _ (by omega)]; rfl) (show 1 ≤ maxLen by decide), Bel.alloc (Bel.refl w) _⟩
  · by_cases h2 : n < 256
    · have e := headB_2 base n (by omega) h2
      rw [e]
      go_enter Try.func93, Try.ntmps93
      go_wp2
      go_ret
      exact ⟨_, rfl, OwnAt.lit w _ _ [UInt8.ofNat (base + 56), UInt8.ofNat n] (by simp only [List.map_cons, List.map_nil]; rw [toNat_ofNat_lt _ (by omega), toNat_ofNat_lt _ (by omega)]; rfl) (show 2 ≤ maxLen by decide), Bel.alloc (Bel.refl w) _⟩
    · by_cases h3 : n < 65536
      · have e := headB_3 base n (by omega) h3
        have HE := Lib.hid e
        have H2 := Lib.hid h2
        have H3 := Lib.hid h3
        have HN := Lib.hid hn
        have z1 : ¬ (n : Int) ≤ 55 := by omega
        have z2 : ¬ (n : Int) < 256 := by omega
        have z3 : (0 : Int) ≤ n := by omega
        have z4 : (n : Int) < 65536 := by omega
        clear h1 h2 h3 hn e
        go_enter Try.func93, Try.ntmps93
        go_wp2
        go_ret
        have h2 := H2.out
        have h3 := H3.out
        have hn := HN.out
        have hq := OwnAt.lit w 5 #[.int .u8 ((base : Int) + 57), .int .u8 ((n : Int) / 256), .int .u8 ((n : Int) % 256)] [UInt8.ofNat (base + 57), UInt8.ofNat (n / 256), UInt8.ofNat (n % 256)] (by simp only [List.map_cons, List.map_nil]; rw [toNat_ofNat_lt _ (by omega), toNat_ofNat_lt _ (by omega), toNat_ofNat_lt _ (by omega)]; rfl) (show 3 ≤ maxLen by decide)
        rw [HE.out]
        exact ⟨.slice (some ⟨w.heap.size, 0, none⟩) 3 3, rfl, hq, Bel.alloc (Bel.refl w) _⟩
      · have e := headB_4 base n (by omega) hn
        have HE := Lib.hid e
        have H2 := Lib.hid h2
        have H3 := Lib.hid h3
        have HN := Lib.hid hn
        have z1 : ¬ (n : Int) ≤ 55 := by omega
        have z2 : ¬ (n : Int) < 256 := by omega
        have z3 : ¬ (n : Int) < 65536 := by omega
        have z4 : (n : Int) < 16777216 := by omega
        clear h1 h2 h3 hn e
        go_enter Try.func93, Try.ntmps93
        go_wp2
        go_ret
        have h2 := H2.out
        have h3 := H3.out
        have hn := HN.out
        have hq := OwnAt.lit w 5 #[.int .u8 ((base : Int) + 58), .int .u8 ((n : Int) / 65536), .int .u8 ((n : Int) / 256 % 256), .int .u8 ((n : Int) % 256)] [UInt8.ofNat (base + 58), UInt8.ofNat (n / 65536), UInt8.ofNat (n / 256 % 256), UInt8.ofNat (n % 256)] (by simp only [List.map_cons, List.map_nil]; rw [toNat_ofNat_lt _ (by omega), toNat_ofNat_lt _ (by omega), toNat_ofNat_lt _ (by omega), toNat_ofNat_lt _ (by omega)]; rfl) (show 4 ≤ maxLen by decide)
        rw [HE.out]
        exact ⟨.slice (some ⟨w.heap.size, 0, none⟩) 4 4, rfl, hq, Bel.alloc (Bel.refl w) _⟩

end Go.Proofs.Ytndkkgkcbbmnpaa
namespace Go.Pg
theorem triple {A B C : Type} (p : A × B × C) : ∃ a b c, p = (a, b, c) := ⟨p.1, p.2.1, p.2.2, rfl⟩
theorem beBytes_beNum_snoc (l : List UInt8) (c : UInt8) (h : beBytes l.length (beNum l) = l) : beBytes (l ++ [c]).length (beNum (l ++ [c])) = l ++ [c] := by
  have hc := c.toNat_lt
  rw [beNum_snoc, List.length_append, List.length_singleton]
  simp only [beBytes]
  rw [show (beNum l * 256 + c.toNat) / 256 = beNum l by omega, show (beNum l * 256 + c.toNat) % 256 = c.toNat by omega, h]
  simp
theorem beBytes_beNum (l : List UInt8) : beBytes l.length (beNum l) = l := by
  have : ∀ r : List UInt8, beBytes r.reverse.length (beNum r.reverse) = r.reverse := by
    intro r
    induction r with
    | nil => rfl
    | cons c r ih => rw [List.reverse_cons]; exact beBytes_beNum_snoc _ _ ih
  have h := this l.reverse
  rwa [List.reverse_reverse] at h
theorem beNum_beBytes (k : Nat) : ∀ n, n < 256 ^ k → beNum (beBytes k n) = n := by
  induction k with
  | zero => intro n h; have : n = 0 := by simpa using h
            subst this; rfl
  | succ k ih =>
    intro n h
    simp only [beBytes]
    rw [beNum_snoc, ih (n / 256) (by rw [Nat.pow_succ] at h; omega), UInt8.toNat_ofNat', Nat.mod_eq_of_lt (a := n % 256) (by omega)]
    omega
theorem foldl_ge (l : List UInt8) : ∀ a : Nat, a * 256 ^ l.length ≤ l.foldl (fun n c => n * 256 + c.toNat) a := by
  induction l with
  | nil => intro a; simp
  | cons c l ih =>
    intro a
    have h1 := ih (a * 256 + c.toNat)
    simp only [List.foldl_cons, List.length_cons, Nat.pow_succ]
    have h3 : (a * 256) * 256 ^ l.length ≤ (a * 256 + c.toNat) * 256 ^ l.length := Nat.mul_le_mul_right _ (by omega)
    have h4 : a * (256 ^ l.length * 256) = (a * 256) * 256 ^ l.length := by rw [Nat.mul_comm (256 ^ l.length), Nat.mul_assoc]
    omega
theorem beNum_ge (c : UInt8) (l : List UInt8) (h : c ≠ 0) : 256 ^ l.length ≤ beNum (c :: l) := by
  have h1 := foldl_ge l (0 * 256 + c.toNat)
  have h2 : 1 ≤ c.toNat := by
    have : c.toNat ≠ 0 := fun e => h (UInt8.toNat_inj.1 (by simpa using e))
    omega
  have h3 : 1 * 256 ^ l.length ≤ (0 * 256 + c.toNat) * 256 ^ l.length := Nat.mul_le_mul_right _ (by omega)
  show _ ≤ List.foldl _ 0 (c :: l)
  simp only [List.foldl_cons]; omega
theorem number_ge (k : Nat) : ∀ n, 256 ^ k ≤ n → k + 1 ≤ number n := by
  induction k with
  | zero => intro n h; rw [number_pos (by simp at h; omega)]; omega
  | succ k ih =>
    intro n h
    have h0 : 0 < 256 ^ (k + 1) := Nat.pow_pos (by omega)
    rw [number_pos (by omega)]
    have := ih (n / 256) (by rw [Nat.pow_succ] at h; omega)
    omega
theorem number_eq (k n : Nat) (h1 : 256 ^ k ≤ n) (h2 : n < 256 ^ (k + 1)) : number n = k + 1 := by
  have := number_ge k n h1
  have := number_le (k + 1) n h2
  omega

/-- a size that was read is the one that is written -/
theorem readSize_sound (base m n : Nat) (t t' : List UInt8) (h : readSize m t = (0, n, t')) : UInt8.ofNat (base + m) :: t = headB base n ++ t' ∧ n ≤ 16777215 := by
  unfold readSize at h
  by_cases h55 : m ≤ 55
  · rw [if_pos h55] at h
    simp only [Prod.mk.injEq, true_and] at h
    obtain ⟨rfl, rfl⟩ := h
    unfold headB; rw [if_pos h55]; exact ⟨rfl, by omega⟩
  · rw [if_neg h55] at h
    by_cases h58 : 58 < m
    · rw [if_pos h58] at h; simp at h
    · rw [if_neg h58] at h
      by_cases hl : t.length < m - 55
      · rw [if_pos hl] at h; simp at h
      · rw [if_neg hl] at h
        obtain ⟨k, rfl⟩ : ∃ k, m = k + 56 := ⟨m - 56, by omega⟩
        rw [show k + 56 - 55 = k + 1 by omega] at h hl
        split at h
        · simp at h
        · rename_i hc
          simp only [Prod.mk.injEq, true_and] at h
          obtain ⟨rfl, rfl⟩ := h
          have hlen : (t.take (k + 1)).length = k + 1 := by rw [List.length_take]; omega
          cases t with
          | nil => simp at hl
          | cons c s =>
            have hc0 : c ≠ 0 := fun e => hc (.inl (by simpa using e))
            have hn55 : ¬ beNum ((c :: s).take (k + 1)) ≤ 55 := fun e => hc (.inr e)
            have hlo : 256 ^ k ≤ beNum ((c :: s).take (k + 1)) := by
              have := beNum_ge c (s.take k) hc0
              rw [List.length_take] at this
              simp only [List.length_cons] at hl
              rwa [Nat.min_eq_left (by omega)] at this
            have hhi := beNum_lt ((c :: s).take (k + 1))
            rw [hlen] at hhi
            have hnum := number_eq k _ hlo hhi
            have hb := beBytes_beNum ((c :: s).take (k + 1))
            rw [hlen] at hb
            refine ⟨?_, ?_⟩
            · unfold headB
              rw [if_neg hn55, hnum, hb, show base + (k + 56) = base + 55 + (k + 1) by omega, List.cons_append, List.take_append_drop]
            · have : 256 ^ (k + 1) ≤ 256 ^ 3 := Nat.pow_le_pow_right (by omega) (by omega)
              omega
/-- what is written of a size is read -/
theorem readSize_head (base n : Nat) (t : List UInt8) (h : n ≤ 16777215) : ∃ m s, m ≤ 58 ∧ headB base n ++ t = UInt8.ofNat (base + m) :: s ∧ readSize m s = (0, n, t) := by
  by_cases h55 : n ≤ 55
  · refine ⟨n, t, by omega, by unfold headB; rw [if_pos h55]; rfl, by unfold readSize; rw [if_pos h55]⟩
  · have hn3 : number n ≤ 3 := number_le 3 n (by omega)
    have hk : ∃ k, number n = k + 1 := ⟨number n - 1, by rw [number_pos (by omega)]; omega⟩
    obtain ⟨k, hk⟩ := hk
    have hlt : n < 256 ^ (k + 1) := by
      by_cases h : n < 256 ^ (k + 1)
      · exact h
      · have := number_ge (k + 1) n (by omega); omega
    have hge : 256 ^ k ≤ n := by
      by_cases h : 256 ^ k ≤ n
      · exact h
      · have := number_le k n (by omega); omega
    have hbl := beBytes_length (k + 1) n
    refine ⟨55 + (k + 1), beBytes (k + 1) n ++ t, by omega, by unfold headB; rw [if_neg h55, hk, show base + 55 + (k + 1) = base + (55 + (k + 1)) by omega]; rfl, ?_⟩
    unfold readSize
    rw [if_neg (by omega), if_neg (by omega), show 55 + (k + 1) - 55 = k + 1 by omega, if_neg (by rw [List.length_append]; omega), List.take_append_of_le_length (by omega), List.drop_append_of_le_length (by omega),
      List.take_of_length_le (by omega), List.drop_of_length_le (by omega), beNum_beBytes _ _ hlt, if_neg]
    · rfl
    · rintro (h0 | h0)
      · have hh : beBytes (k + 1) n = [] ∨ ∃ c s, beBytes (k + 1) n = c :: s := by
          cases beBytes (k + 1) n with
          | nil => exact .inl rfl
          | cons c s => exact .inr ⟨c, s, rfl⟩
        rcases hh with e | ⟨c, s, e⟩
        · rw [e] at hbl; simp at hbl
        · rw [e] at h0
          simp at h0
          subst h0
          have e2 := beNum_beBytes (k + 1) n hlt
          rw [e] at e2
          have e3 : beNum ((0 : UInt8) :: s) = beNum s := by simp [beNum]
          have e4 := beNum_lt s
          have e5 : s.length = k := by rw [e] at hbl; simpa using hbl
          rw [e5] at e4
          omega
      · omega

/-- items that have an encoding: so many lists in one another, bodies not too long -/
def It.fits : Nat → It → Prop
  | _, .text b => b.length ≤ 16777215
  | 0, .list _ => False
  | f + 1, .list l => It.wholes l ≤ 16777215 ∧ ∀ y, y ∈ l → It.fits f y

theorem rdAll_sound (rd : List UInt8 → Nat × It × List UInt8) (P : It → Prop) (hs : ∀ bs x r, rd bs = (0, x, r) → bs = x.enc ++ r ∧ P x) :
    ∀ (k : Nat) (L : List UInt8) (l : List It), rdAll rd k L = (0, l) → L.length ≤ k → L = It.encs l ∧ ∀ y, y ∈ l → P y := by
  intro k
  induction k with
  | zero =>
    intro L l h hl
    have : L = [] := List.eq_nil_of_length_eq_zero (by omega)
    subst this
    simp only [rdAll, Prod.mk.injEq, true_and] at h
    subst h
    exact ⟨rfl, fun y hy => by cases hy⟩
  | succ k ih =>
    intro L l h hl
    simp only [rdAll] at h
    by_cases h0 : L = []
    · rw [if_pos h0] at h
      simp only [Prod.mk.injEq, true_and] at h
      subst h h0
      exact ⟨rfl, fun y hy => by cases hy⟩
    · rw [if_neg h0] at h
      by_cases he : (rd L).1 = 0
      · rw [if_neg (by simpa using he)] at h
        simp only [Prod.mk.injEq] at h
        obtain ⟨h1, rfl⟩ := h
        obtain ⟨e1, e2⟩ := hs L (rd L).2.1 (rd L).2.2 (by rw [← he])
        have hpos := It.whole_pos (rd L).2.1
        have hlen : L.length = ((rd L).2.1.enc ++ (rd L).2.2).length := by rw [← e1]
        rw [List.length_append, It.enc_length] at hlen
        obtain ⟨e3, e4⟩ := ih (rd L).2.2 _ (by rw [← h1]) (by omega)
        refine ⟨by rw [It.encs, ← e3]; exact e1, fun y hy => ?_⟩
        rcases List.mem_cons.1 hy with rfl | hy
        · exact e2
        · exact e4 y hy
      · rw [if_pos he] at h
        simp only [Prod.mk.injEq] at h
        exact absurd h.1 he
theorem rdAll_back (rd : List UInt8 → Nat × It × List UInt8) (l : List It) (hs : ∀ x, x ∈ l → ∀ r, rd (x.enc ++ r) = (0, x, r)) :
    ∀ (k : Nat), (It.encs l).length ≤ k → rdAll rd k (It.encs l) = (0, l) := by
  induction l with
  | nil => intro k _; cases k <;> simp [rdAll, It.encs]
  | cons x l ih =>
    intro k hk
    have hpos := It.whole_pos x
    have hne : It.encs (x :: l) ≠ [] := by
      intro e
      have := congrArg List.length e
      rw [It.encs_length, It.wholes] at this
      simp at this; omega
    have hle : (It.encs (x :: l)).length = x.whole + (It.encs l).length := by rw [It.encs_length, It.wholes, It.encs_length]
    cases k with
    | zero => omega
    | succ k =>
      simp only [rdAll]
      rw [if_neg hne]
      have h1 := hs x (List.mem_cons_self ..) (It.encs l)
      have h2 := ih (fun y hy => hs y (List.mem_cons_of_mem _ hy)) k (by omega)
      simp only [It.encs, h1, h2]
      rfl

theorem rdItem_sound (f : Nat) : ∀ (bs : List UInt8) (x : It) (r : List UInt8), rdItem f bs = (0, x, r) → bs = x.enc ++ r ∧ It.fits f x := by
  induction f with
  | zero =>
    intro bs x r h
    cases bs with
    | nil => simp [rdItem] at h
    | cons c t => exact rdItem_sound_text 0 c t x r h (fun h1 h2 => by
        have : rdItem 0 (c :: t) = (21, .text [], []) := by unfold rdItem; rw [if_neg h1, if_neg h2]
        rw [this] at h; simp at h)
  | succ f ih =>
    intro bs x r h
    cases bs with
    | nil => simp [rdItem] at h
    | cons c t => exact rdItem_sound_text (f + 1) c t x r h (fun h1 h2 => by
        have hr : rdItem (f + 1) (c :: t) = rdList (rdItem f) (readSize (c.toNat - 192) t) := by rw [rdItem, if_neg h1, if_neg h2]
        rw [hr] at h
        obtain ⟨e1, n, t', hs⟩ := triple (readSize (c.toNat - 192) t)
        rw [hs] at h
        unfold rdList at h
        by_cases he : e1 = 0
        · subst he
          rw [if_neg (by simp)] at h
          by_cases hn : t'.length < n
          · rw [if_pos hn] at h; simp at h
          · rw [if_neg hn] at h
            simp only at h hn
            obtain ⟨l, e2, hl⟩ : ∃ l e2, rdAll (rdItem f) n (t'.take n) = (e2, l) := ⟨_, _, rfl⟩
            rw [hl] at h
            by_cases h2 : e2 = 0
            · subst h2
              rw [if_neg (by simp)] at h
              simp only [Prod.mk.injEq, true_and] at h
              obtain ⟨rfl, rfl⟩ := h
              have htl : (t'.take n).length = n := by rw [List.length_take]; omega
              obtain ⟨g1, g2⟩ := rdAll_sound (rdItem f) (It.fits f) ih n _ l hl (by omega)
              obtain ⟨g3, g4⟩ := readSize_sound 192 _ _ _ _ hs
              have hw : It.wholes l = n := by rw [← It.encs_length, ← g1, htl]
              refine ⟨?_, by rw [hw]; exact g4, g2⟩
              rw [It.enc, ← g1, htl, List.append_assoc, List.take_append_drop, ← g3, show 192 + (c.toNat - 192) = c.toNat by omega, UInt8.ofNat_toNat]
            · rw [if_pos (by simpa using h2)] at h
              simp only [Prod.mk.injEq] at h
              exact absurd h.1 h2
        · rw [if_pos (by simpa using he)] at h
          simp only [Prod.mk.injEq] at h
          exact absurd h.1 he)
where
  rdItem_sound_text (f : Nat) (c : UInt8) (t : List UInt8) (x : It) (r : List UInt8) (h : rdItem f (c :: t) = (0, x, r)) (hl : ¬ c.toNat < 128 → ¬ c.toNat < 192 → c :: t = x.enc ++ r ∧ It.fits f x) : c :: t = x.enc ++ r ∧ It.fits f x := by
    by_cases h1 : c.toNat < 128
    · have hr : rdItem f (c :: t) = (0, .text [c], t) := by unfold rdItem; rw [if_pos h1]
      rw [hr] at h
      simp only [Prod.mk.injEq, true_and] at h
      obtain ⟨rfl, rfl⟩ := h
      have hp : plainB [c] = true := by unfold plainB; simp; exact h1
      refine ⟨by rw [It.enc, if_pos hp]; rfl, ?_⟩
      unfold It.fits; simp
    · by_cases h2 : c.toNat < 192
      · have hr : rdItem f (c :: t) = rdText (readSize (c.toNat - 128) t) := by unfold rdItem; rw [if_neg h1, if_pos h2]
        rw [hr] at h
        obtain ⟨e1, n, t', hs⟩ := triple (readSize (c.toNat - 128) t)
        rw [hs] at h
        unfold rdText at h
        by_cases he : e1 = 0
        · subst he
          rw [if_neg (by simp)] at h
          by_cases hn : t'.length < n
          · rw [if_pos hn] at h; simp at h
          · rw [if_neg hn] at h
            by_cases hb : n = 1 ∧ (t'.headD 0).toNat < 128
            · rw [if_pos hb] at h; simp at h
            · rw [if_neg hb] at h
              simp only [Prod.mk.injEq, true_and] at h hn
              obtain ⟨rfl, rfl⟩ := h
              have htl : (t'.take n).length = n := by rw [List.length_take]; omega
              obtain ⟨g3, g4⟩ := readSize_sound 128 _ _ _ _ hs
              have hp : plainB (t'.take n) = false := by
                cases hpp : plainB (t'.take n) with
                | false => rfl
                | true =>
                  unfold plainB at hpp
                  rw [htl] at hpp
                  simp only [Bool.and_eq_true, beq_iff_eq, decide_eq_true_eq] at hpp
                  obtain ⟨rfl, h3⟩ := hpp
                  refine absurd ⟨rfl, ?_⟩ hb
                  cases t' with
                  | nil => simp at hn
                  | cons y s => simpa using h3
              refine ⟨?_, ?_⟩
              · rw [It.enc, if_neg (by simp [hp]), htl, List.append_assoc, List.take_append_drop, ← g3, show 128 + (c.toNat - 128) = c.toNat by omega, UInt8.ofNat_toNat]
              · unfold It.fits; rw [htl]; exact g4
        · rw [if_pos (by simpa using he)] at h
          simp only [Prod.mk.injEq] at h
          exact absurd h.1 he
      · exact hl h1 h2
theorem rdItem_back : ∀ (f : Nat) (x : It) (r : List UInt8), It.fits f x → rdItem f (x.enc ++ r) = (0, x, r)
  | f, .text b, r, h => by
    have hb : b.length ≤ 16777215 := by unfold It.fits at h; exact h
    rw [It.enc]
    by_cases hp : plainB b = true
    · rw [if_pos hp]
      unfold plainB at hp
      simp only [Bool.and_eq_true, beq_iff_eq, decide_eq_true_eq] at hp
      match b, hp with
      | [c], hp => 
        have h1 : c.toNat < 128 := by simpa using hp.2
        show rdItem f (c :: r) = _
        unfold rdItem; rw [if_pos h1]
    · rw [if_neg hp, List.append_assoc]
      obtain ⟨m, s, hm, e1, e2⟩ := readSize_head 128 b.length (b ++ r) hb
      rw [e1]
      have hc : (UInt8.ofNat (128 + m)).toNat = 128 + m := by rw [UInt8.toNat_ofNat', Nat.mod_eq_of_lt (by omega)]
      have : rdItem f (UInt8.ofNat (128 + m) :: s) = rdText (readSize ((UInt8.ofNat (128 + m)).toNat - 128) s) := by unfold rdItem; rw [if_neg (by omega), if_pos (by omega)]
      rw [this, hc, Nat.add_sub_cancel_left, e2]
      unfold rdText
      rw [if_neg (by simp), if_neg (by simp), if_neg]
      · simp
      · rintro ⟨h1, h2⟩
        simp only at h1 h2
        refine hp ?_
        unfold plainB
        match b, h1 with
        | [c], _ => simpa using h2
  | 0, .list l, r, h => by unfold It.fits at h; exact h.elim
  | f + 1, .list l, r, h => by
    unfold It.fits at h
    obtain ⟨hw, hall⟩ := h
    rw [It.enc, List.append_assoc]
    have hel := It.encs_length l
    obtain ⟨m, s, hm, e1, e2⟩ := readSize_head 192 (It.encs l).length (It.encs l ++ r) (by omega)
    rw [e1]
    have hc : (UInt8.ofNat (192 + m)).toNat = 192 + m := by rw [UInt8.toNat_ofNat', Nat.mod_eq_of_lt (by omega)]
    have : rdItem (f + 1) (UInt8.ofNat (192 + m) :: s) = rdList (rdItem f) (readSize ((UInt8.ofNat (192 + m)).toNat - 192) s) := by rw [rdItem, if_neg (by omega), if_neg (by omega)]
    rw [this, hc, Nat.add_sub_cancel_left, e2]
    have hr := rdAll_back (rdItem f) l (fun x hx r' => rdItem_back f x r' (hall x hx)) (It.encs l).length (Nat.le_refl _)
    unfold rdList
    simp only [List.take_left', List.drop_left']
    rw [if_neg (by simp), if_neg (by simp), hr]
    simp
/-- bytes that are read whole are the item's encoding -/
theorem rdWhole_sound (bs : List UInt8) (x : It) (h : rdWhole bs = (0, x)) : bs = x.enc ∧ It.fits 8 x := by
  unfold rdWhole at h
  obtain ⟨e, y, r, hr⟩ := triple (rdItem 8 bs)
  rw [hr] at h
  by_cases he : e = 0
  · subst he
    rw [if_neg (by simp)] at h
    by_cases hr0 : r = []
    · subst hr0
      rw [if_neg (by simp)] at h
      simp only [Prod.mk.injEq, true_and] at h
      subst h
      have := rdItem_sound 8 bs y [] hr
      rwa [List.append_nil] at this
    · rw [if_pos hr0] at h; simp at h
  · rw [if_pos he] at h
    simp only [Prod.mk.injEq] at h
    exact absurd h.1 he
theorem rdWhole_back (x : It) (h : It.fits 8 x) : rdWhole x.enc = (0, x) := by
  have := rdItem_back 8 x [] h
  rw [List.append_nil] at this
  unfold rdWhole
  rw [this]; simp
theorem enc_inj (x y : It) (hx : It.fits 8 x) (hy : It.fits 8 y) (h : x.enc = y.enc) : x = y := by
  have h1 := rdWhole_back x hx
  rw [h, rdWhole_back y hy] at h1
  simpa using h1.symm
end Go.Pg
namespace Go.Pg
open Go.RowKit
/-- the bytes from one place up to another -/
def seg (B : List UInt8) (p e : Nat) : List UInt8 := (B.take e).drop p
theorem seg_nil (B : List UInt8) (p e : Nat) (h : e ≤ p) : seg B p e = [] := by
  unfold seg; apply List.drop_of_length_le; rw [List.length_take]; omega
theorem seg_len (B : List UInt8) (p e : Nat) (h : e ≤ B.length) : (seg B p e).length = e - p := by
  unfold seg; rw [List.length_drop, List.length_take]; omega
theorem seg_drop (B : List UInt8) (p e k : Nat) : (seg B p e).drop k = seg B (p + k) e := by
  unfold seg; rw [List.drop_drop]
theorem seg_take (B : List UInt8) (p e k : Nat) (h : p + k ≤ e) : (seg B p e).take k = seg B p (p + k) := by
  unfold seg
  rw [List.take_drop, List.take_take, Nat.min_eq_left h]
theorem seg_get (B : List UInt8) (p e i : Nat) (h : p + i < e) : (seg B p e)[i]? = B[p + i]? := by
  unfold seg
  rw [List.getElem?_drop, List.getElem?_take, if_pos h]
theorem seg_cons (B : List UInt8) (p e : Nat) (h : p < e) (he : e ≤ B.length) : seg B p e = B[p]'(by omega) :: seg B (p + 1) e := by
  unfold seg
  rw [List.drop_eq_getElem_cons (by rw [List.length_take]; omega), List.getElem_take]
theorem seg_getD (B : List UInt8) (p e : Nat) (h : p < e) (he : e ≤ B.length) : seg B p e = B.getD p 0 :: seg B (p + 1) e := by
  rw [seg_cons B p e h he, List.getD_eq_getElem?_getD, List.getElem?_eq_getElem (by omega)]; rfl
theorem BytesAt.cellD {F : Nat → Prop} {w : World} {b o n c : Nat} {bs : List UInt8} (h : BytesAt F w (.slice (some ⟨b, o, none⟩) n c) bs) (i : Nat) (hi : i < bs.length) : w.cell? ⟨b, o + i, none⟩ = some (.int .u8 ((bs.getD i 0).toNat : Int)) := by
  rw [BytesAt.cell h i hi, List.getD_eq_getElem?_getD, List.getElem?_eq_getElem hi]; rfl
theorem seg_all (B : List UInt8) : seg B 0 B.length = B := by unfold seg; simp
theorem addr_map_add (b o k : Nat) : (some (⟨b, o, none⟩ : Addr)).map (·.add k) = some ⟨b, o + k, none⟩ := by
  simp only [Option.map_some, Option.some.injEq]
  unfold Addr.add; split <;> simp_all
/-- b[lo:hi] -/
theorem BytesAt.seg {F : Nat → Prop} {w : World} {a a2 : Option Addr} {n c : Nat} {bs : List UInt8} (h : BytesAt F w (.slice a n c) bs) (lo hi : Nat) (hl : lo ≤ hi) (hk : hi ≤ n) (ha2 : (if c = lo then a else a.map (·.add lo)) = a2) :
    BytesAt F w (.slice a2 (hi - lo) (c - lo)) (seg bs lo hi) :=
  BytesAt.since (BytesAt.upto h hi hk) lo hl ha2
theorem BytesAt.n {F : Nat → Prop} {w : World} {a : Option Addr} {n c : Nat} {bs : List UInt8} (h : BytesAt F w (.slice a n c) bs) : n = bs.length ∧ n ≤ c ∧ c ≤ maxLen := by
  obtain ⟨a', c', hv, h1, h2, -⟩ := h
  simp only [Value.slice.injEq] at hv
  obtain ⟨-, rfl, rfl⟩ := hv
  exact ⟨rfl, h1, h2⟩
end Go.Pg
namespace Go.Proofs.Ytndkkgkcbbmnpaa
open Go.RowKit Go.Pg

set_option maxRecDepth 100000 in
set_option maxHeartbeats 400000 in
theorem copied_any (F : Nat → Prop) (w : World) (v : Value) (bs : List UInt8) (h : BytesAt F w v bs) (hlen : bs.length ≤ 140737488351232) :
    Calls Try.prog 111 #[v] w (Fresh w 5 1 byteR bs) := by
  obtain ⟨i0, hi, hz0, hz1, hz2⟩ := info_parts infoU8
  have hle : (([] : List UInt8).length + bs.length) * 1 ≤ 140737488355328 := by simp; omega
  go_enter Try.func111, Try.ntmps111
  go_wp2_with (at_builtin; refine wpList_append_at rfl (.tmp 4) (.tmp 5) 25 rfl w.heap.size 5 i0 (.int .u8 0) 1 1 underlying25 hi hz0 hz1 hz2 rfl (by decide) (by decide) byteR.one (.slice none 0 0) [] rfl (OwnAt.nil _ _ _ _ _) _ bs F rfl h hle (Nat.le_refl _) ?_; intro v' w2 ho hg hm)
  have HO := Lib.hid ho
  have HG := Lib.hid hg
  clear ho hg hm
  go_wp2
  go_ret
  exact ⟨v', rfl, by simpa using HO.out, (Below.refl _ _).grown HG.out (Nat.le_refl _) (fun k hk => by simp [Value.ownBlock] at hk)⟩
end Go.Proofs.Ytndkkgkcbbmnpaa
namespace Go.Pg
open Go.RowKit
/-- what bytes say as a word: the number, and whether they are a word's -/
def readWord (bs : List UInt8) : Nat × Bool := if 8 < bs.length ∨ bs.head? = some 0 then (0, false) else (beNum bs, true)
end Go.Pg
namespace Go.Proofs.Ytndkkgkcbbmnpaa
open Go.RowKit Go.Pg

set_option maxRecDepth 100000 in
set_option maxHeartbeats 1000000 in
theorem wread_any (F : Nat → Prop) (w : World) (a : Option Addr) (n c : Nat) (bs : List UInt8) (h : BytesAt F w (.slice a n c) bs) :
    Calls Try.prog 82 #[.slice a n c] w fun e w' => e = .returned (.tuple #[.int .u64 (readWord bs).1, .bool (readWord bs).2]) ∧ w = w' := by
  obtain ⟨hn, -, -⟩ := BytesAt.n h
  by_cases h8 : 8 < n
  · have hr : readWord bs = (0, false) := by unfold readWord; rw [if_pos (.inl (by omega))]
    rw [hr]
    have HN := Lib.hid hn
    have H := Lib.hid h
    have hn8 : (8 : Int) < (n : Int) := by omega
    clear hr hn h h8
    go_enter Try.func82, Try.ntmps82
    go_wp2
    go_ret2
    exact ⟨rfl, rfl⟩
  · by_cases hz : bs.head? = some 0
    · have hr : readWord bs = (0, false) := by unfold readWord; rw [if_pos (.inr hz)]
      obtain ⟨t, rfl⟩ : ∃ t, bs = 0 :: t := by
        cases bs with
        | nil => cases hz
        | cons x t => simp at hz; subst hz; exact ⟨t, rfl⟩
      rw [hr]
      rcases SliceAt.split h with ⟨h0, _⟩ | ⟨b, o, rfl, -, hp, -⟩
      · cases h0
      have hc := BytesAt.cell h 0 (by simp)
      simp only [Nat.add_zero, List.getElem_cons_zero] at hc
      have hn8 : (n : Int) ≤ 8 := by omega
      clear hr hn h h8 hz
      go_enter Try.func82, Try.ntmps82
      go_wp2
      go_ret2
      exact ⟨rfl, rfl⟩
    · have hr : readWord bs = (beNum bs, true) := by
        unfold readWord; rw [if_neg]
        rintro (h1 | h1)
        · omega
        · exact hz h1
      have hpath : n = 0 ∨ (0 < n ∧ ∃ b o x, a = some ⟨b, o, none⟩ ∧ w.cell? ⟨b, o, none⟩ = some (.int .u8 ((x : Nat) : Int)) ∧ 0 < x) := by
        rcases SliceAt.split h with ⟨h0, h1⟩ | ⟨b, o, rfl, -, hp, -⟩
        · exact .inl h1
        · cases bs with
          | nil => simp at hn; exact .inl hn
          | cons x t =>
            have hc := BytesAt.cell h 0 (by simp)
            simp only [Nat.add_zero, List.getElem_cons_zero] at hc
            refine .inr ⟨hp, b, o, x.toNat, rfl, hc, ?_⟩
            rcases Nat.eq_zero_or_pos x.toNat with h | h
            · exact absurd (by rw [UInt8.toNat_inj.1 (show x.toNat = (0 : UInt8).toNat from h)]; rfl) hz
            · exact h
      rw [hr]
      have hn8 : (n : Int) ≤ 8 := by omega
      have H := Lib.hid h
      clear hr hn h h8 hz
      rcases hpath with rfl | ⟨hp, b, o, x, rfl, hc, hx⟩
      rotate_left
      have hx0 : ((x : Int) == 0) = false := by simp; omega
      all_goals
        go_enter Try.func82, Try.ntmps82
        go_wp2_with fail
        refine (number_u64 F w _ _ c bs H.out (by omega)).mono ?_
        rintro e w' ⟨rfl, rfl⟩
        go_wp2
        go_ret2
        exact ⟨rfl, rfl⟩

set_option maxRecDepth 100000 in
set_option maxHeartbeats 1000000 in
theorem r3bytes_any (n : Nat) (w : World) (hn : (n : Int) < 18446744073709551616) :
    Calls Try.prog 81 #[.int .u64 n] w (Fresh w 5 1 byteR (wordB n)) := by
  obtain ⟨i0, hi, hz0, hz1, hz2⟩ := info_parts infoU8
  go_enter Try.func81, Try.ntmps81
  go_wp2
  go_loopw [0, 3] (fun m v wr => ∃ (k : Nat) (l : List UInt8) (a : Option Addr) (c : Nat) (j : Nat), m = .int .u64 k ∧ (k : Int) < 18446744073709551616 ∧ j ≤ 8 ∧ v = .slice a j c ∧
     Hid (OwnAt wr w.heap.size 5 1 byteR (.slice a j c) l ∧ wordB k ++ l = wordB n ∧ Below w.heap.size w wr)) (fun m _ _ => (intOf m).toNat)
  case atStart => exact ⟨n, [], none, 0, 0, rfl, hn, by omega, rfl, OwnAt.nil _ _ _ _ _, by simp, Bel.refl _⟩
  case round =>
    obtain ⟨k, l, a, c, j, rfl, hk, hj, rfl, H⟩ := hrel
    by_cases h0 : k = 0
    · subst h0
      go_wp2
      go_ret
      obtain ⟨h1, h2, h3⟩ := H.out
      have h4 : l = wordB n := by rw [← h2]; unfold wordB; rw [number_zero]; rfl
      rw [h4] at h1
      exact ⟨_, rfl, h1, h3⟩
    · have hk0 : (0 : Int) < (k : Int) := by omega
      have hk1 : (k : Int) ≠ 0 := by omega
      obtain ⟨h1, h2, h3⟩ := H.out
      have hw : wordB k = wordB (k / 256) ++ [UInt8.ofNat (k % 256)] := by unfold wordB; rw [number_pos (n := k) (by omega)]; rfl
      have hl : l.length = j := by
        obtain ⟨_, _, e, -⟩ := h1.len
        simp only [Value.slice.injEq] at e
        omega
      have hlen : ([UInt8.ofNat (k % 256)] : List UInt8).length + l.length = j + 1 := by simp; omega
      have hj1 : j + 1 ≤ 8 := by
        have e1 := congrArg List.length h2
        rw [hw] at e1
        simp only [List.length_append, List.length_cons, List.length_nil] at e1
        have e2 := wordB_le n hn
        omega
      have hkey : wordB (k / 256) ++ ([UInt8.ofNat (k % 256)] ++ l) = wordB n := by rw [← h2, hw]; simp
      have hat := h1.at (F := fun _ => True) (fun _ _ _ _ => trivial) (by decide)
      have hb := h3.size
      have hsrc : BytesAt (fun _ => True) (wr.alloc (.cells #[.int .u8 ((k : Int) % 256)] 5)) (.slice a j c) l := BytesAt.below hat (Bel.alloc (Bel.refl wr) _)
      have hown : OwnAt (wr.alloc (.cells #[.int .u8 ((k : Int) % 256)] 5)) w.heap.size 5 1 byteR (.slice (some ⟨wr.heap.size, 0, none⟩) 1 1) [UInt8.ofNat (k % 256)] := by
        have := (OwnAt.lit' wr 5 (UInt8.ofNat (k % 256))).lower hb
        rw [UInt8.toNat_ofNat', Nat.mod_eq_of_lt (Nat.mod_lt _ (by omega))] at this
        exact this
      have hle : (([UInt8.ofNat (k % 256)] : List UInt8).length + l.length) * 1 ≤ 140737488355328 := by rw [hlen]; omega
      have hbase : w.heap.size ≤ (wr.alloc (.cells #[.int .u8 ((k : Int) % 256)] 5)).heap.size := by simp; omega
      have H1 := Lib.hid hown
      have H2 := Lib.hid hsrc
      have H3 := Lib.hid hkey
      have H4 := Lib.hid h3
      have H5 := Lib.hid hle
      have H6 := Lib.hid hlen
      obtain ⟨ki, hki⟩ : ∃ ki : Int, ki = (k : Int) := ⟨_, rfl⟩
      rw [← hki] at H1 H2 hbase hk hk0 hk1 ⊢
      have HKI := Lib.hid hki
      have HN := Lib.hid hn
      clear hki hn h0
      clear h1 h2 h3 hw hkey hat hb hsrc hown hle hl hlen H
      go_wp2_with (at_builtin; refine wpList_append_at rfl (.tmp 9) (.tmp 10) 25 rfl w.heap.size 5 i0 (.int .u8 0) 1 1 underlying25 hi hz0 hz1 hz2 rfl (by decide) (by decide) byteR.one (.slice (some ⟨wr.heap.size, 0, none⟩) 1 1) [UInt8.ofNat (k % 256)] rfl H1.out _ l (fun _ => True) rfl H2.out H5.out hbase ?_; intro v2 w2 ho hg hm)
      have hown2 := (H1.out).own
      have hbel := (H4.out.alloc (by have := H4.out.size; omega) (.cells #[.int .u8 (ki % 256)] 5)).grown hg hbase (fun g hg' => (hown2 g hg').1)
      obtain ⟨a2, c2, hv2, -, -, -⟩ := ho.len
      rw [List.length_append, H6.out] at hv2
      subst hv2
      have HNX : Hid (OwnAt w2 w.heap.size 5 1 byteR (.slice a2 (j + 1) c2) ([UInt8.ofNat (k % 256)] ++ l) ∧ wordB (k / 256) ++ ([UInt8.ofNat (k % 256)] ++ l) = wordB n ∧ Below w.heap.size w w2) := ⟨ho, H3.out, hbel⟩
      clear ho hg hm hown2 hbel
      go_wp2
      go_roundw
      case rel => exact ⟨k / 256, _, a2, c2, j + 1, num_eq (by rw [HKI.out]; omega), by have := HKI.out; omega, by omega, rfl, HNX⟩
      case measure => have := HKI.out; simp [intOf]; omega
end Go.Proofs.Ytndkkgkcbbmnpaa
