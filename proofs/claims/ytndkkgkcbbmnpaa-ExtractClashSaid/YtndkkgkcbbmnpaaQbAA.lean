/-
  Memory words for this seat's proofs: how Go slices of bytes, of byte strings and of items read in a world, and how that is carried over calls. No program in sight.
  The frame of a law's proof: how arguments open (bytes, rows of bytes), what the bound on their bulk gives, that arguments read behind the call as before.
  Items (byte strings and nested lists of them) as plain data: their encoding, its length; and how a Go value of three cells reads as an item.
-/
import Derived.WalkKit
import Derived.WalkSpells
import Derived.WalkLawsBesides
import Derived.Lib.Hide
import Derived.Handy
import Derived.Outline
import Derived.Deep.QuietTactic
import Derived.BigQuiet
import Derived.Deep.RegionHeld3
import Derived.Deep.RegionWith
import Derived.Deep.DeepMust
import Derived.Deep.DeepFit
import Derived.Deep.DeepCutAuto
import Derived.StillTailTactics
import Derived.Deep.LoopGhost
import Derived.Laws.ResultCell
import Derived.Laws.AppendOwnNone
import Derived.Test.YtndkkgkcbbmnpaaRows
import Derived.ProofKit
import Derived.OpenShut
import Derived.JoinedCond
import Derived.ChangeSame
import Derived.Carry
import Derived.Deep.Matrix
import Derived.Lib.SmallJoins
namespace Go.Pg
open Go.RowKit

theorem ret_int {k : IntKind} {a b : Int} (h : a = b) : Ending.returned (.int k a) = .returned (.int k b) := by rw [h]
theorem ret_bool {a b : Bool} (h : a = b) : Ending.returned (.bool a) = .returned (.bool b) := by rw [h]

theorem num_eq {k : IntKind} {a b : Int} (h : a = b) : Value.int k a = .int k b := by rw [h]

/-! ## What a call changes -/

/-- Of the blocks that were there, only those in M may have turned. -/
structure Chg (M : Nat → Prop) (w w' : World) : Prop where
  os : w'.os = w.os
  tape : w'.tape = w.tape
  output : w'.output = w.output
  size : w.heap.size ≤ w'.heap.size
  block : ∀ k, k < w.heap.size → ¬ M k → w'.heap[k]? = w.heap[k]?

theorem Chg.refl (M : Nat → Prop) (w : World) : Chg M w w := ⟨rfl, rfl, rfl, Nat.le_refl _, fun _ _ _ => rfl⟩
theorem Chg.mono {M M' : Nat → Prop} {w w' : World} (h : Chg M w w') (hm : ∀ k, k < w.heap.size → M k → M' k) : Chg M' w w' :=
  ⟨h.os, h.tape, h.output, h.size, fun k hk hn => h.block k hk (fun x => hn (hm k hk x))⟩
theorem Chg.trans {M M' : Nat → Prop} {a b c : World} (h : Chg M a b) (k : Chg M' b c) (hm : ∀ i, i < a.heap.size → M' i → M i) : Chg M a c :=
  ⟨k.os.trans h.os, k.tape.trans h.tape, k.output.trans h.output, Nat.le_trans h.size k.size,
    fun i hi hn => (k.block i (Nat.lt_of_lt_of_le hi h.size) (fun x => hn (hm i hi x))).trans (h.block i hi hn)⟩
theorem Chg.ofBelow {w w' : World} (h : Below w.heap.size w w') (M : Nat → Prop) : Chg M w w' :=
  ⟨h.os, h.tape, h.output, h.size, fun k hk _ => h.block k hk⟩
theorem Chg.toBelow {M : Nat → Prop} {w w' : World} (h : Chg M w w') (hm : ∀ k, k < w.heap.size → ¬ M k) : Below w.heap.size w w' :=
  ⟨h.os, h.tape, h.output, h.size, fun k hk => h.block k hk (hm k hk)⟩
theorem Chg.toBelowAt {M : Nat → Prop} {B : Nat} {w w' : World} (h : Chg M w w') (hB : B ≤ w.heap.size) (hm : ∀ k, k < B → ¬ M k) : Below B w w' :=
  ⟨h.os, h.tape, h.output, h.size, fun k hk => h.block k (Nat.lt_of_lt_of_le hk hB) (hm k hk)⟩
theorem Chg.ofGrown {w w' : World} {row : Option Nat} (h : w.grownBy w' row) : Chg (fun k => some k = row) w w' :=
  ⟨h.os, h.tape, h.output, h.size, fun k hk hn => h.block k hk hn⟩
theorem Chg.alloc {M : Nat → Prop} {a w : World} (h : Chg M a w) (o : Obj) : Chg M a (w.alloc o) :=
  h.trans (M' := M) ⟨rfl, rfl, rfl, by simp, fun k hk _ => Below.heap_alloc _ _ _ hk⟩ (fun _ _ x => x)
theorem Chg.drew {M : Nat → Prop} {a w : World} (h : Chg M a w) : Chg M a w.drew := ⟨h.os, h.tape, h.output, h.size, h.block⟩
theorem Chg.setCell {M : Nat → Prop} {a w : World} (h : Chg M a w) {p : Addr} (hp : a.heap.size ≤ p.block ∨ M p.block) (u : Value) : Chg M a (w.setCell p u) :=
  h.trans (M' := fun k => k = p.block) ⟨rfl, rfl, rfl, by simp [World.setCell], fun k _ hn => Below.heap_setCell _ _ _ _ hn⟩
    (fun i hi x => by rcases hp with hp | hp; exact absurd x (by omega); exact x ▸ hp)
theorem Chg.cell {M : Nat → Prop} {w w' : World} (h : Chg M w w') {p : Addr} (hp : p.block < w.heap.size) (hm : ¬ M p.block) : w'.cell? p = w.cell? p :=
  World.cell?_of_block (w := w) (h.block p.block hp hm)
theorem Chg.frozen {M : Nat → Prop} {w w' : World} (h : Chg M w w') {p : Addr} (hp : p.block < w.heap.size) (hm : ¬ M p.block) : w'.frozen? p = w.frozen? p :=
  World.frozen?_of_block (w := w) (h.block p.block hp hm)

/-- Chains from a call's own beginning: no side conditions. -/
theorem Bel.refl (a : World) : Below a.heap.size a a := Below.refl _ _
theorem Bel.alloc {a w : World} (h : Below a.heap.size a w) (o : Obj) : Below a.heap.size a (w.alloc o) := Below.alloc h h.size o
theorem Bel.call {a w w1 : World} (h : Below a.heap.size a w) (hb : Below w.heap.size w w1) : Below a.heap.size a w1 := Below.trans h (hb.mono h.size)
theorem Bel.drew {a w : World} (h : Below a.heap.size a w) : Below a.heap.size a w.drew := Below.drew h
theorem Below.trans' {B : Nat} {a b c : World} (h : Below B a b) (k : Below b.heap.size b c) (hB : B ≤ b.heap.size) : Below B a c := h.trans (k.mono hB)
/-- What is below stays readable: the two rules that the walk uses behind a contract. -/
theorem bcell {W w1 : World} (hb : Below W.heap.size W w1) : (∀ b o, b < W.heap.size → w1.cell? ⟨b, o, none⟩ = W.cell? ⟨b, o, none⟩) ∧ (∀ b o, b < W.heap.size → w1.frozen? ⟨b, o, none⟩ = W.frozen? ⟨b, o, none⟩) :=
  ⟨fun b o h => hb.cell (p := ⟨b, o, none⟩) h, fun b o h => hb.frozen (p := ⟨b, o, none⟩) h⟩
theorem boxcell {w w1 : World} {cs : Array Value} {t : TypeId} (hb : Below (w.alloc (.cells cs t)).heap.size (w.alloc (.cells cs t)) w1) (i : Nat) : w1.cell? ⟨w.heap.size, i, none⟩ = cs[i]? := by
  rw [hb.cell (p := ⟨w.heap.size, i, none⟩) (by simp)]; simp
theorem boxfree {w w1 : World} {cs : Array Value} {t : TypeId} (hb : Below (w.alloc (.cells cs t)).heap.size (w.alloc (.cells cs t)) w1) (i : Nat) : w1.frozen? ⟨w.heap.size, i, none⟩ = false := by
  rw [hb.frozen (p := ⟨w.heap.size, i, none⟩) (by simp)]; simp
theorem boxblock {w w1 : World} {cs : Array Value} {t : TypeId} (hb : Below (w.alloc (.cells cs t)).heap.size (w.alloc (.cells cs t)) w1) : w1.heap[w.heap.size]? = some (.cells cs t (0, 0)) := by
  rw [hb.block _ (by simp)]; exact heap_alloc_new w _
theorem cells3 {w : World} {b : Nat} {v0 v1 v2 : Value} {t : TypeId} {fr : Nat × Nat} (h : w.heap[b]? = some (.cells #[v0, v1, v2] t fr)) :
    w.cell? ⟨b, 0, none⟩ = some v0 ∧ w.cell? ⟨b, 1, none⟩ = some v1 ∧ w.cell? ⟨b, 2, none⟩ = some v2 :=
  ⟨by rw [cell_of_row _ _ _ _ _ _ h]; rfl, by rw [cell_of_row _ _ _ _ _ _ h]; rfl, by rw [cell_of_row _ _ _ _ _ _ h]; rfl⟩
theorem cells2 {w : World} {b : Nat} {v0 v1 : Value} {t : TypeId} {fr : Nat × Nat} (h : w.heap[b]? = some (.cells #[v0, v1] t fr)) :
    w.cell? ⟨b, 0, none⟩ = some v0 ∧ w.cell? ⟨b, 1, none⟩ = some v1 :=
  ⟨by rw [cell_of_row _ _ _ _ _ _ h]; rfl, by rw [cell_of_row _ _ _ _ _ _ h]; rfl⟩
theorem cells1 {w : World} {b : Nat} {v0 : Value} {t : TypeId} {fr : Nat × Nat} (h : w.heap[b]? = some (.cells #[v0] t fr)) :
    w.cell? ⟨b, 0, none⟩ = some v0 := by rw [cell_of_row _ _ _ _ _ _ h]; rfl
theorem cell_lt {w : World} {b o : Nat} {u : Value} (h : w.cell? ⟨b, o, none⟩ = some u) : b < w.heap.size := World.block_lt_of_cell? w _ h
/-- A cell of a block that both worlds have alike. -/
theorem cell_same {w w' : World} {b o : Nat} (h : w'.heap[b]? = w.heap[b]?) : w'.cell? ⟨b, o, none⟩ = w.cell? ⟨b, o, none⟩ := World.cell?_of_block (w := w) h
theorem cell_below {w w' : World} {b o : Nat} {u : Value} (hb : Below w.heap.size w w') (h : w.cell? ⟨b, o, none⟩ = some u) : w'.cell? ⟨b, o, none⟩ = some u :=
  (hb.cell (p := ⟨b, o, none⟩) (cell_lt h)).trans h

/-! ## Slices that read as lists -/

section
variable {α : Type}

def SliceAt (F : Nat → Prop) (w : World) (sz : Nat) (R : List Value → α → Prop) (v : Value) (l : List α) : Prop :=
  ∃ a c, v = .slice a l.length c ∧ l.length ≤ c ∧ c ≤ maxLen ∧ (a = none → c = 0) ∧
    (0 < l.length → ∃ b o, a = some ⟨b, o, none⟩ ∧ F b ∧
      ∀ i x, l[i]? = some x → ∃ cs, cs.length = sz ∧ R cs x ∧ ∀ j u, cs[j]? = some u → w.cell? ⟨b, o + i * sz + j, none⟩ = some u) ∧
    (∀ b o j, a = some ⟨b, o, none⟩ → j < l.length * sz → w.frozen? ⟨b, o + j, none⟩ = false)

theorem SliceAt.nil (F : Nat → Prop) (w : World) (sz : Nat) (R : List Value → α → Prop) : SliceAt F w sz R (.slice none 0 0) [] :=
  ⟨none, 0, rfl, Nat.le_refl _, Nat.zero_le _, fun _ => rfl, fun h => absurd h (by simp), fun _ _ _ h => by cases h⟩
theorem SliceAt.empty (F : Nat → Prop) (w : World) (sz : Nat) (R : List Value → α → Prop) (a : Option Addr) (c : Nat) (hc : c ≤ maxLen) (ha : a = none → c = 0) : SliceAt F w sz R (.slice a 0 c) [] :=
  ⟨a, c, rfl, Nat.zero_le _, hc, ha, fun h => absurd h (by simp), fun _ _ _ _ h => absurd h (by simp)⟩

/-- The same reading in another world, by more blocks, of a wider make. -/
theorem SliceAt.carry {F F' : Nat → Prop} {w w' : World} {sz : Nat} {R R' : List Value → α → Prop} {v : Value} {l : List α} (h : SliceAt F w sz R v l) (hsz : 0 < sz)
    (hF : ∀ b, b < w.heap.size → F b → F' b) (hb : ∀ b, F b → b < w.heap.size → w'.heap[b]? = w.heap[b]?) (hR : ∀ cs x, x ∈ l → R cs x → R' cs x) : SliceAt F' w' sz R' v l := by
  obtain ⟨a, c, hv, h1, h2, h3, h4, h5⟩ := h
  have hlt : 0 < l.length → ∃ b o, a = some ⟨b, o, none⟩ ∧ F b ∧ b < w.heap.size := fun hl => by
    obtain ⟨b, o, ha, hFb, hcell⟩ := h4 hl
    obtain ⟨x, hx⟩ : ∃ x, l[0]? = some x := ⟨l[0], by simp [hl]⟩
    obtain ⟨cs, hcs, _, hj⟩ := hcell 0 x hx
    exact ⟨b, o, ha, hFb, cell_lt (hj 0 (cs[0]'(by omega)) (by simp))⟩
  refine ⟨a, c, hv, h1, h2, h3, fun hl => ?_, fun b o j ha hj => ?_⟩
  · obtain ⟨b, o, ha, hFb, hcell⟩ := h4 hl
    obtain ⟨b', o', ha', _, hlt⟩ := hlt hl
    obtain rfl : b = b' := by rw [ha] at ha'; simp only [Option.some.injEq, Addr.mk.injEq] at ha'; exact ha'.1
    refine ⟨b, o, ha, hF b hlt hFb, fun i x hx => ?_⟩
    obtain ⟨cs, hcs, hr, hj⟩ := hcell i x hx
    exact ⟨cs, hcs, hR cs x (List.mem_of_getElem? hx) hr, fun j u hu => (cell_same (hb b hFb hlt)).trans (hj j u hu)⟩
  · have hl : 0 < l.length := by
      rcases Nat.eq_zero_or_pos l.length with h | h
      · rw [h] at hj; simp at hj
      · exact h
    obtain ⟨b', o', ha', hFb, hlt⟩ := hlt hl
    obtain rfl : b = b' := by rw [ha] at ha'; simp only [Option.some.injEq, Addr.mk.injEq] at ha'; exact ha'.1
    exact (World.frozen?_of_block (w := w) (hb b hFb hlt)).trans (h5 b o j ha hj)

/-- A slice's value, taken apart: nothing in it, or somewhere. -/
theorem SliceAt.cases {F : Nat → Prop} {w : World} {sz : Nat} {R : List Value → α → Prop} {v : Value} {l : List α} (h : SliceAt F w sz R v l) :
    (l = [] ∧ ∃ a c, v = .slice a 0 c ∧ (a = none → c = 0) ∧ c ≤ maxLen) ∨ (∃ b o c, v = .slice (some ⟨b, o, none⟩) l.length c ∧ 0 < l.length ∧ l.length ≤ c ∧ c ≤ maxLen ∧ F b) := by
  obtain ⟨a, c, hv, h1, h2, h3, h4, -⟩ := h
  by_cases hl : 0 < l.length
  · obtain ⟨b, o, rfl, hFb, _⟩ := h4 hl
    exact .inr ⟨b, o, c, hv, hl, h1, h2, hFb⟩
  · have : l = [] := List.eq_nil_of_length_eq_zero (by omega)
    subst this
    exact .inl ⟨rfl, a, c, hv, h3, h2⟩
theorem SliceAt.len {F : Nat → Prop} {w : World} {sz : Nat} {R : List Value → α → Prop} {v : Value} {l : List α} (h : SliceAt F w sz R v l) : ∃ a c, v = .slice a l.length c ∧ l.length ≤ c ∧ c ≤ maxLen ∧ (a = none → c = 0) := by
  obtain ⟨a, c, hv, h1, h2, h3, _⟩ := h
  exact ⟨a, c, hv, h1, h2, h3⟩
/-- the same, at a value that is written out -/
theorem SliceAt.split {F : Nat → Prop} {w : World} {sz : Nat} {R : List Value → α → Prop} {a : Option Addr} {n c : Nat} {l : List α} (h : SliceAt F w sz R (.slice a n c) l) :
    (l = [] ∧ n = 0) ∨ (∃ b o, a = some ⟨b, o, none⟩ ∧ n = l.length ∧ 0 < n ∧ F b) := by
  rcases h.cases with ⟨hl, a', c', hv, -, -⟩ | ⟨b, o, c', hv, hl, -, -, hF⟩
  · simp only [Value.slice.injEq] at hv
    exact .inl ⟨hl, hv.2.1⟩
  · simp only [Value.slice.injEq] at hv
    exact .inr ⟨b, o, hv.1, hv.2.1, by omega, hF⟩
theorem SliceAt.row {F : Nat → Prop} {w : World} {sz : Nat} {R : List Value → α → Prop} {b o n c : Nat} {l : List α} (h : SliceAt F w sz R (.slice (some ⟨b, o, none⟩) n c) l) (i : Nat) (hi : i < l.length) :
    ∃ cs, cs.length = sz ∧ R cs l[i] ∧ ∀ j u, cs[j]? = some u → w.cell? ⟨b, o + i * sz + j, none⟩ = some u := by
  obtain ⟨a, c', hv, h1, h2, h3, h4, -⟩ := h
  obtain ⟨b', o', rfl, _, hcell⟩ := h4 (by omega)
  simp only [Value.slice.injEq, Option.some.injEq, Addr.mk.injEq, and_true] at hv
  obtain ⟨⟨rfl, rfl⟩, _, _⟩ := hv
  exact hcell i l[i] (by simp [hi])
theorem SliceAt.foot {F : Nat → Prop} {w : World} {sz : Nat} {R : List Value → α → Prop} {b o n c : Nat} {l : List α} (h : SliceAt F w sz R (.slice (some ⟨b, o, none⟩) n c) l) (hl : 0 < l.length) : F b := by
  obtain ⟨a, c', hv, h1, h2, h3, h4, -⟩ := h
  obtain ⟨b', o', rfl, hF, hcell⟩ := h4 hl
  simp only [Value.slice.injEq, Option.some.injEq, Addr.mk.injEq, and_true] at hv
  obtain ⟨⟨rfl, rfl⟩, _, _⟩ := hv
  exact hF
/-- none of its cells is frozen -/
theorem SliceAt.free {F : Nat → Prop} {w : World} {sz : Nat} {R : List Value → α → Prop} {b o n c : Nat} {l : List α} (h : SliceAt F w sz R (.slice (some ⟨b, o, none⟩) n c) l) (j : Nat) (hj : j < l.length * sz) : w.frozen? ⟨b, o + j, none⟩ = false := by
  obtain ⟨a, c', hv, -, -, -, -, h5⟩ := h
  simp only [Value.slice.injEq] at hv
  exact h5 b o j hv.1.symm hj

/-- Cells of a row that stand for a list, element by element. -/
def Rows (sz : Nat) (R : List Value → α → Prop) (xs : List Value) (l : List α) : Prop :=
  xs.length = l.length * sz ∧ ∀ i x, l[i]? = some x → ∃ cs, cs.length = sz ∧ R cs x ∧ ∀ j u, cs[j]? = some u → xs[i * sz + j]? = some u
theorem Rows.nil (sz : Nat) (R : List Value → α → Prop) : Rows sz R [] [] := ⟨by simp, fun i x h => by simp at h⟩
theorem Rows.append {sz : Nat} {R : List Value → α → Prop} {xs ys : List Value} {l m : List α} (h : Rows sz R xs l) (k : Rows sz R ys m) : Rows sz R (xs ++ ys) (l ++ m) := by
  refine ⟨by simp [h.1, k.1, Nat.add_mul], fun i x hx => ?_⟩
  by_cases hi : i < l.length
  · rw [List.getElem?_append_left hi] at hx
    obtain ⟨cs, h1, h2, h3⟩ := h.2 i x hx
    refine ⟨cs, h1, h2, fun j u hu => ?_⟩
    have h4 := h3 j u hu
    have hlt : i * sz + j < xs.length := (List.getElem?_eq_some_iff.1 h4).1
    rw [List.getElem?_append_left hlt]; exact h4
  · rw [List.getElem?_append_right (by omega)] at hx
    obtain ⟨cs, h1, h2, h3⟩ := k.2 _ x hx
    refine ⟨cs, h1, h2, fun j u hu => ?_⟩
    have h4 := h3 j u hu
    obtain ⟨d, hd⟩ : ∃ d, i = l.length + d := ⟨i - l.length, by omega⟩
    subst hd
    rw [Nat.add_sub_cancel_left] at h4
    have he : (l.length + d) * sz + j = xs.length + (d * sz + j) := by rw [h.1, Nat.add_mul]; omega
    rw [he, List.getElem?_append_right (by omega), Nat.add_sub_cancel_left]; exact h4
theorem Rows.one {sz : Nat} {R : List Value → α → Prop} {cs : List Value} {x : α} (h : R cs x) (hl : cs.length = sz) : Rows sz R cs [x] := by
  refine ⟨by simp [hl], fun i y hy => ?_⟩
  match i, hy with
  | 0, hy =>
    simp at hy; subst hy
    exact ⟨cs, hl, h, fun j u hu => by simpa using hu⟩
theorem Rows.mono {sz : Nat} {R R' : List Value → α → Prop} {xs : List Value} {l : List α} (h : Rows sz R xs l) (hR : ∀ cs x, x ∈ l → R cs x → R' cs x) : Rows sz R' xs l :=
  ⟨h.1, fun i x hx => let ⟨cs, h1, h2, h3⟩ := h.2 i x hx; ⟨cs, h1, hR cs x (List.mem_of_getElem? hx) h2, h3⟩⟩

/-- A slice that the call made itself, whose content is known. -/
def OwnAt (w : World) (base : Nat) (e : TypeId) (sz : Nat) (R : List Value → α → Prop) (v : Value) (l : List α) : Prop :=
  ∃ xs, w.ownsRow base e sz v l.length xs ∧ Rows sz R xs l
theorem OwnAt.nil (w : World) (base : Nat) (e : TypeId) (sz : Nat) (R : List Value → α → Prop) : OwnAt w base e sz R (.slice none 0 0) [] :=
  ⟨[], World.ownsRow_nil _ _ _ _, Rows.nil _ _⟩
theorem OwnAt.mono {w : World} {base : Nat} {e : TypeId} {sz : Nat} {R R' : List Value → α → Prop} {v : Value} {l : List α} (h : OwnAt w base e sz R v l) (hR : ∀ cs x, x ∈ l → R cs x → R' cs x) : OwnAt w base e sz R' v l :=
  let ⟨xs, h1, h2⟩ := h; ⟨xs, h1, h2.mono hR⟩
/-- its block stays as it was -/
theorem OwnAt.carry {w w' : World} {base : Nat} {e : TypeId} {sz : Nat} {R : List Value → α → Prop} {v : Value} {l : List α} (h : OwnAt w base e sz R v l)
    (hb : ∀ g, v.ownBlock = some g → base ≤ g → g < w.heap.size → w'.heap[g]? = w.heap[g]?) : OwnAt w' base e sz R v l := by
  obtain ⟨xs, h1, h2⟩ := h
  refine ⟨xs, ⟨h1.1, ?_⟩, h2⟩
  rcases h1.2 with hn | ⟨g, cap, cur, rfl, hg, hh, rest⟩
  · exact .inl hn
  · exact .inr ⟨g, cap, cur, rfl, hg, by rw [hb g rfl hg (Array.getElem?_eq_some_iff.1 hh).1]; exact hh, rest⟩
theorem OwnAt.lower {w : World} {base base' : Nat} {e : TypeId} {sz : Nat} {R : List Value → α → Prop} {v : Value} {l : List α} (h : OwnAt w base e sz R v l) (hb : base' ≤ base) : OwnAt w base' e sz R v l := by
  obtain ⟨xs, h1, h2⟩ := h
  refine ⟨xs, ⟨h1.1, ?_⟩, h2⟩
  rcases h1.2 with hn | ⟨g, cap, cur, rfl, hg, rest⟩
  · exact .inl hn
  · exact .inr ⟨g, cap, cur, rfl, Nat.le_trans hb hg, rest⟩
theorem OwnAt.own {w : World} {base : Nat} {e : TypeId} {sz : Nat} {R : List Value → α → Prop} {v : Value} {l : List α} (h : OwnAt w base e sz R v l) : ∀ k, v.ownBlock = some k → base ≤ k ∧ k < w.heap.size :=
  let ⟨_, h1, _⟩ := h; h1.lt
theorem OwnAt.len {w : World} {base : Nat} {e : TypeId} {sz : Nat} {R : List Value → α → Prop} {v : Value} {l : List α} (h : OwnAt w base e sz R v l) : ∃ a c, v = .slice a l.length c ∧ l.length ≤ c ∧ c ≤ maxLen ∧ (a = none → c = 0) := by
  obtain ⟨xs, h1, h2⟩ := h
  rcases h1.2 with ⟨rfl, hn⟩ | ⟨g, cap, cur, rfl, _, _, hc, hm, _⟩
  · exact ⟨none, 0, by rw [hn], by omega, Nat.zero_le _, fun _ => rfl⟩
  · exact ⟨_, cap, rfl, hc, hm, (fun h => by cases h)⟩
/-- read as what it is -/
theorem OwnAt.at {F : Nat → Prop} {w : World} {base : Nat} {e : TypeId} {sz : Nat} {R : List Value → α → Prop} {v : Value} {l : List α} (h : OwnAt w base e sz R v l) (hF : ∀ g, v.ownBlock = some g → base ≤ g → g < w.heap.size → F g) (_hsz : 0 < sz) : SliceAt F w sz R v l := by
  obtain ⟨xs, h1, h2⟩ := h
  rcases h1.2 with ⟨rfl, hn⟩ | ⟨g, cap, cur, rfl, hg, hh, hc, hm, hcs, htake⟩
  · have : l = [] := List.eq_nil_of_length_eq_zero hn
    subst this
    exact SliceAt.nil _ _ _ _
  · refine ⟨_, cap, rfl, hc, hm, (fun h => by cases h), fun hl => ⟨g, 0, rfl, hF g rfl hg (Array.getElem?_eq_some_iff.1 hh).1, fun i x hx => ?_⟩, fun b o j ha _ => ?_⟩
    · obtain ⟨cs, a1, a2, a3⟩ := h2.2 i x hx
      refine ⟨cs, a1, a2, fun j u hu => ?_⟩
      have h3 := a3 j u hu
      rw [← htake, List.getElem?_take] at h3
      rw [Nat.zero_add, cell_of_row w g (i * sz + j) cur e (0, 0) hh]
      split at h3
      · simpa using h3
      · cases h3
    · simp only [Option.some.injEq, Addr.mk.injEq, and_true] at ha
      obtain ⟨rfl, rfl⟩ := ha
      exact frozen_of_row w g _ _ _ hh
end

/-! ## Bytes, rows of bytes -/

def byteR (cs : List Value) (x : UInt8) : Prop := cs = [.int .u8 (x.toNat : Int)]
def BytesAt (F : Nat → Prop) (w : World) (v : Value) (bs : List UInt8) : Prop := SliceAt F w 1 byteR v bs
def rowR (F : Nat → Prop) (w : World) (cs : List Value) (bs : List UInt8) : Prop := ∃ u, cs = [u] ∧ BytesAt F w u bs
def RowsAt (F : Nat → Prop) (w : World) (v : Value) (l : List (List UInt8)) : Prop := SliceAt F w 1 (rowR F w) v l

theorem BytesAt.carry {F F' : Nat → Prop} {w w' : World} {v : Value} {bs : List UInt8} (h : BytesAt F w v bs) (hF : ∀ b, b < w.heap.size → F b → F' b) (hb : ∀ b, F b → b < w.heap.size → w'.heap[b]? = w.heap[b]?) : BytesAt F' w' v bs :=
  SliceAt.carry h (by decide) hF hb (fun _ _ _ h => h)
theorem BytesAt.below {F : Nat → Prop} {w w' : World} {v : Value} {bs : List UInt8} (h : BytesAt F w v bs) (hb : Below w.heap.size w w') : BytesAt F w' v bs :=
  h.carry (fun _ _ x => x) (fun b _ hlt => hb.block b hlt)
theorem BytesAt.nil (F : Nat → Prop) (w : World) : BytesAt F w (.slice none 0 0) [] := SliceAt.nil _ _ _ _
theorem BytesAt.cell {F : Nat → Prop} {w : World} {b o n c : Nat} {bs : List UInt8} (h : BytesAt F w (.slice (some ⟨b, o, none⟩) n c) bs) (i : Nat) (hi : i < bs.length) : w.cell? ⟨b, o + i, none⟩ = some (.int .u8 (bs[i].toNat : Int)) := by
  obtain ⟨cs, _, hr, hj⟩ := SliceAt.row h i hi
  rw [hr] at hj
  simpa using hj 0 _ (by simp)
theorem rowR.carry {F F' : Nat → Prop} {w w' : World} {cs : List Value} {bs : List UInt8} (h : rowR F w cs bs) (hF : ∀ b, b < w.heap.size → F b → F' b) (hb : ∀ b, F b → b < w.heap.size → w'.heap[b]? = w.heap[b]?) : rowR F' w' cs bs :=
  let ⟨u, h1, h2⟩ := h; ⟨u, h1, h2.carry hF hb⟩
theorem RowsAt.carry {F F' : Nat → Prop} {w w' : World} {v : Value} {l : List (List UInt8)} (h : RowsAt F w v l) (hF : ∀ b, b < w.heap.size → F b → F' b) (hb : ∀ b, F b → b < w.heap.size → w'.heap[b]? = w.heap[b]?) : RowsAt F' w' v l :=
  SliceAt.carry h (by decide) hF hb (fun _ _ _ h => h.carry hF hb)
theorem RowsAt.below {F : Nat → Prop} {w w' : World} {v : Value} {l : List (List UInt8)} (h : RowsAt F w v l) (hb : Below w.heap.size w w') : RowsAt F w' v l :=
  h.carry (fun _ _ x => x) (fun b _ hlt => hb.block b hlt)
theorem RowsAt.cell {F : Nat → Prop} {w : World} {b o n c : Nat} {l : List (List UInt8)} (h : RowsAt F w (.slice (some ⟨b, o, none⟩) n c) l) (i : Nat) (hi : i < l.length) : ∃ u, w.cell? ⟨b, o + i, none⟩ = some u ∧ BytesAt F w u l[i] := by
  obtain ⟨cs, _, ⟨u, hr, hu⟩, hj⟩ := SliceAt.row h i hi
  rw [hr] at hj
  exact ⟨u, by simpa using hj 0 u (by simp), hu⟩

/-! ## append onto a slice of the call's own -/
section
variable {α : Type}
theorem SliceAt.rows {F : Nat → Prop} {w : World} {sz : Nat} {R : List Value → α → Prop} {b o n c : Nat} {l : List α} (h : SliceAt F w sz R (.slice (some ⟨b, o, none⟩) n c) l) :
    ∃ xs, Rows sz R xs l ∧ ∀ j u, xs[j]? = some u → w.cell? ⟨b, o + j, none⟩ = some u := by
  have h' : ∀ i x, l[i]? = some x → ∃ cs, cs.length = sz ∧ R cs x ∧ ∀ j u, cs[j]? = some u → w.cell? ⟨b, o + (i * sz + j), none⟩ = some u := by
    intro i x hx
    obtain ⟨hi, rfl⟩ := List.getElem?_eq_some_iff.1 hx
    obtain ⟨cs, h1, h2, h3⟩ := SliceAt.row h i hi
    exact ⟨cs, h1, h2, fun j u hu => by rw [← Nat.add_assoc]; exact h3 j u hu⟩
  clear h
  induction l generalizing o with
  | nil => exact ⟨[], Rows.nil _ _, fun j u hu => by simp at hu⟩
  | cons x l ih =>
    obtain ⟨cs, h1, h2, h3⟩ := h' 0 x rfl
    obtain ⟨xs, k1, k2⟩ := ih (o := o + sz) fun i y hy => by
      obtain ⟨ds, e1, e2, e3⟩ := h' (i + 1) y (by simpa using hy)
      refine ⟨ds, e1, e2, fun j u hu => ?_⟩
      have := e3 j u hu
      rwa [show o + ((i + 1) * sz + j) = o + sz + (i * sz + j) by rw [Nat.add_mul]; omega] at this
    refine ⟨cs ++ xs, by have := (Rows.one h2 h1).append k1; simpa using this, fun j u hu => ?_⟩
    by_cases hj : j < cs.length
    · rw [List.getElem?_append_left hj] at hu
      have := h3 j u hu
      simpa using this
    · rw [List.getElem?_append_right (by omega)] at hu
      have := k2 _ u hu
      rwa [show o + sz + (j - cs.length) = o + j by omega] at this
theorem Rows.each {sz : Nat} {R : List Value → α → Prop} {xs : List Value} {l : List α} (h : Rows sz R xs l) (hsz : 0 < sz) (p : Value → Prop) (hR : ∀ cs x, R cs x → ∀ u ∈ cs, p u) : ∀ u ∈ xs, p u := by
  intro u hu
  obtain ⟨j, hj, rfl⟩ := List.getElem_of_mem hu
  have hlt : j / sz < l.length := by
    have := h.1
    rw [this] at hj
    exact Nat.div_lt_of_lt_mul (by rwa [Nat.mul_comm] at hj)
  obtain ⟨cs, h1, h2, h3⟩ := h.2 (j / sz) l[j / sz] (by simp [hlt])
  have hm := Nat.mod_lt j hsz
  have h4 := h3 (j % sz) (cs[j % sz]'(by omega)) (by simp)
  rw [show j / sz * sz + j % sz = j by rw [Nat.mul_comm]; exact Nat.div_add_mod j sz] at h4
  have h5 : xs[j] = cs[j % sz]'(by omega) := Option.some.inj ((List.getElem?_eq_getElem hj).symm.trans h4)
  rw [h5]
  exact hR cs _ h2 _ (List.getElem_mem _)

/-- Where a slice lies that was appended to: in the old block or in a new one. -/
def Moved (w : World) (v v' : Value) : Prop := ∀ g, v'.ownBlock = some g → v.ownBlock = some g ∨ w.heap.size ≤ g
/-- An append onto a slice of the call's own, and where the new slice lies: in the old block or in a new one. -/
theorem run_append_where {P : Program} (w : World) (base : Nat) (t ty e : TypeId) (i : TypeInfo) (z : Value) (size bytes : Nat) (ht : P.underlying t = some (.slice e)) (hi : P.info? e = some i) (hz : i.zero = some z)
    (hsize : i.size = size) (hby : i.bytes = bytes) (hzs : z.cells.size = size) (hsz : 0 < size)
    (v : Value) (n : Nat) (xs : List Value) (hown : w.ownsRow base e size v n xs)
    (a : Addr) (m c : Nat) (news : List Value) (hl : news.length = m * size) (hnews : ∀ j u, news[j]? = some u → w.cell? (a.add j) = some u) (h1 : ∀ u ∈ news, u.oneCell' = true)
    (h63 : n + m ≤ maxLen) (hbytes : (n + m) * bytes ≤ 140737488355328) (hbase : base ≤ w.heap.size) :
    ∃ v' w', (Builtin.append_ #[t, t] ty #[v, .slice (some a) m c]).run P w = .ok v' w' ∧ w'.ownsRow base e size v' (n + m) (xs ++ news) ∧ w.grownBy w' v.ownBlock ∧
      (∀ g, v'.ownBlock = some g → v.ownBlock = some g ∨ w.heap.size ≤ g) := by
  rcases hown.2 with ⟨rfl, rfl⟩ | ⟨g, cap, cur, rfl, hbg, hg, hnc, hcm, hcs, htake⟩
  · obtain ⟨v', w', r1, r2, r3, _⟩ := run_append_own (P := P) w w.heap.size t ty e i z size bytes ht hi hz hsize hby hzs hsz _ 0 xs ⟨hown.1, .inl ⟨rfl, rfl⟩⟩ a m c news hl hnews h1 h63 hbytes (Nat.le_refl _)
    have hlt := r2.lt
    refine ⟨v', w', r1, ⟨r2.1, ?_⟩, r3, fun g hg => .inr (hlt g hg).1⟩
    rcases r2.2 with hn | ⟨g, cap, cur, rfl, hg, rest⟩
    · exact .inl hn
    · exact .inr ⟨g, cap, cur, rfl, Nat.le_trans hbase hg, rest⟩
  · by_cases hroom : n + m ≤ cap
    · obtain ⟨w', r1, r2, r3⟩ := run_append_fits (P := P) w base t ty e i size ht hi hsize g n cap xs hown a m c news hl hnews h1 hroom
      exact ⟨_, w', r1, r2, r3, fun k hk => .inl hk⟩
    · subst hsize
      subst hby
      have hsmall : n + m ≤ 9223372036854775807 := by simp only [maxLen] at h63; omega
      have holds : ∀ j u, xs[j]? = some u → w.cell? ((⟨g, 0, none⟩ : Addr).add j) = some u := hown.cells (g := g) rfl
      have hr := run_append_grow (P := P) w t ty e i z ht hi hz ⟨g, 0, none⟩ n cap xs hown.1 holds a m c news hl hnews (by omega) (by omega) (growslice_fits (by omega) hbytes)
      have hge := grownCap_ge w (n + m) cap e
      have hcm' := grownCap_le_maxLen w (n + m) cap e h63
      have hlen : (xs ++ news).length = (n + m) * i.size := by rw [List.length_append, hown.1, hl, Nat.add_mul]
      refine ⟨_, _, hr, ⟨hlen, .inr ⟨w.heap.size, _, _, rfl, hbase, heap_alloc_new w.drew _, hge, hcm', ?_, ?_⟩⟩, ⟨rfl, rfl, rfl, by simp, fun k hk _ => Below.heap_alloc w.drew _ k hk⟩, fun k hk => .inr ?_⟩
      · have e1 : grownCap w (n + m) cap e = (n + m) + (grownCap w (n + m) cap e - (n + m)) := by omega
        simp only [Array.size_append, List.size_toArray, size_zeroCells, hzs, hown.1, hl, ← Nat.add_mul]
        rw [← e1]
      · have : ((xs.toArray ++ news.toArray ++ Builtin.zeroCells z.cells (grownCap w (n + m) cap e - (n + m))) : Array Value).toList = (xs ++ news) ++ (Builtin.zeroCells z.cells (grownCap w (n + m) cap e - (n + m))).toList := by simp
        rw [this, ← hlen, List.take_left]
      · simp only [Value.ownBlock, Option.some.injEq] at hk
        omega

theorem wpList_append_at {P : Program} {w : World} {ops : Array Oper} {rest : List Oper} {o : Oper} {a : Act} {Q : Exit → Act → World → Prop} (hgd : o.guard = none) (s x : Operand) (t : TypeId)
    (ho : o.op = .call { callee := .builtin .append, args := #[s, x], argTypes := #[t, t] })
    (base : Nat) (e : TypeId) (i : TypeInfo) (z : Value) (sz bytes : Nat) (ht : P.underlying t = some (.slice e)) (hi : P.info? e = some i) (hz : i.zero = some z)
    (hsize : i.size = sz) (hby : i.bytes = bytes) (hzs : z.cells.size = sz) (hsz : 0 < sz) (hb0 : 0 < bytes)
    {R : List Value → α → Prop} (hR1 : ∀ cs x, R cs x → ∀ u ∈ cs, u.oneCell' = true)
    (v : Value) (l : List α) (hs : a.eval s = v) (hown : OwnAt w base e sz R v l)
    (u : Value) (m : List α) (F : Nat → Prop) (hx : a.eval x = u) (hsrc : SliceAt F w sz R u m)
    (hbytes : (l.length + m.length) * bytes ≤ 140737488355328) (hbase : base ≤ w.heap.size)
    (h : ∀ v' w', OwnAt w' base e sz R v' (l ++ m) → w.grownBy w' v.ownBlock → Moved w v v' → wpList P ops Q rest (a.put o.dst v') w') : wpList P ops Q (o :: rest) a w := by
  obtain ⟨xs, h1, h2⟩ := hown
  have h63 : l.length + m.length ≤ maxLen := by
    have : l.length + m.length ≤ (l.length + m.length) * bytes := Nat.le_mul_of_pos_right _ hb0
    unfold maxLen; omega
  have done : ∀ (ad : Addr) (n c : Nat) (news : List Value), u = .slice (some ad) n c → n = m.length → Rows sz R news m → (∀ j u, news[j]? = some u → w.cell? (ad.add j) = some u) → wpList P ops Q (o :: rest) a w := by
    intro ad n c news hu hn hr hc
    subst hn
    obtain ⟨v', w', r1, r2, r3, r4⟩ := run_append_where (P := P) w base t o.type e i z sz bytes ht hi hz hsize hby hzs hsz v l.length xs h1 ad m.length c news hr.1 hc (hr.each hsz _ hR1) h63 hbytes hbase
    refine wpList_plain hgd fun K hK => ?_
    unfold Oper.wp execOp
    simp only [ho, resolve, invoke, builtin, Sem.run_bind, Sem.run_pure, Result.andThen_ok, List.map_toArray, List.map_cons, List.map_nil, hs, hx, hu, r1]
    exact hK _ _ (h v' w' ⟨xs ++ news, by simpa using r2, h2.append hr⟩ r3 r4)
  rcases SliceAt.cases hsrc with ⟨rfl, a', c, hv, hnc, hm⟩ | ⟨b, off, c, hv, hl, hc, hm, hF⟩
  · cases a' with
    | some ad => exact done ad 0 c [] hv rfl (Rows.nil _ _) (fun j u hu => by simp at hu)
    | none =>
      have := hnc rfl
      subst this
      refine wpList_append_own_none hgd s x t ho base e i sz ht hi v l.length xs hs h1 (hx.trans hv) ?_
      exact h v w ⟨xs, by simpa using h1, by simpa using h2⟩ ⟨rfl, rfl, rfl, Nat.le_refl _, fun _ _ _ => rfl⟩ (fun g hg => .inl hg)
  · subst hv
    obtain ⟨news, k1, k2⟩ := SliceAt.rows hsrc
    refine done ⟨b, off, none⟩ _ c news rfl rfl k1 fun j u hu => ?_
    have : (⟨b, off, none⟩ : Addr).add j = ⟨b, off + j, none⟩ := by unfold Addr.add; split <;> simp_all
    rw [this]; exact k2 j u hu
end
theorem byte_new (w : World) (e : TypeId) (k : Int) (m : Nat) (hk : k = (m : Int)) (hm : m < 256) : BytesAt (fun _ => True) (w.alloc (.cells #[.int .u8 k] e)) (.slice (some ⟨w.heap.size, 0, none⟩) 1 1) [UInt8.ofNat m] := by
  refine ⟨some ⟨w.heap.size, 0, none⟩, 1, rfl, Nat.le_refl _, by decide, (fun h => by cases h), fun _ => ⟨_, _, rfl, trivial, fun i x hx => ?_⟩, fun b o j ha _ => by simp only [Option.some.injEq, Addr.mk.injEq, and_true] at ha; obtain ⟨rfl, rfl⟩ := ha; simp⟩
  match i, hx with
  | 0, hx =>
    simp only [List.getElem?_cons_zero, Option.some.injEq] at hx
    subst hx
    refine ⟨[.int .u8 k], rfl, ?_, fun j u hu => ?_⟩
    · unfold byteR
      rw [hk, UInt8.toNat_ofNat', Nat.mod_eq_of_lt (by omega)]
    · match j, hu with
      | 0, hu => simp at hu; subst hu; simp
theorem byteR.one : ∀ cs x, byteR cs x → ∀ u ∈ cs, u.oneCell' = true := by
  intro cs x h u hu
  rw [h] at hu; simp at hu; subst hu; rfl
theorem rowR.one {F : Nat → Prop} {w : World} : ∀ cs x, rowR F w cs x → ∀ u ∈ cs, u.oneCell' = true := by
  rintro cs x ⟨v, rfl, hv⟩ u hu
  simp at hu; subst hu
  obtain ⟨a, c, rfl, _⟩ := SliceAt.len hv
  rfl
end Go.Pg
namespace Go.Proofs.Ytndkkgkcbbmnpaa
open Go.ChangeShapes Go.WideShapes Go.ChangeAt Go.RowKit Go.Pg

/-! ## What the bound gives -/
theorem bulk_one {H : Type} (d : DataW H) : 1 ≤ Rows.uptoBulk d := by
  cases d with
  | lit l => cases l <;> simp [Rows.uptoBulk]
  | nil => simp [Rows.uptoBulk]
  | ptr d => simp [Rows.uptoBulk]
  | slice elems spare => simp [Rows.uptoBulk]
  | agg parts => simp [Rows.uptoBulk]
  | iface t d => simp [Rows.uptoBulk]
  | map entries => simp [Rows.uptoBulk]
  | held h => simp [Rows.uptoBulk]
theorem bulk_len {H : Type} (l : List (DataW H)) : l.length ≤ Rows.uptoBulkAll l := by
  induction l with
  | nil => simp [Rows.uptoBulkAll]
  | cons x r ih => have := bulk_one x; simp only [Rows.uptoBulkAll, List.length_cons]; omega
theorem bulk_map {H α : Type} (g : α → DataW H) (f : α → Nat) (l : List α) (h : ∀ r, r ∈ l → f r ≤ Rows.uptoBulk (g r)) : (l.map f).sum ≤ Rows.uptoBulkAll (l.map g) := by
  induction l with
  | nil => simp
  | cons x r ih =>
    have h1 := h x (List.mem_cons_self ..)
    have h2 := ih (fun y hy => h y (List.mem_cons_of_mem _ hy))
    simp only [List.map_cons, List.sum_cons, Rows.uptoBulkAll]; omega
theorem bulk_bound {H : Type} {l : List (DataW H)} (hk : Rows.uptoSmall H l = true) : Rows.uptoBulkAll l ≤ 1048576 := of_decide_eq_true hk
/-- how much rows of bytes take, each with its own place -/
def rowsSum (l : List (List UInt8)) : Nat := (l.map fun x => x.length + 1).sum
theorem rowsSum_len (l : List (List UInt8)) : l.length ≤ rowsSum l := by
  unfold rowsSum
  induction l with
  | nil => simp
  | cons x r ih => simp only [List.map_cons, List.sum_cons, List.length_cons]; omega
theorem rowsSum_mem (l : List (List UInt8)) (x : List UInt8) (h : x ∈ l) : x.length ≤ rowsSum l := by
  unfold rowsSum
  induction l with
  | nil => cases h
  | cons y r ih =>
    simp only [List.map_cons, List.sum_cons]
    rcases List.mem_cons.1 h with rfl | h
    · omega
    · have := ih h; omega

/-! ## How arguments open -/
section
variable {H : Type} {enc : TypeId × Value → H} {P : Program} {w : World} {held : Bool}
theorem byte_of_wf {n : Int} (h : (Lit.int .u8 n).wf = true) : ((UInt8.ofNat n.toNat).toNat : Int) = n := by
  have h1 : 0 ≤ n ∧ n ≤ 255 := by simpa [Lit.wf, IntKind.min, IntKind.max, IntKind.signed, IntKind.bits] using h
  rw [UInt8.toNat_ofNat']
  omega
theorem cell_spot {a : Addr} {v : Value} (h : w.cell? a = some v) : a = ⟨a.block, a.off, none⟩ := by
  unfold World.cell? at h
  split at h
  · split at h
    · cases h
    · rename_i hs
      obtain ⟨b, o, s⟩ := a
      cases s with
      | none => rfl
      | some x => simp at hs
  · cases h
theorem add_at (b o k : Nat) : (⟨b, o, none⟩ : Addr).add k = ⟨b, o + k, none⟩ := by unfold Addr.add; split <;> simp_all
theorem add_zero' (a : Addr) : a.add 0 = a := by unfold Addr.add; rw [if_pos rfl]
/-- cells of bytes, as a slice of them -/
theorem bytes_at {A : Option Addr} {L C : Nat} {Z : List Int} (hLC : L ≤ C) (hC : C ≤ maxLen) (hZ : Z.length = C) (hwf : ∀ n ∈ Z, (Lit.int .u8 n).wf = true) (hA : A = none → C = 0)
    (hc : ∀ a, A = some a → ∀ c, c < C → w.cell? (a.add c) = some (.int .u8 (Z.getD c 0))) (hfz : ∀ a, A = some a → ∀ c, c < C → w.frozen? ⟨a.block, a.off + c, none⟩ = false) :
    BytesAt (fun b => b < w.heap.size) w (.slice A L C) ((Z.take L).map fun n => UInt8.ofNat n.toNat) := by
  have hlen : ((Z.take L).map fun n => UInt8.ofNat n.toNat).length = L := by rw [List.length_map, List.length_take]; omega
  refine ⟨A, C, by rw [hlen], by omega, hC, hA, fun hp => ?_, fun b o j ha hj => by subst ha; exact hfz _ rfl j (by rw [hlen] at hj; omega)⟩
  cases A with
  | none => have := hA rfl; omega
  | some a =>
    have h0 := hc a rfl 0 (by omega)
    rw [add_zero'] at h0
    have hs := cell_spot h0
    refine ⟨a.block, a.off, by rw [← hs], cell_lt (by rw [← hs]; exact h0), fun i x hx => ?_⟩
    rw [List.getElem?_map, Option.map_eq_some_iff] at hx
    obtain ⟨n, hn, rfl⟩ := hx
    rw [List.getElem?_take] at hn
    split at hn
    · rename_i hi
      have hcell := hc a rfl i (by omega)
      rw [hs, add_at] at hcell
      have hg : Z.getD i 0 = n := by rw [List.getD_eq_getElem?_getD, hn]; rfl
      refine ⟨[.int .u8 ((UInt8.ofNat n.toNat).toNat : Int)], rfl, rfl, fun j u hu => ?_⟩
      match j, hu with
      | 0, hu =>
        have hw := byte_of_wf (hwf n (List.mem_of_getElem? hn))
        simp only [List.getElem?_cons_zero, Option.some.injEq] at hu
        subst hu
        rw [hw, ← hg]
        simpa using hcell
    · cases hn
/-- an argument that is a slice of bytes -/
theorem open_bytes {t e : TypeId} {fuel : Nat} {v : Value} {x : DataW H × List MemPlace} (ht : P.underlying t = some (.slice e)) (he : P.underlying e = some (.int .u8)) (hc : P.cellsOf e = 1)
    (h : DataW.trod enc P w 0 (fun _ => true) held fuel t [v] = some x) (hfz : ∀ b o, MemPlace.cell b o ∈ x.2 → w.frozen? ⟨b, o, none⟩ = false) :
    ∃ bs a c, v = .slice a bs.length c ∧ BytesAt (fun b => b < w.heap.size) w v bs ∧ bs.length + 1 ≤ Rows.uptoBulk x.1 := by
  rcases open_ints ht he hc h with ⟨hv, rfl⟩ | ⟨a, len, cap, zs, hv, -, hl, hm, hz, rfl, hcell, hwf⟩
  · simp only [List.cons.injEq, and_true] at hv
    subst hv
    exact ⟨[], none, 0, rfl, BytesAt.nil _ _, by simp [Rows.uptoBulk]⟩
  · simp only [List.cons.injEq, and_true] at hv
    subst hv
    simp only [if_true] at hz
    have hb := bytes_at (w := w) (A := some a) (L := len) (C := cap) (Z := zs) hl hm hz hwf (fun h => by cases h) (fun a' ha c hc => by cases ha; exact hcell c (by omega)) (fun a' ha c hc => by cases ha; exact hfz _ _ (List.mem_map.2 ⟨c, List.mem_range.2 (by omega), rfl⟩))
    have hlen : ((zs.take len).map fun n => UInt8.ofNat n.toNat).length = len := by rw [List.length_map, List.length_take]; omega
    refine ⟨_, some a, cap, by rw [hlen], hb, ?_⟩
    have h1 := bulk_len (H := H) (lits .u8 (zs.take len))
    have h2 : (lits (H := H) .u8 (zs.take len)).length = len := by simp [lits]; omega
    simp only [Rows.uptoBulk]; omega
/-- an argument that is a slice of slices of bytes -/
theorem open_rows {t e q : TypeId} {fuel : Nat} {v : Value} {x : DataW H × List MemPlace} (ht : P.underlying t = some (.slice e)) (he : P.underlying e = some (.slice q)) (hq : P.underlying q = some (.int .u8))
    (ce : P.cellsOf e = 1) (cq : P.cellsOf q = 1) (h : DataW.trod enc P w 0 (fun _ => true) held fuel t [v] = some x) (hfz : ∀ b o, MemPlace.cell b o ∈ x.2 → w.frozen? ⟨b, o, none⟩ = false) :
    ∃ l a c, v = .slice a l.length c ∧ RowsAt (fun b => b < w.heap.size) w v l ∧ rowsSum l + 1 ≤ Rows.uptoBulk x.1 := by
  rcases Deep.open_int_rows ht he hq ce cq h with ⟨hv, rfl⟩ | ⟨a, len, cap, A, L, C, Z, hv, -, hl, hm, rfl, hr⟩
  · simp only [List.cons.injEq, and_true] at hv
    subst hv
    exact ⟨[], none, 0, rfl, SliceAt.nil _ _ _ _, by simp [Rows.uptoBulk, rowsSum]⟩
  · simp only [List.cons.injEq, and_true] at hv
    subst hv
    have hlen : ((List.range len).map fun r => ((Z r).take (L r)).map fun n => UInt8.ofNat n.toNat).length = len := by simp
    have hrl : ∀ r, r < cap → (((Z r).take (L r)).map fun n => UInt8.ofNat n.toNat).length = L r := fun r hr' => by
      obtain ⟨-, h1, -, h2, -⟩ := hr r hr'
      rw [List.length_map, List.length_take]; omega
    refine ⟨(List.range len).map fun r => ((Z r).take (L r)).map fun n => UInt8.ofNat n.toNat, some a, cap, by rw [hlen], ?_, ?_⟩
    · refine ⟨some a, cap, by rw [hlen], by omega, hm, (fun h => by cases h), fun hp => ?_, fun b o j ha hj => ?_⟩
      rotate_left
      · simp only [Option.some.injEq] at ha
        subst ha
        exact hfz _ _ (List.mem_append_left _ (List.mem_map.2 ⟨j, List.mem_range.2 (by rw [hlen] at hj; omega), rfl⟩))
      have h0 := (hr 0 (by omega)).1
      rw [add_zero'] at h0
      have hs := cell_spot h0
      refine ⟨a.block, a.off, by rw [← hs], cell_lt (by rw [← hs]; exact h0), fun i y hy => ?_⟩
      rw [List.getElem?_map, Option.map_eq_some_iff] at hy
      obtain ⟨r, hr1, rfl⟩ := hy
      obtain ⟨hi, rfl⟩ := List.getElem?_eq_some_iff.1 hr1
      simp only [List.getElem_range, List.length_range] at hi ⊢
      obtain ⟨g1, g2, g3, g4, g5, g6, g7⟩ := hr i (by omega)
      rw [hs, add_at] at g1
      refine ⟨[.slice (A i) (L i) (C i)], rfl, ⟨_, rfl, bytes_at g2 g3 g4 g5 g6 (fun a' ha c hc => (g7 a' ha).2 c hc) (fun a' ha c hc => hfz _ _ (List.mem_append_right _ (List.mem_flatMap.2 ⟨i, List.mem_range.2 (by omega), by unfold Deep.intRowPlaces; rw [ha]; exact List.mem_map.2 ⟨c, List.mem_range.2 (by omega), rfl⟩⟩)))⟩, fun j u hu => ?_⟩
      match j, hu with
      | 0, hu => simp at hu; subst hu; simpa using g1
    · simp only [Rows.uptoBulk]
      have h1 := bulk_map (H := H) (fun r => Deep.intRow .u8 (A r) (L r) (Z r)) (fun r => (((Z r).take (L r)).map fun n => UInt8.ofNat n.toNat).length + 1) (List.range len) (fun r hr' => by
        have hrc : r < cap := by have := List.mem_range.1 hr'; omega
        rw [hrl r hrc]
        obtain ⟨-, g2, -, g4, -, g6, -⟩ := hr r hrc
        unfold Deep.intRow
        cases hA : A r with
        | none => have := g6 hA; simp only [Rows.uptoBulk]; omega
        | some a' =>
          simp only [Rows.uptoBulk]
          have h1 := bulk_len (H := H) (lits .u8 ((Z r).take (L r)))
          have h2 : (lits (H := H) .u8 ((Z r).take (L r))).length = L r := by simp [lits]; omega
          omega)
      have h2 : rowsSum ((List.range len).map fun r => ((Z r).take (L r)).map fun n => UInt8.ofNat n.toNat) = ((List.range len).map fun r => (((Z r).take (L r)).map fun n => UInt8.ofNat n.toNat).length + 1).sum := by
        unfold rowsSum; rw [List.map_map]; rfl
      rw [h2]
      omega
end

/-! ## The end of a law -/
section
variable {H : Type} {enc : TypeId × Value → H} {P : Program}
theorem args_stay (hl : laidOutB P = true) {W W' : World} (hb : Below W.heap.size W W') {sp : Nat → Bool} : ∀ {ts : List TypeId} {vs : List Value} {ds : List (DataW H)} {ps : List MemPlace},
    (∀ t ∈ ts, P.readableRec t = true ∧ t < P.types.size) → DataW.TrodAll enc P W 0 (fun _ => true) true ts vs ds ps → (∀ p ∈ ps, p.block < W.heap.size) → (∀ p ∈ ps, sp p.block = true) → DataW.TrodAll enc P W' 0 sp true ts vs ds ps
  | [], vs, ds, ps, _, h, _, _ => by
    obtain ⟨rfl, rfl, rfl⟩ := trodAll_nil h
    exact trodAll_mk0
  | t :: ts, vs, ds, ps, ht, h, hlt, hs => by
    obtain ⟨v, vs1, d, ds1, a, b, rfl, rfl, rfl, h1, h2⟩ := trodAll_cons h
    obtain ⟨r1, r2⟩ := ht t (List.mem_cons_self ..)
    refine trodAll_cons_mk (WideElems.Trod_stays hl r1 r2 h1 (fun x hx => hb.same (hlt x (List.mem_append_left _ hx))) (fun x hx => hs x (List.mem_append_left _ hx))) ?_
    exact args_stay hl hb (fun t' ht' => ht t' (List.mem_cons_of_mem _ ht')) h2 (fun x hx => hlt x (List.mem_append_right _ hx)) (fun x hx => hs x (List.mem_append_right _ hx))
/-- the law has told true, and nothing of what came in has turned -/
theorem law_done {f : Func} {s : ChangeSpec} {apart fresh handsOn again : Bool} {W W' : World} {args : Array Value} {ds gs : List (DataW H)} {before : List MemPlace} {tb : TypeId}
    (hl : laidOutB P = true) (hts : ∀ t ∈ f.params.toList, P.readableRec t = true ∧ t < P.types.size) (htb : P.underlying tb = some .bool) (hres : f.resultTypes = #[tb]) (hvs : s.vars = [])
    (hW : DataW.Whole enc P f.params.toList s.vars apart W args.toList ds gs before) (hfn : s.fn H (ds ++ gs) = { results := [.lit (.bool true)], args := ds }) (hb : Below W.heap.size W W') :
    s.post enc P f apart fresh handsOn again W args (.bool true) W' := by
  have hW' := hW
  obtain ⟨p, q, hA, hV, rfl, hfz, hnd⟩ := hW
  rw [hvs] at hV
  obtain ⟨rfl, rfl⟩ := trodVars_none hV
  have hlt : ∀ x ∈ p ++ [], x.block < W.heap.size := fun x hx => hW'.lt x hx
  have hold : ∀ x ∈ p ++ [], (fun b => decide (b < W.heap.size)) x.block = true := fun x hx => by simpa using hlt x hx
  have hargs : ∀ sp : Nat → Bool, (∀ x ∈ p ++ [], sp x.block = true) → DataW.TrodAll enc P W' 0 sp true f.params.toList args.toList (s.fn H (ds ++ [])).args p := fun sp hsp => by
    rw [hfn]
    exact args_stay hl hb hts hA (fun x hx => hlt x (by simpa using hx)) (fun x hx => hsp x (by simpa using hx))
  have hres' : ∀ (b : Nat) (sp : Nat → Bool) (hd : Bool), DataW.TrodAll enc P W' b sp hd f.resultTypes.toList ((Value.bool true).resultList f.resultTypes.size) (s.fn H (ds ++ [])).results [] := fun b sp hd => by
    rw [hres, hfn]
    exact trodAll_cons_mk (shut_bool htb _) trodAll_mk0
  have hvars : ∀ sp : Nat → Bool, (∀ x ∈ p ++ [], sp x.block = true) → DataW.TrodVars enc P W' sp s.vars (s.fn H (ds ++ [])).vars [] := fun sp _ => by
    rw [hfn, hvs]; rfl
  refine ⟨ds, [], p ++ [], [], p, [], hW', hres' _ _ _, hargs _ hold, hvars _ hold, World.keptBut_mono (fun x hx => ⟨hx, ?_⟩) (hb.frame (· ∈ p ++ [])), fun _ => ?_⟩
  · exact Or.inr (by simpa using hx)
  · refine ⟨ok_one hres rfl (okWide_bool_mk htb _), _, _, ([] ++ p) ++ [], ⟨[] ++ p, [], trodAll_append (hargs _ (fun _ _ => rfl)) (hres' _ _ _), hvars _ (fun _ _ => rfl), rfl, ?_, ?_⟩, ?_⟩
    · intro b off hp
      have hin : MemPlace.cell b off ∈ p ++ [] := by simpa using hp
      rw [hb.frozen (hlt _ hin)]
      exact hfz b off hin
    · intro ha
      simpa using hnd ha
    · intro x hx _
      simpa using hx
end
end Go.Proofs.Ytndkkgkcbbmnpaa
namespace Go.Pg
open Go.RowKit

inductive It where
  | text (b : List UInt8)
  | list (l : List It)

namespace It
def isList : It → Bool | .text _ => false | .list _ => true
def bytes : It → List UInt8 | .text b => b | .list _ => []
def items : It → List It | .text _ => [] | .list l => l
end It

/-- how many bytes a number takes -/
def number (n : Nat) : Nat := if n = 0 then 0 else number (n / 256) + 1
termination_by n
theorem number_zero : number 0 = 0 := by rw [number]; rfl
theorem number_pos {n : Nat} (h : 0 < n) : number n = number (n / 256) + 1 := by rw [number, if_neg (by omega)]
theorem number_le (k : Nat) : ∀ n, n < 256 ^ k → number n ≤ k := by
  induction k with
  | zero => intro n h; have : n = 0 := by simpa using h
            subst this; rw [number_zero]; exact Nat.le_refl _
  | succ k ih =>
    intro n h
    by_cases h0 : n = 0
    · subst h0; rw [number_zero]; omega
    · rw [number_pos (by omega)]
      have := ih (n / 256) (by rw [Nat.pow_succ] at h; omega)
      omega

/-- a text that stands for itself -/
def plainB (b : List UInt8) : Bool := b.length == 1 && (b.headD 0).toNat < 128
/-- head and body together, of a body of n bytes -/
def sz (n : Nat) : Nat := if n ≤ 55 then n + 1 else n + 1 + number n
mutual
def It.whole : It → Nat
  | .text b => if plainB b then 1 else sz b.length
  | .list l => sz (It.wholes l)
def It.wholes : List It → Nat
  | [] => 0
  | x :: r => It.whole x + It.wholes r
end
def It.body : It → Nat
  | .text b => b.length
  | .list l => It.wholes l
def It.plain : It → Bool
  | .text b => plainB b
  | .list _ => false
theorem It.whole_eq (x : It) : x.whole = if x.plain then 1 else sz x.body := by
  cases x with
  | text b => simp only [It.whole, It.plain, It.body]; rfl
  | list l => simp [It.whole, It.plain, It.body]
theorem It.body_eq (x : It) : x.body = x.bytes.length + It.wholes x.items := by cases x <;> simp [It.body, It.bytes, It.items, It.wholes]
theorem It.plain_eq (x : It) : x.plain = (!x.isList && plainB x.bytes) := by cases x <;> simp [It.plain, It.isList, It.bytes]
theorem It.wholes_append (l m : List It) : It.wholes (l ++ m) = It.wholes l + It.wholes m := by
  induction l with
  | nil => simp [It.wholes]
  | cons x r ih => simp only [List.cons_append, It.wholes, ih]; omega
theorem It.wholes_take_le (l : List It) (k : Nat) : It.wholes (l.take k) ≤ It.wholes l := by
  have := It.wholes_append (l.take k) (l.drop k)
  rw [List.take_append_drop] at this; omega
theorem It.wholes_take_succ (l : List It) (k : Nat) (h : k < l.length) : It.wholes (l.take (k + 1)) = It.wholes (l.take k) + l[k].whole := by
  rw [List.take_succ_eq_append_getElem h, It.wholes_append]; simp [It.wholes]
theorem sz_ge (n : Nat) : n + 1 ≤ sz n := by unfold sz; split <;> omega
theorem It.body_le_whole (x : It) : x.body ≤ x.whole := by
  rw [It.whole_eq]
  split
  · rename_i h
    cases x with
    | text b => simp [It.plain, plainB] at h; simp [It.body, h.1]
    | list l => simp [It.plain] at h
  · have := sz_ge x.body; omega
theorem It.whole_pos (x : It) : 1 ≤ x.whole := by
  rw [It.whole_eq]; split
  · exact Nat.le_refl _
  · have := sz_ge x.body; omega

theorem It.length_le_wholes (l : List It) : l.length ≤ It.wholes l := by
  induction l with
  | nil => simp
  | cons y r ih => have := It.whole_pos y; simp only [List.length_cons, It.wholes]; omega

/-- bytes of n, k of them, most significant first -/
def beBytes : Nat → Nat → List UInt8
  | 0, _ => []
  | k + 1, n => beBytes k (n / 256) ++ [UInt8.ofNat (n % 256)]
/-- the bytes ahead of a body of n bytes -/
def headB (base n : Nat) : List UInt8 :=
  if n ≤ 55 then [UInt8.ofNat (base + n)] else UInt8.ofNat (base + 55 + number n) :: beBytes (number n) n
theorem shift_byte (n m : Nat) : (n : Int) / 2 ^ (8 * m) % 256 = ((n / 256 ^ m % 256 : Nat) : Int) := by
  have h : (2 : Int) ^ (8 * m) = ((256 ^ m : Nat) : Int) := by
    rw [show (256 : Nat) = 2 ^ 8 from rfl, ← Nat.pow_mul, Int.natCast_pow]; rfl
  rw [h]; rfl
mutual
def It.enc : It → List UInt8
  | .text b => if plainB b then b else headB 128 b.length ++ b
  | .list l => headB 192 (It.encs l).length ++ It.encs l
def It.encs : List It → List UInt8
  | [] => []
  | x :: r => It.enc x ++ It.encs r
end
theorem beBytes_length (k n : Nat) : (beBytes k n).length = k := by
  induction k generalizing n with
  | zero => rfl
  | succ k ih => simp [beBytes, ih]
theorem beBytes_get (k n i : Nat) (h : i < k) : (beBytes k n)[i]? = some (UInt8.ofNat (n / 256 ^ (k - 1 - i) % 256)) := by
  induction k generalizing n with
  | zero => omega
  | succ k ih =>
    simp only [beBytes]
    by_cases hi : i < k
    · rw [List.getElem?_append_left (by rw [beBytes_length]; exact hi), ih _ hi, Nat.div_div_eq_div_mul, ← Nat.pow_succ', show (k - 1 - i).succ = k + 1 - 1 - i by omega]
    · obtain rfl : i = k := by omega
      rw [List.getElem?_append_right (by rw [beBytes_length]; exact Nat.le_refl _), beBytes_length]
      simp
theorem beBytes_take (k n i : Nat) (h : i < k) : (beBytes k n).take (i + 1) = (beBytes k n).take i ++ [UInt8.ofNat (n / 256 ^ (k - 1 - i) % 256)] := by
  have h1 : i < (beBytes k n).length := by rw [beBytes_length]; exact h
  rw [List.take_succ_eq_append_getElem h1]
  have := beBytes_get k n i h
  rw [List.getElem?_eq_getElem h1] at this
  rw [Option.some.inj this]
theorem headB_length (base n : Nat) : (headB base n).length + n = sz n := by
  unfold headB sz; split <;> simp [beBytes_length] <;> omega
mutual
theorem It.enc_length : ∀ x : It, x.enc.length = x.whole
  | .text b => by
    simp only [It.enc, It.whole]
    by_cases h : plainB b = true
    · rw [if_pos h, if_pos h]; simp [plainB] at h; exact h.1
    · rw [if_neg h, if_neg h, List.length_append, headB_length]
  | .list l => by
    simp only [It.enc, It.whole]
    rw [List.length_append, headB_length, It.encs_length l]
theorem It.encs_length : ∀ l : List It, (It.encs l).length = It.wholes l
  | [] => rfl
  | x :: r => by simp only [It.encs, It.wholes, List.length_append, It.enc_length x, It.encs_length r]
end
theorem It.encs_append (l m : List It) : It.encs (l ++ m) = It.encs l ++ It.encs m := by
  induction l with
  | nil => simp [It.encs]
  | cons x r ih => simp only [List.cons_append, It.encs, ih, List.append_assoc]
theorem It.encs_take_succ (l : List It) (k : Nat) (h : k < l.length) : It.encs (l.take (k + 1)) = It.encs (l.take k) ++ l[k].enc := by
  rw [List.take_succ_eq_append_getElem h, It.encs_append]; simp [It.encs]
/-- the body's bytes -/
def It.bodyB : It → List UInt8
  | .text b => b
  | .list l => It.encs l
theorem It.bodyB_length (x : It) : x.bodyB.length = x.body := by cases x <;> simp [It.bodyB, It.body, It.encs_length]
theorem It.bodyB_eq (x : It) : x.bodyB = x.bytes ++ It.encs x.items := by cases x <;> simp [It.bodyB, It.bytes, It.items, It.encs]
def It.base (x : It) : Nat := if x.isList then 192 else 128
theorem It.enc_eq (x : It) : x.enc = if x.plain then x.bytes else headB x.base x.body ++ x.bodyB := by
  cases x <;> simp [It.enc, It.plain, It.bytes, It.base, It.isList, It.body, It.bodyB, It.encs_length]

/-! ## How an item lies in memory: three cells; d: at least how deep it goes -/
def ItemAt (F : Nat → Prop) (w : World) : Nat → List Value → It → Prop
  | 0, _, _ => False
  | d + 1, cs, x => ∃ v1 v2, cs = [.bool x.isList, v1, v2] ∧ BytesAt F w v1 x.bytes ∧ SliceAt F w 3 (ItemAt F w d) v2 x.items
abbrev ItemsAt (F : Nat → Prop) (w : World) (d : Nat) (v : Value) (l : List It) : Prop := SliceAt F w 3 (ItemAt F w d) v l

theorem ItemAt.carry {F F' : Nat → Prop} {w w' : World} (hF : ∀ b, b < w.heap.size → F b → F' b) (hb : ∀ b, F b → b < w.heap.size → w'.heap[b]? = w.heap[b]?) :
    ∀ (d : Nat) (cs : List Value) (x : It), ItemAt F w d cs x → ItemAt F' w' d cs x
  | 0, _, _, h => h.elim
  | d + 1, cs, x, h => by
    obtain ⟨v1, v2, h1, h2, h3⟩ := h
    exact ⟨v1, v2, h1, h2.carry hF hb, h3.carry (by decide) hF hb (fun cs x _ => ItemAt.carry hF hb d cs x)⟩
theorem ItemAt.below {F : Nat → Prop} {w w' : World} {d : Nat} {cs : List Value} {x : It} (h : ItemAt F w d cs x) (hb : Below w.heap.size w w') : ItemAt F w' d cs x :=
  h.carry (fun _ _ x => x) (fun b _ hlt => hb.block b hlt)
theorem ItemsAt.carry {F F' : Nat → Prop} {w w' : World} {d : Nat} {v : Value} {l : List It} (h : ItemsAt F w d v l) (hF : ∀ b, b < w.heap.size → F b → F' b) (hb : ∀ b, F b → b < w.heap.size → w'.heap[b]? = w.heap[b]?) : ItemsAt F' w' d v l :=
  SliceAt.carry h (by decide) hF hb (fun cs x _ => ItemAt.carry hF hb d cs x)
theorem ItemsAt.below {F : Nat → Prop} {w w' : World} {d : Nat} {v : Value} {l : List It} (h : ItemsAt F w d v l) (hb : Below w.heap.size w w') : ItemsAt F w' d v l :=
  h.carry (fun _ _ x => x) (fun b _ hlt => hb.block b hlt)
theorem ItemAt.deeper {F : Nat → Prop} {w : World} : ∀ (d d' : Nat) (cs : List Value) (x : It), d ≤ d' → ItemAt F w d cs x → ItemAt F w d' cs x
  | 0, _, _, _, _, h => h.elim
  | d + 1, 0, _, _, hd, _ => absurd hd (by omega)
  | d + 1, d' + 1, cs, x, hd, h => by
    obtain ⟨v1, v2, h1, h2, h3⟩ := h
    exact ⟨v1, v2, h1, h2, h3.carry (by decide) (fun _ _ x => x) (fun _ _ _ => rfl) (fun cs x _ => ItemAt.deeper d d' cs x (by omega))⟩
theorem ItemAt.form {F : Nat → Prop} {w : World} {d : Nat} {l : Bool} {v1 v2 : Value} {x : It} (h : ItemAt F w d [.bool l, v1, v2] x) :
    l = x.isList ∧ ∃ a1 n1 c1 a2 n2 c2, v1 = .slice a1 n1 c1 ∧ v2 = .slice a2 n2 c2 ∧ n1 = x.bytes.length ∧ n2 = x.items.length := by
  cases d with
  | zero => exact h.elim
  | succ d =>
    obtain ⟨u1, u2, h1, h2, h3⟩ := h
    simp only [List.cons.injEq, Value.bool.injEq, and_true] at h1
    obtain ⟨rfl, rfl, rfl⟩ := h1
    obtain ⟨a1, c1, e1, _⟩ := SliceAt.len h2
    obtain ⟨a2, c2, e2, _⟩ := SliceAt.len h3
    exact ⟨rfl, a1, _, c1, a2, _, c2, e1, e2, rfl, rfl⟩
theorem ItemAt.bytes {F : Nat → Prop} {w : World} {d : Nat} {l : Bool} {v1 v2 : Value} {x : It} (h : ItemAt F w d [.bool l, v1, v2] x) : BytesAt F w v1 x.bytes := by
  cases d with
  | zero => exact h.elim
  | succ d =>
    obtain ⟨u1, u2, h1, h2, h3⟩ := h
    simp only [List.cons.injEq, and_true] at h1
    obtain ⟨-, rfl, rfl⟩ := h1
    exact h2
theorem ItemAt.items {F : Nat → Prop} {w : World} {d : Nat} {l : Bool} {v1 v2 : Value} {x : It} (h : ItemAt F w (d + 1) [.bool l, v1, v2] x) : ItemsAt F w d v2 x.items := by
  obtain ⟨u1, u2, h1, h2, h3⟩ := h
  simp only [List.cons.injEq, and_true] at h1
  obtain ⟨-, rfl, rfl⟩ := h1
  exact h3
theorem ItemAt.one {F : Nat → Prop} {w : World} (d : Nat) : ∀ cs x, ItemAt F w d cs x → ∀ u ∈ cs, u.oneCell' = true := by
  intro cs x h u hu
  cases d with
  | zero => exact h.elim
  | succ d =>
    obtain ⟨v1, v2, rfl, h2, h3⟩ := h
    obtain ⟨a1, c1, rfl, _⟩ := SliceAt.len h2
    obtain ⟨a2, c2, rfl, _⟩ := SliceAt.len h3
    simp at hu
    rcases hu with rfl | rfl | rfl <;> rfl
theorem ItemsAt.cell {F : Nat → Prop} {w : World} {d b o n c : Nat} {l : List It} (h : ItemsAt F w d (.slice (some ⟨b, o, none⟩) n c) l) (i : Nat) (hi : i < l.length) :
    ∃ a1 n1 c1 a2 n2 c2, w.cell? ⟨b, o + i * 3, none⟩ = some (.bool l[i].isList) ∧ w.cell? ⟨b, o + i * 3 + 1, none⟩ = some (.slice a1 n1 c1) ∧ w.cell? ⟨b, o + i * 3 + 2, none⟩ = some (.slice a2 n2 c2) ∧
      ItemAt F w d [.bool l[i].isList, .slice a1 n1 c1, .slice a2 n2 c2] l[i] := by
  obtain ⟨cs, _, hr, hj⟩ := SliceAt.row h i hi
  cases d with
  | zero => exact hr.elim
  | succ d =>
    obtain ⟨v1, v2, h1, h2, h3⟩ := hr
    subst h1
    obtain ⟨_, a1, n1, c1, a2, n2, c2, rfl, rfl, _, _⟩ := ItemAt.form (show ItemAt F w (d + 1) _ _ from ⟨v1, v2, rfl, h2, h3⟩)
    exact ⟨a1, n1, c1, a2, n2, c2, by simpa using hj 0 _ rfl, by simpa using hj 1 _ rfl, by simpa using hj 2 _ rfl, _, _, rfl, h2, h3⟩
end Go.Pg
