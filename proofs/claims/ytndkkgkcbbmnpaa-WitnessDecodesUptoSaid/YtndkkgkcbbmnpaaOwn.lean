/-
  A list that the call gathers in a slice of its own, its elements with memory of their own: what an append of one more does.
-/
import Derived.Test.YtndkkgkcbbmnpaaItem
namespace Go.Pg
open Go.RowKit
section
variable {α : Type}
/-- A reading of an element's cells that other memory does not touch. -/
structure Carried (A : (Nat → Prop) → World → List Value → α → Prop) : Prop where
  carry : ∀ {F F' : Nat → Prop} {w w' : World} {cs : List Value} {x : α}, A F w cs x → (∀ b, b < w.heap.size → F b → F' b) → (∀ b, F b → b < w.heap.size → w'.heap[b]? = w.heap[b]?) → A F' w' cs x
  one : ∀ {F : Nat → Prop} {w : World} cs x, A F w cs x → ∀ u ∈ cs, u.oneCell' = true
theorem carriedRow : Carried rowR := ⟨fun h hF hb => h.carry hF hb, fun cs x h => rowR.one cs x h⟩
theorem carriedItem (d : Nat) : Carried (fun F w cs x => ItemAt F w d cs x) := ⟨fun h hF hb => h.carry hF hb, fun cs x h => ItemAt.one d cs x h⟩

/-- v is the call's own, its elements lie in blocks of G, none of them v's own block -/
def OwnList (A : (Nat → Prop) → World → List Value → α → Prop) (G : Nat → Prop) (n : Nat) (W : World) (e : TypeId) (sz : Nat) (v : Value) (l : List α) : Prop :=
  ∃ F : Nat → Prop, (∀ b, F b → G b ∧ b < W.heap.size) ∧ (∀ g, v.ownBlock = some g → ¬ F g) ∧ OwnAt W n e sz (A F W) v l
variable {A : (Nat → Prop) → World → List Value → α → Prop} {G : Nat → Prop} {n : Nat} {W W' : World} {e : TypeId} {sz : Nat} {v : Value} {l : List α}
theorem OwnList.nil : OwnList A G n W e sz (.slice none 0 0) [] :=
  ⟨fun _ => False, fun _ h => h.elim, fun _ _ h => h, OwnAt.nil _ _ _ _ _⟩
theorem OwnList.empty (g : Nat) (c : Nat) (hg : n ≤ g) (hc : c ≤ maxLen) (cs : Array Value) (h : W.heap[g]? = some (.cells cs e (0, 0))) (hs : cs.size = c * sz) : OwnList A G n W e sz (.slice (some ⟨g, 0, none⟩) 0 c) ([] : List α) :=
  ⟨fun _ => False, fun _ h => h.elim, fun _ _ h => h, [], ⟨by simp, .inr ⟨g, c, cs, rfl, hg, h, Nat.zero_le _, hc, hs, by simp⟩⟩, Rows.nil _ _⟩
theorem OwnList.own (h : OwnList A G n W e sz v l) : ∀ k, v.ownBlock = some k → n ≤ k ∧ k < W.heap.size :=
  let ⟨_, _, _, h3⟩ := h; h3.own
theorem OwnList.len (h : OwnList A G n W e sz v l) : ∃ a c, v = .slice a l.length c ∧ l.length ≤ c ∧ c ≤ maxLen ∧ (a = none → c = 0) :=
  let ⟨_, _, _, h3⟩ := h; h3.len
/-- behind a call that writes none of it -/
theorem OwnList.carry (hA : Carried A) (h : OwnList A G n W e sz v l) (hsz : W.heap.size ≤ W'.heap.size)
    (hG : ∀ b, G b → b < W.heap.size → W'.heap[b]? = W.heap[b]?) (ho : ∀ g, v.ownBlock = some g → W'.heap[g]? = W.heap[g]?) : OwnList A G n W' e sz v l := by
  obtain ⟨F, h1, h2, h3⟩ := h
  exact ⟨F, fun b hb => ⟨(h1 b hb).1, Nat.lt_of_lt_of_le (h1 b hb).2 hsz⟩, h2,
    (h3.carry fun g hg _ _ => ho g hg).mono fun cs x _ hx => hA.carry hx (fun _ _ x => x) (fun b hb hlt => hG b (h1 b hb).1 hlt)⟩
theorem OwnList.call (hA : Carried A) (h : OwnList A G n W e sz v l) (hb : Below W.heap.size W W') : OwnList A G n W' e sz v l :=
  h.carry hA hb.size (fun b _ hlt => hb.block b hlt) (fun g hg => hb.block g (h.own g hg).2)
theorem OwnList.at (hA : Carried A) (h : OwnList A G n W e sz v l) {G' : Nat → Prop} (hG : ∀ b, G b → b < W.heap.size → G' b) (hn : ∀ b, n ≤ b → b < W.heap.size → G' b) (hsz : 0 < sz) : SliceAt G' W sz (A G' W) v l := by
  obtain ⟨F, h1, h2, h3⟩ := h
  exact (h3.mono (R' := A G' W) fun cs x _ hx => hA.carry hx (fun b hlt hb => hG b (h1 b hb).1 hlt) (fun _ _ _ => rfl)).at (fun g _ hg hlt => hn g hg hlt) hsz
/-- One more: what the append wants, and what it gives. The new element's cells stand in a block laid for them. -/
theorem OwnList.push (hA : Carried A) (h : OwnList A G n W e sz v l) {H : Nat → Prop} {cs : List Value} {x : α} (hx : A H W cs x) (hcs : cs.length = sz) (_hsz : 0 < sz)
    (hH : ∀ b, b < W.heap.size → H b → G b ∧ v.ownBlock ≠ some b) (t : TypeId) :
    ∃ R : List Value → α → Prop, (∀ cs x, R cs x → ∀ u ∈ cs, u.oneCell' = true) ∧ OwnAt (W.alloc (.cells cs.toArray t)) n e sz R v l ∧
      SliceAt (fun _ => True) (W.alloc (.cells cs.toArray t)) sz R (.slice (some ⟨W.heap.size, 0, none⟩) 1 1) [x] ∧
      ∀ v' W2, OwnAt W2 n e sz R v' (l ++ [x]) → (W.alloc (.cells cs.toArray t)).grownBy W2 v.ownBlock → Moved (W.alloc (.cells cs.toArray t)) v v' → OwnList A G n W2 e sz v' (l ++ [x]) := by
  obtain ⟨F, h1, h2, h3⟩ := h
  refine ⟨A (fun b => F b ∨ (H b ∧ b < W.heap.size)) W, hA.one, ?_, ?_, ?_⟩
  · exact (h3.carry fun g _ _ hlt => Below.heap_alloc _ _ _ hlt).mono fun cs x _ hx => hA.carry hx (fun b _ hb => .inl hb) (fun _ _ _ => rfl)
  · refine ⟨some ⟨W.heap.size, 0, none⟩, 1, rfl, Nat.le_refl _, by decide, (fun h => by cases h), fun _ => ⟨_, _, rfl, trivial, fun i y hy => ?_⟩, fun b o j ha _ => by simp only [Option.some.injEq, Addr.mk.injEq, and_true] at ha; obtain ⟨rfl, rfl⟩ := ha; simp⟩
    match i, hy with
    | 0, hy =>
      simp only [List.getElem?_cons_zero, Option.some.injEq] at hy
      subst hy
      refine ⟨cs, hcs, hA.carry hx (fun b hlt hb => .inr ⟨hb, hlt⟩) (fun _ _ _ => rfl), fun j u hu => ?_⟩
      simp only [Nat.zero_mul, Nat.zero_add, World.cell?_alloc_new]
      simpa using hu
  · intro v' W2 ho hg hm
    have hs := hg.size
    simp only [World.size_alloc] at hs
    refine ⟨fun b => F b ∨ (H b ∧ b < W.heap.size), ?_, ?_, ?_⟩
    · rintro b (hb | hb)
      · exact ⟨(h1 b hb).1, by have := (h1 b hb).2; omega⟩
      · exact ⟨(hH b hb.2 hb.1).1, by omega⟩
    · intro g hg' hb
      rcases hm g hg' with hv | hv
      · rcases hb with hb | hb
        · exact h2 g hv hb
        · exact (hH g hb.2 hb.1).2 hv
      · simp only [World.size_alloc] at hv
        rcases hb with hb | hb
        · have := (h1 g hb).2; omega
        · omega
    · refine ho.mono fun cs y _ hy => hA.carry hy (fun _ _ x => x) fun b hb hlt => ?_
      rw [hg.block b (by simp; omega) (fun e => ?_), Below.heap_alloc _ _ _ hlt]
      rcases hb with hb | hb
      · exact h2 b e.symm hb
      · exact (hH b hb.2 hb.1).2 e.symm
/-- a row of elements that has just been laid -/
theorem rows_alloc (hA : Carried A) {F F' : Nat → Prop} {xs : List Value} (h : Rows sz (A F W) xs l) (hl : l.length ≤ maxLen) (hF : ∀ b, b < W.heap.size → F b → F' b) (hn : F' W.heap.size) (t : TypeId) :
    SliceAt F' (W.alloc (.cells xs.toArray t)) sz (A F' (W.alloc (.cells xs.toArray t))) (.slice (some ⟨W.heap.size, 0, none⟩) l.length l.length) l := by
  refine ⟨some ⟨W.heap.size, 0, none⟩, l.length, rfl, Nat.le_refl _, hl, (fun h => by cases h), fun _ => ⟨_, _, rfl, hn, fun i x hx => ?_⟩, fun b o j ha _ => by simp only [Option.some.injEq, Addr.mk.injEq, and_true] at ha; obtain ⟨rfl, rfl⟩ := ha; simp⟩
  obtain ⟨cs, h1, h2, h3⟩ := h.2 i x hx
  refine ⟨cs, h1, hA.carry h2 hF (fun b _ hlt => Below.heap_alloc _ _ _ hlt), fun j u hu => ?_⟩
  have := h3 j u hu
  rw [Nat.zero_add, World.cell?_alloc_new]
  simpa using this
end
end Go.Pg
