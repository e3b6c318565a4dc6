/-
  Contract of (*nest.reader).list, where that of item is known.
-/
import Derived.Test.YtndkkgkcbbmnpaaDecD
import Derived.Test.YtndkkgkcbbmnpaaOwn
import Derived.Test.YtndkkgkcbbmnpaaStep
import Derived.Deep.RegionLaw
namespace Go.Pg
open Go.RowKit
/-- an item, or three cells of its make -/
def OItem (d : Nat) (F : Nat → Prop) (w : World) (cs : List Value) : Option It → Prop
  | some x => ItemAt F w d cs x
  | none => ∃ l a n c a' n' c', cs = [.bool l, .slice a n c, .slice a' n' c']
theorem carriedO (d : Nat) : Carried (OItem d) := by
  refine ⟨fun {F F' w w' cs x} h hF hb => ?_, fun {F w} cs x h => ?_⟩
  · cases x with
    | some x => exact ItemAt.carry hF hb d cs x h
    | none => exact h
  · cases x with
    | some x => exact ItemAt.one d cs x h
    | none =>
      obtain ⟨l, a, n, c, a', n', c', rfl⟩ := h
      intro u hu
      simp at hu
      rcases hu with rfl | rfl | rfl <;> rfl
/-- reading an item takes at least a byte -/
theorem rdText_rest (t : List UInt8) (r : Nat × Nat × List UInt8) (h : r.2.2.length ≤ t.length) : (rdText r).2.2.length ≤ t.length := by
  unfold rdText
  split
  · simp
  · split
    · simp
    · split
      · simp
      · simp; omega
theorem rdList_rest (rd : List UInt8 → Nat × It × List UInt8) (t : List UInt8) (r : Nat × Nat × List UInt8) (h : r.2.2.length ≤ t.length) : (rdList rd r).2.2.length ≤ t.length := by
  unfold rdList
  split
  · simp
  · split
    · simp
    · split
      · simp
      · simp; omega
theorem rdItem_rest (f : Nat) (c : UInt8) (t : List UInt8) : (rdItem f (c :: t)).2.2.length ≤ t.length := by
  by_cases h1 : c.toNat < 128
  · have : rdItem f (c :: t) = (0, .text [c], t) := by unfold rdItem; rw [if_pos h1]
    rw [this]; exact Nat.le_refl _
  · by_cases h2 : c.toNat < 192
    · have : rdItem f (c :: t) = rdText (readSize (c.toNat - 128) t) := by unfold rdItem; rw [if_neg h1, if_pos h2]
      rw [this]; exact rdText_rest t (readSize (c.toNat - 128) t) (readSize_le _ _).2
    · cases f with
      | zero =>
        have : rdItem 0 (c :: t) = (21, .text [], []) := by unfold rdItem; rw [if_neg h1, if_neg h2]
        rw [this]; exact Nat.zero_le _
      | succ f =>
        have : rdItem (f + 1) (c :: t) = rdList (rdItem f) (readSize (c.toNat - 192) t) := by rw [rdItem, if_neg h1, if_neg h2]
        rw [this]; exact rdList_rest (rdItem f) t (readSize (c.toNat - 192) t) (readSize_le _ _).2
/-- how far a list's reading has come: what was gathered, the fault, the bytes behind -/
def ListSt (f K : Nat) (L : List UInt8) (os : List (Option It)) (e : Nat) (rest : List UInt8) : Prop :=
  (e = 0 → ∃ j its, os = its.map some ∧ rest.length ≤ j ∧ (rdAll (rdItem f) K L).1 = (rdAll (rdItem f) j rest).1 ∧ (rdAll (rdItem f) K L).2 = its ++ (rdAll (rdItem f) j rest).2) ∧
    (e ≠ 0 → (rdAll (rdItem f) K L).1 = e)
theorem ListSt.start (f : Nat) (K : Nat) (L : List UInt8) (h : L.length ≤ K) : ListSt f K L [] 0 L :=
  ⟨fun _ => ⟨K, [], rfl, h, rfl, rfl⟩, fun h => absurd rfl h⟩
theorem ListSt.step {f K : Nat} {L : List UInt8} {os : List (Option It)} {c : UInt8} {t : List UInt8} (h : ListSt f K L os 0 (c :: t)) :
    ListSt f K L (os ++ [if (rdItem f (c :: t)).1 = 0 then some (rdItem f (c :: t)).2.1 else none]) (rdItem f (c :: t)).1 (rdItem f (c :: t)).2.2 := by
  obtain ⟨j, its, h1, h2, h3, h4⟩ := h.1 rfl
  have hr := rdItem_rest f c t
  cases j with
  | zero => simp at h2
  | succ j =>
    simp only [rdAll] at h3 h4
    rw [if_neg (by simp)] at h3 h4
    refine ⟨fun h0 => ?_, fun hn => ?_⟩
    · rw [if_neg (by simp [h0])] at h3 h4
      refine ⟨j, its ++ [(rdItem f (c :: t)).2.1], by rw [if_pos h0, h1]; simp, by simp at h2; omega, h3, by rw [h4]; simp⟩
    · rw [if_pos hn] at h3
      exact h3
theorem ListSt.done {f K : Nat} {L : List UInt8} {os : List (Option It)} (h : ListSt f K L os 0 []) : (rdAll (rdItem f) K L).1 = 0 ∧ os = (rdAll (rdItem f) K L).2.map some := by
  obtain ⟨j, its, h1, h2, h3, h4⟩ := h.1 rfl
  have : rdAll (rdItem f) j [] = (0, []) := by cases j <;> simp [rdAll]
  rw [this] at h3 h4
  exact ⟨h3, by rw [h4]; simpa using h1⟩
end Go.Pg
