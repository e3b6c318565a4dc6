/-
  Reading items out of bytes, as plain functions: an error's number (0: none), what was read, and the bytes behind it.
-/
import Derived.Test.YtndkkgkcbbmnpaaSlice
namespace Go.Pg
/-- what bytes say as a number -/
def beNum (l : List UInt8) : Nat := l.foldl (fun n c => n * 256 + c.toNat) 0
theorem beNum_snoc (l : List UInt8) (c : UInt8) : beNum (l ++ [c]) = beNum l * 256 + c.toNat := by simp [beNum]
theorem foldl_lt (l : List UInt8) : ∀ a : Nat, l.foldl (fun n c => n * 256 + c.toNat) a < (a + 1) * 256 ^ l.length := by
  induction l with
  | nil => intro a; simp
  | cons c l ih =>
    intro a
    have h1 := ih (a * 256 + c.toNat)
    have h2 := c.toNat_lt
    simp only [List.foldl_cons, List.length_cons, Nat.pow_succ]
    have h3 : (a * 256 + c.toNat + 1) * 256 ^ l.length ≤ ((a + 1) * 256) * 256 ^ l.length := Nat.mul_le_mul_right _ (by omega)
    have h4 : (a + 1) * (256 ^ l.length * 256) = ((a + 1) * 256) * 256 ^ l.length := by rw [Nat.mul_comm (256 ^ l.length), Nat.mul_assoc]
    omega
theorem beNum_lt (l : List UInt8) : beNum l < 256 ^ l.length := by
  have := foldl_lt l 0
  simpa [beNum] using this
/-- a body's size, by what its first byte has above that of an empty one -/
def readSize (n : Nat) (bs : List UInt8) : Nat × Nat × List UInt8 :=
  if n ≤ 55 then (0, n, bs)
  else if 58 < n then (23, 0, bs)
  else if bs.length < n - 55 then (22, 0, bs)
  else if (bs.headD 0) = 0 ∨ beNum (bs.take (n - 55)) ≤ 55 then (23, 0, bs.drop (n - 55))
  else (0, beNum (bs.take (n - 55)), bs.drop (n - 55))
theorem readSize_le (m : Nat) (t : List UInt8) : (readSize m t).2.1 ≤ 16777215 ∧ (readSize m t).2.2.length ≤ t.length := by
  unfold readSize
  split
  · exact ⟨by simp; omega, Nat.le_refl _⟩
  · split
    · exact ⟨by simp, Nat.le_refl _⟩
    · split
      · exact ⟨by simp, Nat.le_refl _⟩
      · split
        · exact ⟨by simp, by simp⟩
        · have h1 := beNum_lt (t.take (m - 55))
          have h2 : (t.take (m - 55)).length ≤ 3 := by rw [List.length_take]; omega
          have h3 : 256 ^ (t.take (m - 55)).length ≤ 256 ^ 3 := Nat.pow_le_pow_right (by omega) h2
          exact ⟨by simp only; omega, by simp⟩
/-- all items of a list's body -/
def rdAll (rd : List UInt8 → Nat × It × List UInt8) : Nat → List UInt8 → Nat × List It
  | 0, _ => (0, [])
  | k + 1, bs => if bs = [] then (0, []) else if (rd bs).1 ≠ 0 then ((rd bs).1, []) else ((rdAll rd k (rd bs).2.2).1, (rd bs).2.1 :: (rdAll rd k (rd bs).2.2).2)
/-- behind a text's size -/
def rdText (r : Nat × Nat × List UInt8) : Nat × It × List UInt8 :=
  if r.1 ≠ 0 then (r.1, .text [], [])
  else if r.2.2.length < r.2.1 then (22, .text [], [])
  else if r.2.1 = 1 ∧ (r.2.2.headD 0).toNat < 128 then (23, .text [], [])
  else (0, .text (r.2.2.take r.2.1), r.2.2.drop r.2.1)
/-- behind a list's size -/
def rdList (rd : List UInt8 → Nat × It × List UInt8) (r : Nat × Nat × List UInt8) : Nat × It × List UInt8 :=
  if r.1 ≠ 0 then (r.1, .text [], [])
  else if r.2.2.length < r.2.1 then (22, .text [], [])
  else if (rdAll rd r.2.1 (r.2.2.take r.2.1)).1 ≠ 0 then ((rdAll rd r.2.1 (r.2.2.take r.2.1)).1, .text [], [])
  else (0, .list (rdAll rd r.2.1 (r.2.2.take r.2.1)).2, r.2.2.drop r.2.1)
/-- the next item, of which so many lists may still be in one another -/
def rdItem : Nat → List UInt8 → Nat × It × List UInt8
  | _, [] => (22, .text [], [])
  | f, c :: t =>
    if c.toNat < 128 then (0, .text [c], t)
    else if c.toNat < 192 then rdText (readSize (c.toNat - 128) t)
    else match f with
      | 0 => (21, .text [], [])
      | f + 1 => rdList (rdItem f) (readSize (c.toNat - 192) t)
/-- bytes that are one item's -/
def rdWhole (bs : List UInt8) : Nat × It :=
  if (rdItem 8 bs).1 ≠ 0 then ((rdItem 8 bs).1, .text []) else if (rdItem 8 bs).2.2 ≠ [] then (24, .text []) else (0, (rdItem 8 bs).2.1)
end Go.Pg
