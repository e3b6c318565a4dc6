/-
  Items (byte strings and nested lists of them) as plain data: their encoding, its length; and how a Go value of three cells reads as an item.
-/
import Derived.Test.YtndkkgkcbbmnpaaMem
namespace Go.Pg
open Go.RowKit

inductive It where
  | text (b : List UInt8)
  | list (l : List It)

namespace It
def isList : It → Bool | .text _ => false | .list _ => true
def bytes : It → List UInt8 | .text b => b | .list _ => []
def items : It → List It | .text _ => [] | .list l => l
end It

/-- how many bytes a number takes -/
def number (n : Nat) : Nat := if n = 0 then 0 else number (n / 256) + 1
termination_by n
theorem number_zero : number 0 = 0 := by rw [number]; rfl
theorem number_pos {n : Nat} (h : 0 < n) : number n = number (n / 256) + 1 := by rw [number, if_neg (by omega)]
theorem number_le (k : Nat) : ∀ n, n < 256 ^ k → number n ≤ k := by
  induction k with
  | zero => intro n h; have : n = 0 := by simpa using h
            subst this; rw [number_zero]; exact Nat.le_refl _
  | succ k ih =>
    intro n h
    by_cases h0 : n = 0
    · subst h0; rw [number_zero]; omega
    · rw [number_pos (by omega)]
      have := ih (n / 256) (by rw [Nat.pow_succ] at h; omega)
      omega

/-- a text that stands for itself -/
def plainB (b : List UInt8) : Bool := b.length == 1 && (b.headD 0).toNat < 128
/-- head and body together, of a body of n bytes -/
def sz (n : Nat) : Nat := if n ≤ 55 then n + 1 else n + 1 + number n
mutual
def It.whole : It → Nat
  | .text b => if plainB b then 1 else sz b.length
  | .list l => sz (It.wholes l)
def It.wholes : List It → Nat
  | [] => 0
  | x :: r => It.whole x + It.wholes r
end
def It.body : It → Nat
  | .text b => b.length
  | .list l => It.wholes l
def It.plain : It → Bool
  | .text b => plainB b
  | .list _ => false
theorem It.whole_eq (x : It) : x.whole = if x.plain then 1 else sz x.body := by
  cases x with
  | text b => simp only [It.whole, It.plain, It.body]; rfl
  | list l => simp [It.whole, It.plain, It.body]
theorem It.body_eq (x : It) : x.body = x.bytes.length + It.wholes x.items := by cases x <;> simp [It.body, It.bytes, It.items, It.wholes]
theorem It.plain_eq (x : It) : x.plain = (!x.isList && plainB x.bytes) := by cases x <;> simp [It.plain, It.isList, It.bytes]
theorem It.wholes_append (l m : List It) : It.wholes (l ++ m) = It.wholes l + It.wholes m := by
  induction l with
  | nil => simp [It.wholes]
  | cons x r ih => simp only [List.cons_append, It.wholes, ih]; omega
theorem It.wholes_take_le (l : List It) (k : Nat) : It.wholes (l.take k) ≤ It.wholes l := by
  have := It.wholes_append (l.take k) (l.drop k)
  rw [List.take_append_drop] at this; omega
theorem It.wholes_take_succ (l : List It) (k : Nat) (h : k < l.length) : It.wholes (l.take (k + 1)) = It.wholes (l.take k) + l[k].whole := by
  rw [List.take_succ_eq_append_getElem h, It.wholes_append]; simp [It.wholes]
theorem sz_ge (n : Nat) : n + 1 ≤ sz n := by unfold sz; split <;> omega
theorem It.body_le_whole (x : It) : x.body ≤ x.whole := by
  rw [It.whole_eq]
  split
  · rename_i h
    cases x with
    | text b => simp [It.plain, plainB] at h; simp [It.body, h.1]
    | list l => simp [It.plain] at h
  · have := sz_ge x.body; omega
theorem It.whole_pos (x : It) : 1 ≤ x.whole := by
  rw [It.whole_eq]; split
  · exact Nat.le_refl _
  · have := sz_ge x.body; omega

theorem It.length_le_wholes (l : List It) : l.length ≤ It.wholes l := by
  induction l with
  | nil => simp
  | cons y r ih => have := It.whole_pos y; simp only [List.length_cons, It.wholes]; omega

/-- bytes of n, k of them, most significant first -/
def beBytes : Nat → Nat → List UInt8
  | 0, _ => []
  | k + 1, n => beBytes k (n / 256) ++ [UInt8.ofNat (n % 256)]
/-- the bytes ahead of a body of n bytes -/
def headB (base n : Nat) : List UInt8 :=
  if n ≤ 55 then [UInt8.ofNat (base + n)] else UInt8.ofNat (base + 55 + number n) :: beBytes (number n) n
theorem shift_byte (n m : Nat) : (n : Int) / 2 ^ (8 * m) % 256 = ((n / 256 ^ m % 256 : Nat) : Int) := by
  have h : (2 : Int) ^ (8 * m) = ((256 ^ m : Nat) : Int) := by
    rw [show (256 : Nat) = 2 ^ 8 from rfl, ← Nat.pow_mul, Int.natCast_pow]; rfl
  rw [h]; rfl
mutual
def It.enc : It → List UInt8
  | .text b => if plainB b then b else headB 128 b.length ++ b
  | .list l => headB 192 (It.encs l).length ++ It.encs l
def It.encs : List It → List UInt8
  | [] => []
  | x :: r => It.enc x ++ It.encs r
end
theorem beBytes_length (k n : Nat) : (beBytes k n).length = k := by
  induction k generalizing n with
  | zero => rfl
  | succ k ih => simp [beBytes, ih]
theorem beBytes_get (k n i : Nat) (h : i < k) : (beBytes k n)[i]? = some (UInt8.ofNat (n / 256 ^ (k - 1 - i) % 256)) := by
  induction k generalizing n with
  | zero => omega
  | succ k ih =>
    simp only [beBytes]
    by_cases hi : i < k
    · rw [List.getElem?_append_left (by rw [beBytes_length]; exact hi), ih _ hi, Nat.div_div_eq_div_mul, ← Nat.pow_succ', show (k - 1 - i).succ = k + 1 - 1 - i by omega]
    · obtain rfl : i = k := by omega
      rw [List.getElem?_append_right (by rw [beBytes_length]; exact Nat.le_refl _), beBytes_length]
      simp
theorem beBytes_take (k n i : Nat) (h : i < k) : (beBytes k n).take (i + 1) = (beBytes k n).take i ++ [UInt8.ofNat (n / 256 ^ (k - 1 - i) % 256)] := by
  have h1 : i < (beBytes k n).length := by rw [beBytes_length]; exact h
  rw [List.take_succ_eq_append_getElem h1]
  have := beBytes_get k n i h
  rw [List.getElem?_eq_getElem h1] at this
  rw [Option.some.inj this]
theorem headB_length (base n : Nat) : (headB base n).length + n = sz n := by
  unfold headB sz; split <;> simp [beBytes_length] <;> omega
mutual
theorem It.enc_length : ∀ x : It, x.enc.length = x.whole
  | .text b => by
    simp only [It.enc, It.whole]
    by_cases h : plainB b = true
    · rw [if_pos h, if_pos h]; simp [plainB] at h; exact h.1
    · rw [if_neg h, if_neg h, List.length_append, headB_length]
  | .list l => by
    simp only [It.enc, It.whole]
    rw [List.length_append, headB_length, It.encs_length l]
theorem It.encs_length : ∀ l : List It, (It.encs l).length = It.wholes l
  | [] => rfl
  | x :: r => by simp only [It.encs, It.wholes, List.length_append, It.enc_length x, It.encs_length r]
end
theorem It.encs_append (l m : List It) : It.encs (l ++ m) = It.encs l ++ It.encs m := by
  induction l with
  | nil => simp [It.encs]
  | cons x r ih => simp only [List.cons_append, It.encs, ih, List.append_assoc]
theorem It.encs_take_succ (l : List It) (k : Nat) (h : k < l.length) : It.encs (l.take (k + 1)) = It.encs (l.take k) ++ l[k].enc := by
  rw [List.take_succ_eq_append_getElem h, It.encs_append]; simp [It.encs]
/-- the body's bytes -/
def It.bodyB : It → List UInt8
  | .text b => b
  | .list l => It.encs l
theorem It.bodyB_length (x : It) : x.bodyB.length = x.body := by cases x <;> simp [It.bodyB, It.body, It.encs_length]
theorem It.bodyB_eq (x : It) : x.bodyB = x.bytes ++ It.encs x.items := by cases x <;> simp [It.bodyB, It.bytes, It.items, It.encs]
def It.base (x : It) : Nat := if x.isList then 192 else 128
theorem It.enc_eq (x : It) : x.enc = if x.plain then x.bytes else headB x.base x.body ++ x.bodyB := by
  cases x <;> simp [It.enc, It.plain, It.bytes, It.base, It.isList, It.body, It.bodyB, It.encs_length]

/-! ## How an item lies in memory: three cells; d: at least how deep it goes -/
def ItemAt (F : Nat → Prop) (w : World) : Nat → List Value → It → Prop
  | 0, _, _ => False
  | d + 1, cs, x => ∃ v1 v2, cs = [.bool x.isList, v1, v2] ∧ BytesAt F w v1 x.bytes ∧ SliceAt F w 3 (ItemAt F w d) v2 x.items
abbrev ItemsAt (F : Nat → Prop) (w : World) (d : Nat) (v : Value) (l : List It) : Prop := SliceAt F w 3 (ItemAt F w d) v l

theorem ItemAt.carry {F F' : Nat → Prop} {w w' : World} (hF : ∀ b, b < w.heap.size → F b → F' b) (hb : ∀ b, F b → b < w.heap.size → w'.heap[b]? = w.heap[b]?) :
    ∀ (d : Nat) (cs : List Value) (x : It), ItemAt F w d cs x → ItemAt F' w' d cs x
  | 0, _, _, h => h.elim
  | d + 1, cs, x, h => by
    obtain ⟨v1, v2, h1, h2, h3⟩ := h
    exact ⟨v1, v2, h1, h2.carry hF hb, h3.carry (by decide) hF hb (fun cs x _ => ItemAt.carry hF hb d cs x)⟩
theorem ItemAt.below {F : Nat → Prop} {w w' : World} {d : Nat} {cs : List Value} {x : It} (h : ItemAt F w d cs x) (hb : Below w.heap.size w w') : ItemAt F w' d cs x :=
  h.carry (fun _ _ x => x) (fun b _ hlt => hb.block b hlt)
theorem ItemsAt.carry {F F' : Nat → Prop} {w w' : World} {d : Nat} {v : Value} {l : List It} (h : ItemsAt F w d v l) (hF : ∀ b, b < w.heap.size → F b → F' b) (hb : ∀ b, F b → b < w.heap.size → w'.heap[b]? = w.heap[b]?) : ItemsAt F' w' d v l :=
  SliceAt.carry h (by decide) hF hb (fun cs x _ => ItemAt.carry hF hb d cs x)
theorem ItemsAt.below {F : Nat → Prop} {w w' : World} {d : Nat} {v : Value} {l : List It} (h : ItemsAt F w d v l) (hb : Below w.heap.size w w') : ItemsAt F w' d v l :=
  h.carry (fun _ _ x => x) (fun b _ hlt => hb.block b hlt)
theorem ItemAt.deeper {F : Nat → Prop} {w : World} : ∀ (d d' : Nat) (cs : List Value) (x : It), d ≤ d' → ItemAt F w d cs x → ItemAt F w d' cs x
  | 0, _, _, _, _, h => h.elim
  | d + 1, 0, _, _, hd, _ => absurd hd (by omega)
  | d + 1, d' + 1, cs, x, hd, h => by
    obtain ⟨v1, v2, h1, h2, h3⟩ := h
    exact ⟨v1, v2, h1, h2, h3.carry (by decide) (fun _ _ x => x) (fun _ _ _ => rfl) (fun cs x _ => ItemAt.deeper d d' cs x (by omega))⟩
theorem ItemAt.form {F : Nat → Prop} {w : World} {d : Nat} {l : Bool} {v1 v2 : Value} {x : It} (h : ItemAt F w d [.bool l, v1, v2] x) :
    l = x.isList ∧ ∃ a1 n1 c1 a2 n2 c2, v1 = .slice a1 n1 c1 ∧ v2 = .slice a2 n2 c2 ∧ n1 = x.bytes.length ∧ n2 = x.items.length := by
  cases d with
  | zero => exact h.elim
  | succ d =>
    obtain ⟨u1, u2, h1, h2, h3⟩ := h
    simp only [List.cons.injEq, Value.bool.injEq, and_true] at h1
    obtain ⟨rfl, rfl, rfl⟩ := h1
    obtain ⟨a1, c1, e1, _⟩ := SliceAt.len h2
    obtain ⟨a2, c2, e2, _⟩ := SliceAt.len h3
    exact ⟨rfl, a1, _, c1, a2, _, c2, e1, e2, rfl, rfl⟩
theorem ItemAt.bytes {F : Nat → Prop} {w : World} {d : Nat} {l : Bool} {v1 v2 : Value} {x : It} (h : ItemAt F w d [.bool l, v1, v2] x) : BytesAt F w v1 x.bytes := by
  cases d with
  | zero => exact h.elim
  | succ d =>
    obtain ⟨u1, u2, h1, h2, h3⟩ := h
    simp only [List.cons.injEq, and_true] at h1
    obtain ⟨-, rfl, rfl⟩ := h1
    exact h2
theorem ItemAt.items {F : Nat → Prop} {w : World} {d : Nat} {l : Bool} {v1 v2 : Value} {x : It} (h : ItemAt F w (d + 1) [.bool l, v1, v2] x) : ItemsAt F w d v2 x.items := by
  obtain ⟨u1, u2, h1, h2, h3⟩ := h
  simp only [List.cons.injEq, and_true] at h1
  obtain ⟨-, rfl, rfl⟩ := h1
  exact h3
theorem ItemAt.one {F : Nat → Prop} {w : World} (d : Nat) : ∀ cs x, ItemAt F w d cs x → ∀ u ∈ cs, u.oneCell' = true := by
  intro cs x h u hu
  cases d with
  | zero => exact h.elim
  | succ d =>
    obtain ⟨v1, v2, rfl, h2, h3⟩ := h
    obtain ⟨a1, c1, rfl, _⟩ := SliceAt.len h2
    obtain ⟨a2, c2, rfl, _⟩ := SliceAt.len h3
    simp at hu
    rcases hu with rfl | rfl | rfl <;> rfl
theorem ItemsAt.cell {F : Nat → Prop} {w : World} {d b o n c : Nat} {l : List It} (h : ItemsAt F w d (.slice (some ⟨b, o, none⟩) n c) l) (i : Nat) (hi : i < l.length) :
    ∃ a1 n1 c1 a2 n2 c2, w.cell? ⟨b, o + i * 3, none⟩ = some (.bool l[i].isList) ∧ w.cell? ⟨b, o + i * 3 + 1, none⟩ = some (.slice a1 n1 c1) ∧ w.cell? ⟨b, o + i * 3 + 2, none⟩ = some (.slice a2 n2 c2) ∧
      ItemAt F w d [.bool l[i].isList, .slice a1 n1 c1, .slice a2 n2 c2] l[i] := by
  obtain ⟨cs, _, hr, hj⟩ := SliceAt.row h i hi
  cases d with
  | zero => exact hr.elim
  | succ d =>
    obtain ⟨v1, v2, h1, h2, h3⟩ := hr
    subst h1
    obtain ⟨_, a1, n1, c1, a2, n2, c2, rfl, rfl, _, _⟩ := ItemAt.form (show ItemAt F w (d + 1) _ _ from ⟨v1, v2, rfl, h2, h3⟩)
    exact ⟨a1, n1, c1, a2, n2, c2, by simpa using hj 0 _ rfl, by simpa using hj 1 _ rfl, by simpa using hj 2 _ rfl, _, _, rfl, h2, h3⟩
end Go.Pg
