/-
  Cutting a slice of bytes: how what is cut reads.
  Reading items out of bytes, as plain functions: an error's number (0: none), what was read, and the bytes behind it.
  Reading items out of bytes and writing them are one another's inverse (plain law).
  What is read of a text of bytes is small, however long the text is.
  Contracts of nest.plain, nest.number, nest.body, nest.whole.
  Contract of nest.write.
-/
import Derived.Test.YtndkkgkcbbmnpaaQbAA
import Derived.Test.YtndkkgkcbbmnpaaProg
namespace Go.Pg
open Go.RowKit
theorem Chg.atb {lb i : Nat} {a w : World} (h : Chg (fun k => k = lb) a w) (u : Value) : Chg (fun k => k = lb) a (w.setCell ⟨lb, i, none⟩ u) := h.setCell (.inr rfl) u
/-- b[:k] -/
theorem BytesAt.upto {F : Nat → Prop} {w : World} {a : Option Addr} {n c : Nat} {bs : List UInt8} (h : BytesAt F w (.slice a n c) bs) (k : Nat) (hk : k ≤ n) : BytesAt F w (.slice a k c) (bs.take k) := by
  obtain ⟨a', c', hv, h1, h2, h3, h4, h5⟩ := h
  simp only [Value.slice.injEq] at hv
  obtain ⟨rfl, rfl, rfl⟩ := hv
  have hl : (bs.take k).length = k := by simp; omega
  refine ⟨a, c, by rw [hl], by omega, h2, h3, fun hp => ?_, fun b o j ha hj => h5 b o j ha (by rw [hl] at hj; omega)⟩
  obtain ⟨b, o, ha, hF, hc⟩ := h4 (by omega)
  refine ⟨b, o, ha, hF, fun i x hx => hc i x ?_⟩
  rw [List.getElem?_take] at hx
  split at hx
  · exact hx
  · cases hx
/-- b[k:] -/
theorem BytesAt.since {F : Nat → Prop} {w : World} {a a2 : Option Addr} {n c : Nat} {bs : List UInt8} (h : BytesAt F w (.slice a n c) bs) (k : Nat) (hk : k ≤ n) (ha2 : (if c = k then a else a.map (·.add k)) = a2) :
    BytesAt F w (.slice a2 (n - k) (c - k)) (bs.drop k) := by
  obtain ⟨a', c', hv, h1, h2, h3, h4, h5⟩ := h
  simp only [Value.slice.injEq] at hv
  obtain ⟨rfl, rfl, rfl⟩ := hv
  have hl : (bs.drop k).length = bs.length - k := by simp
  refine ⟨a2, c - k, by rw [hl], by omega, by omega, fun hn => ?_, fun hp => ?_, fun b o j ha hj => ?_⟩
  · subst hn
    split at ha2
    · omega
    · simp at ha2; have := h3 ha2; omega
  · rw [hl] at hp
    obtain ⟨b, o, rfl, hF, hc⟩ := h4 (by omega)
    have hck : ¬ c = k := by omega
    rw [if_neg hck] at ha2
    have e : (⟨b, o, none⟩ : Addr).add k = ⟨b, o + k, none⟩ := by unfold Addr.add; split <;> simp_all
    simp only [Option.map_some, e] at ha2
    subst ha2
    refine ⟨b, o + k, rfl, hF, fun i x hx => ?_⟩
    obtain ⟨cs, g1, g2, g3⟩ := hc (k + i) x (by rw [List.getElem?_drop] at hx; exact hx)
    exact ⟨cs, g1, g2, fun j u hu => by have := g3 j u hu; rwa [show o + k + i * 1 + j = o + (k + i) * 1 + j by omega]⟩
  · rw [hl] at hj
    obtain ⟨b', o', rfl, -, -⟩ := h4 (by omega)
    have hck : ¬ c = k := by omega
    have e : (⟨b', o', none⟩ : Addr).add k = ⟨b', o' + k, none⟩ := by unfold Addr.add; split <;> simp_all
    rw [if_neg hck, Option.map_some, e, ha] at ha2
    simp only [Option.some.injEq, Addr.mk.injEq, and_true] at ha2
    obtain ⟨rfl, rfl⟩ := ha2
    have := h5 b' o' (k + j) rfl (by omega)
    rwa [show o' + k + j = o' + (k + j) by omega]
end Go.Pg
namespace Go.Pg
/-- what bytes say as a number -/
def beNum (l : List UInt8) : Nat := l.foldl (fun n c => n * 256 + c.toNat) 0
theorem beNum_snoc (l : List UInt8) (c : UInt8) : beNum (l ++ [c]) = beNum l * 256 + c.toNat := by simp [beNum]
theorem foldl_lt (l : List UInt8) : ∀ a : Nat, l.foldl (fun n c => n * 256 + c.toNat) a < (a + 1) * 256 ^ l.length := by
  induction l with
  | nil => intro a; simp
  | cons c l ih =>
    intro a
    have h1 := ih (a * 256 + c.toNat)
    have h2 := c.toNat_lt
    simp only [List.foldl_cons, List.length_cons, Nat.pow_succ]
    have h3 : (a * 256 + c.toNat + 1) * 256 ^ l.length ≤ ((a + 1) * 256) * 256 ^ l.length := Nat.mul_le_mul_right _ (by omega)
    have h4 : (a + 1) * (256 ^ l.length * 256) = ((a + 1) * 256) * 256 ^ l.length := by rw [Nat.mul_comm (256 ^ l.length), Nat.mul_assoc]
    omega
theorem beNum_lt (l : List UInt8) : beNum l < 256 ^ l.length := by
  have := foldl_lt l 0
  simpa [beNum] using this
/-- a body's size, by what its first byte has above that of an empty one -/
def readSize (n : Nat) (bs : List UInt8) : Nat × Nat × List UInt8 :=
  if n ≤ 55 then (0, n, bs)
  else if 58 < n then (23, 0, bs)
  else if bs.length < n - 55 then (22, 0, bs)
  else if (bs.headD 0) = 0 ∨ beNum (bs.take (n - 55)) ≤ 55 then (23, 0, bs.drop (n - 55))
  else (0, beNum (bs.take (n - 55)), bs.drop (n - 55))
theorem readSize_le (m : Nat) (t : List UInt8) : (readSize m t).2.1 ≤ 16777215 ∧ (readSize m t).2.2.length ≤ t.length := by
  unfold readSize
  split
  · exact ⟨by simp; omega, Nat.le_refl _⟩
  · split
    · exact ⟨by simp, Nat.le_refl _⟩
    · split
      · exact ⟨by simp, Nat.le_refl _⟩
      · split
        · exact ⟨by simp, by simp⟩
        · have h1 := beNum_lt (t.take (m - 55))
          have h2 : (t.take (m - 55)).length ≤ 3 := by rw [List.length_take]; omega
          have h3 : 256 ^ (t.take (m - 55)).length ≤ 256 ^ 3 := Nat.pow_le_pow_right (by omega) h2
          exact ⟨by simp only; omega, by simp⟩
/-- all items of a list's body -/
def rdAll (rd : List UInt8 → Nat × It × List UInt8) : Nat → List UInt8 → Nat × List It
  | 0, _ => (0, [])
  | k + 1, bs => if bs = [] then (0, []) else if (rd bs).1 ≠ 0 then ((rd bs).1, []) else ((rdAll rd k (rd bs).2.2).1, (rd bs).2.1 :: (rdAll rd k (rd bs).2.2).2)
/-- behind a text's size -/
def rdText (r : Nat × Nat × List UInt8) : Nat × It × List UInt8 :=
  if r.1 ≠ 0 then (r.1, .text [], [])
  else if r.2.2.length < r.2.1 then (22, .text [], [])
  else if r.2.1 = 1 ∧ (r.2.2.headD 0).toNat < 128 then (23, .text [], [])
  else (0, .text (r.2.2.take r.2.1), r.2.2.drop r.2.1)
/-- behind a list's size -/
def rdList (rd : List UInt8 → Nat × It × List UInt8) (r : Nat × Nat × List UInt8) : Nat × It × List UInt8 :=
  if r.1 ≠ 0 then (r.1, .text [], [])
  else if r.2.2.length < r.2.1 then (22, .text [], [])
  else if (rdAll rd r.2.1 (r.2.2.take r.2.1)).1 ≠ 0 then ((rdAll rd r.2.1 (r.2.2.take r.2.1)).1, .text [], [])
  else (0, .list (rdAll rd r.2.1 (r.2.2.take r.2.1)).2, r.2.2.drop r.2.1)
/-- the next item, of which so many lists may still be in one another -/
def rdItem : Nat → List UInt8 → Nat × It × List UInt8
  | _, [] => (22, .text [], [])
  | f, c :: t =>
    if c.toNat < 128 then (0, .text [c], t)
    else if c.toNat < 192 then rdText (readSize (c.toNat - 128) t)
    else match f with
      | 0 => (21, .text [], [])
      | f + 1 => rdList (rdItem f) (readSize (c.toNat - 192) t)
/-- bytes that are one item's -/
def rdWhole (bs : List UInt8) : Nat × It :=
  if (rdItem 8 bs).1 ≠ 0 then ((rdItem 8 bs).1, .text []) else if (rdItem 8 bs).2.2 ≠ [] then (24, .text []) else (0, (rdItem 8 bs).2.1)
end Go.Pg
namespace Go.Pg
theorem triple {A B C : Type} (p : A × B × C) : ∃ a b c, p = (a, b, c) := ⟨p.1, p.2.1, p.2.2, rfl⟩
theorem beBytes_beNum_snoc (l : List UInt8) (c : UInt8) (h : beBytes l.length (beNum l) = l) : beBytes (l ++ [c]).length (beNum (l ++ [c])) = l ++ [c] := by
  have hc := c.toNat_lt
  rw [beNum_snoc, List.length_append, List.length_singleton]
  simp only [beBytes]
  rw [show (beNum l * 256 + c.toNat) / 256 = beNum l by omega, show (beNum l * 256 + c.toNat) % 256 = c.toNat by omega, h]
  simp
theorem beBytes_beNum (l : List UInt8) : beBytes l.length (beNum l) = l := by
  have : ∀ r : List UInt8, beBytes r.reverse.length (beNum r.reverse) = r.reverse := by
    intro r
    induction r with
    | nil => rfl
    | cons c r ih => rw [List.reverse_cons]; exact beBytes_beNum_snoc _ _ ih
  have h := this l.reverse
  rwa [List.reverse_reverse] at h
theorem beNum_beBytes (k : Nat) : ∀ n, n < 256 ^ k → beNum (beBytes k n) = n := by
  induction k with
  | zero => intro n h; have : n = 0 := by simpa using h
            subst this; rfl
  | succ k ih =>
    intro n h
    simp only [beBytes]
    rw [beNum_snoc, ih (n / 256) (by rw [Nat.pow_succ] at h; omega), UInt8.toNat_ofNat', Nat.mod_eq_of_lt (a := n % 256) (by omega)]
    omega
theorem foldl_ge (l : List UInt8) : ∀ a : Nat, a * 256 ^ l.length ≤ l.foldl (fun n c => n * 256 + c.toNat) a := by
  induction l with
  | nil => intro a; simp
  | cons c l ih =>
    intro a
    have h1 := ih (a * 256 + c.toNat)
    simp only [List.foldl_cons, List.length_cons, Nat.pow_succ]
    have h3 : (a * 256) * 256 ^ l.length ≤ (a * 256 + c.toNat) * 256 ^ l.length := Nat.mul_le_mul_right _ (by omega)
    have h4 : a * (256 ^ l.length * 256) = (a * 256) * 256 ^ l.length := by rw [Nat.mul_comm (256 ^ l.length), Nat.mul_assoc]
    omega
theorem beNum_ge (c : UInt8) (l : List UInt8) (h : c ≠ 0) : 256 ^ l.length ≤ beNum (c :: l) := by
  have h1 := foldl_ge l (0 * 256 + c.toNat)
  have h2 : 1 ≤ c.toNat := by
    have : c.toNat ≠ 0 := fun e => h (UInt8.toNat_inj.1 (by simpa using e))
    omega
  have h3 : 1 * 256 ^ l.length ≤ (0 * 256 + c.toNat) * 256 ^ l.length := Nat.mul_le_mul_right _ (by omega)
  show _ ≤ List.foldl _ 0 (c :: l)
  simp only [List.foldl_cons]; omega
theorem number_ge (k : Nat) : ∀ n, 256 ^ k ≤ n → k + 1 ≤ number n := by
  induction k with
  | zero => intro n h; rw [number_pos (by simp at h; omega)]; omega
  | succ k ih =>
    intro n h
    have h0 : 0 < 256 ^ (k + 1) := Nat.pow_pos (by omega)
    rw [number_pos (by omega)]
    have := ih (n / 256) (by rw [Nat.pow_succ] at h; omega)
    omega
theorem number_eq (k n : Nat) (h1 : 256 ^ k ≤ n) (h2 : n < 256 ^ (k + 1)) : number n = k + 1 := by
  have := number_ge k n h1
  have := number_le (k + 1) n h2
  omega

/-- a size that was read is the one that is written -/
theorem readSize_sound (base m n : Nat) (t t' : List UInt8) (h : readSize m t = (0, n, t')) : UInt8.ofNat (base + m) :: t = headB base n ++ t' ∧ n ≤ 16777215 := by
  unfold readSize at h
  by_cases h55 : m ≤ 55
  · rw [if_pos h55] at h
    simp only [Prod.mk.injEq, true_and] at h
    obtain ⟨rfl, rfl⟩ := h
    unfold headB; rw [if_pos h55]; exact ⟨rfl, by omega⟩
  · rw [if_neg h55] at h
    by_cases h58 : 58 < m
    · rw [if_pos h58] at h; simp at h
    · rw [if_neg h58] at h
      by_cases hl : t.length < m - 55
      · rw [if_pos hl] at h; simp at h
      · rw [if_neg hl] at h
        obtain ⟨k, rfl⟩ : ∃ k, m = k + 56 := ⟨m - 56, by omega⟩
        rw [show k + 56 - 55 = k + 1 by omega] at h hl
        split at h
        · simp at h
        · rename_i hc
          simp only [Prod.mk.injEq, true_and] at h
          obtain ⟨rfl, rfl⟩ := h
          have hlen : (t.take (k + 1)).length = k + 1 := by rw [List.length_take]; omega
          cases t with
          | nil => simp at hl
          | cons c s =>
            have hc0 : c ≠ 0 := fun e => hc (.inl (by simpa using e))
            have hn55 : ¬ beNum ((c :: s).take (k + 1)) ≤ 55 := fun e => hc (.inr e)
            have hlo : 256 ^ k ≤ beNum ((c :: s).take (k + 1)) := by
              have := beNum_ge c (s.take k) hc0
              rw [List.length_take] at this
              simp only [List.length_cons] at hl
              rwa [Nat.min_eq_left (by omega)] at this
            have hhi := beNum_lt ((c :: s).take (k + 1))
            rw [hlen] at hhi
            have hnum := number_eq k _ hlo hhi
            have hb := beBytes_beNum ((c :: s).take (k + 1))
            rw [hlen] at hb
            refine ⟨?_, ?_⟩
            · unfold headB
              rw [if_neg hn55, hnum, hb, show base + (k + 56) = base + 55 + (k + 1) by omega, List.cons_append, List.take_append_drop]
            · have : 256 ^ (k + 1) ≤ 256 ^ 3 := Nat.pow_le_pow_right (by omega) (by omega)
              omega
/-- what is written of a size is read -/
theorem readSize_head (base n : Nat) (t : List UInt8) (h : n ≤ 16777215) : ∃ m s, m ≤ 58 ∧ headB base n ++ t = UInt8.ofNat (base + m) :: s ∧ readSize m s = (0, n, t) := by
  by_cases h55 : n ≤ 55
  · refine ⟨n, t, by omega, by unfold headB; rw [if_pos h55]; rfl, by unfold readSize; rw [if_pos h55]⟩
  · have hn3 : number n ≤ 3 := number_le 3 n (by omega)
    have hk : ∃ k, number n = k + 1 := ⟨number n - 1, by rw [number_pos (by omega)]; omega⟩
    obtain ⟨k, hk⟩ := hk
    have hlt : n < 256 ^ (k + 1) := by
      by_cases h : n < 256 ^ (k + 1)
      · exact h
      · have := number_ge (k + 1) n (by omega); omega
    have hge : 256 ^ k ≤ n := by
      by_cases h : 256 ^ k ≤ n
      · exact h
      · have := number_le k n (by omega); omega
    have hbl := beBytes_length (k + 1) n
    refine ⟨55 + (k + 1), beBytes (k + 1) n ++ t, by omega, by unfold headB; rw [if_neg h55, hk, show base + 55 + (k + 1) = base + (55 + (k + 1)) by omega]; rfl, ?_⟩
    unfold readSize
    rw [if_neg (by omega), if_neg (by omega), show 55 + (k + 1) - 55 = k + 1 by omega, if_neg (by rw [List.length_append]; omega), List.take_append_of_le_length (by omega), List.drop_append_of_le_length (by omega),
      List.take_of_length_le (by omega), List.drop_of_length_le (by omega), beNum_beBytes _ _ hlt, if_neg]
    · rfl
    · rintro (h0 | h0)
      · have hh : beBytes (k + 1) n = [] ∨ ∃ c s, beBytes (k + 1) n = c :: s := by
          cases beBytes (k + 1) n with
          | nil => exact .inl rfl
          | cons c s => exact .inr ⟨c, s, rfl⟩
        rcases hh with e | ⟨c, s, e⟩
        · rw [e] at hbl; simp at hbl
        · rw [e] at h0
          simp at h0
          subst h0
          have e2 := beNum_beBytes (k + 1) n hlt
          rw [e] at e2
          have e3 : beNum ((0 : UInt8) :: s) = beNum s := by simp [beNum]
          have e4 := beNum_lt s
          have e5 : s.length = k := by rw [e] at hbl; simpa using hbl
          rw [e5] at e4
          omega
      · omega

/-- items that have an encoding: so many lists in one another, bodies not too long -/
def It.fits : Nat → It → Prop
  | _, .text b => b.length ≤ 16777215
  | 0, .list _ => False
  | f + 1, .list l => It.wholes l ≤ 16777215 ∧ ∀ y, y ∈ l → It.fits f y

theorem rdAll_sound (rd : List UInt8 → Nat × It × List UInt8) (P : It → Prop) (hs : ∀ bs x r, rd bs = (0, x, r) → bs = x.enc ++ r ∧ P x) :
    ∀ (k : Nat) (L : List UInt8) (l : List It), rdAll rd k L = (0, l) → L.length ≤ k → L = It.encs l ∧ ∀ y, y ∈ l → P y := by
  intro k
  induction k with
  | zero =>
    intro L l h hl
    have : L = [] := List.eq_nil_of_length_eq_zero (by omega)
    subst this
    simp only [rdAll, Prod.mk.injEq, true_and] at h
    subst h
    exact ⟨rfl, fun y hy => by cases hy⟩
  | succ k ih =>
    intro L l h hl
    simp only [rdAll] at h
    by_cases h0 : L = []
    · rw [if_pos h0] at h
      simp only [Prod.mk.injEq, true_and] at h
      subst h h0
      exact ⟨rfl, fun y hy => by cases hy⟩
    · rw [if_neg h0] at h
      by_cases he : (rd L).1 = 0
      · rw [if_neg (by simpa using he)] at h
        simp only [Prod.mk.injEq] at h
        obtain ⟨h1, rfl⟩ := h
        obtain ⟨e1, e2⟩ := hs L (rd L).2.1 (rd L).2.2 (by rw [← he])
        have hpos := It.whole_pos (rd L).2.1
        have hlen : L.length = ((rd L).2.1.enc ++ (rd L).2.2).length := by rw [← e1]
        rw [List.length_append, It.enc_length] at hlen
        obtain ⟨e3, e4⟩ := ih (rd L).2.2 _ (by rw [← h1]) (by omega)
        refine ⟨by rw [It.encs, ← e3]; exact e1, fun y hy => ?_⟩
        rcases List.mem_cons.1 hy with rfl | hy
        · exact e2
        · exact e4 y hy
      · rw [if_pos he] at h
        simp only [Prod.mk.injEq] at h
        exact absurd h.1 he
theorem rdAll_back (rd : List UInt8 → Nat × It × List UInt8) (l : List It) (hs : ∀ x, x ∈ l → ∀ r, rd (x.enc ++ r) = (0, x, r)) :
    ∀ (k : Nat), (It.encs l).length ≤ k → rdAll rd k (It.encs l) = (0, l) := by
  induction l with
  | nil => intro k _; cases k <;> simp [rdAll, It.encs]
  | cons x l ih =>
    intro k hk
    have hpos := It.whole_pos x
    have hne : It.encs (x :: l) ≠ [] := by
      intro e
      have := congrArg List.length e
      rw [It.encs_length, It.wholes] at this
      simp at this; omega
    have hle : (It.encs (x :: l)).length = x.whole + (It.encs l).length := by rw [It.encs_length, It.wholes, It.encs_length]
    cases k with
    | zero => omega
    | succ k =>
      simp only [rdAll]
      rw [if_neg hne]
      have h1 := hs x (List.mem_cons_self ..) (It.encs l)
      have h2 := ih (fun y hy => hs y (List.mem_cons_of_mem _ hy)) k (by omega)
      simp only [It.encs, h1, h2]
      rfl

theorem rdItem_sound (f : Nat) : ∀ (bs : List UInt8) (x : It) (r : List UInt8), rdItem f bs = (0, x, r) → bs = x.enc ++ r ∧ It.fits f x := by
  induction f with
  | zero =>
    intro bs x r h
    cases bs with
    | nil => simp [rdItem] at h
    | cons c t => exact rdItem_sound_text 0 c t x r h (fun h1 h2 => by
        have : rdItem 0 (c :: t) = (21, .text [], []) := by unfold rdItem; rw [if_neg h1, if_neg h2]
        rw [this] at h; simp at h)
  | succ f ih =>
    intro bs x r h
    cases bs with
    | nil => simp [rdItem] at h
    | cons c t => exact rdItem_sound_text (f + 1) c t x r h (fun h1 h2 => by
        have hr : rdItem (f + 1) (c :: t) = rdList (rdItem f) (readSize (c.toNat - 192) t) := by rw [rdItem, if_neg h1, if_neg h2]
        rw [hr] at h
        obtain ⟨e1, n, t', hs⟩ := triple (readSize (c.toNat - 192) t)
        rw [hs] at h
        unfold rdList at h
        by_cases he : e1 = 0
        · subst he
          rw [if_neg (by simp)] at h
          by_cases hn : t'.length < n
          · rw [if_pos hn] at h; simp at h
          · rw [if_neg hn] at h
            simp only at h hn
            obtain ⟨l, e2, hl⟩ : ∃ l e2, rdAll (rdItem f) n (t'.take n) = (e2, l) := ⟨_, _, rfl⟩
            rw [hl] at h
            by_cases h2 : e2 = 0
            · subst h2
              rw [if_neg (by simp)] at h
              simp only [Prod.mk.injEq, true_and] at h
              obtain ⟨rfl, rfl⟩ := h
              have htl : (t'.take n).length = n := by rw [List.length_take]; omega
              obtain ⟨g1, g2⟩ := rdAll_sound (rdItem f) (It.fits f) ih n _ l hl (by omega)
              obtain ⟨g3, g4⟩ := readSize_sound 192 _ _ _ _ hs
              have hw : It.wholes l = n := by rw [← It.encs_length, ← g1, htl]
              refine ⟨?_, by rw [hw]; exact g4, g2⟩
              rw [It.enc, ← g1, htl, List.append_assoc, List.take_append_drop, ← g3, show 192 + (c.toNat - 192) = c.toNat by omega, UInt8.ofNat_toNat]
            · rw [if_pos (by simpa using h2)] at h
              simp only [Prod.mk.injEq] at h
              exact absurd h.1 h2
        · rw [if_pos (by simpa using he)] at h
          simp only [Prod.mk.injEq] at h
          exact absurd h.1 he)
where
  rdItem_sound_text (f : Nat) (c : UInt8) (t : List UInt8) (x : It) (r : List UInt8) (h : rdItem f (c :: t) = (0, x, r)) (hl : ¬ c.toNat < 128 → ¬ c.toNat < 192 → c :: t = x.enc ++ r ∧ It.fits f x) : c :: t = x.enc ++ r ∧ It.fits f x := by
    by_cases h1 : c.toNat < 128
    · have hr : rdItem f (c :: t) = (0, .text [c], t) := by unfold rdItem; rw [if_pos h1]
      rw [hr] at h
      simp only [Prod.mk.injEq, true_and] at h
      obtain ⟨rfl, rfl⟩ := h
      have hp : plainB [c] = true := by unfold plainB; simp; exact h1
      refine ⟨by rw [It.enc, if_pos hp]; rfl, ?_⟩
      unfold It.fits; simp
    · by_cases h2 : c.toNat < 192
      · have hr : rdItem f (c :: t) = rdText (readSize (c.toNat - 128) t) := by unfold rdItem; rw [if_neg h1, if_pos h2]
        rw [hr] at h
        obtain ⟨e1, n, t', hs⟩ := triple (readSize (c.toNat - 128) t)
        rw [hs] at h
        unfold rdText at h
        by_cases he : e1 = 0
        · subst he
          rw [if_neg (by simp)] at h
          by_cases hn : t'.length < n
          · rw [if_pos hn] at h; simp at h
          · rw [if_neg hn] at h
            by_cases hb : n = 1 ∧ (t'.headD 0).toNat < 128
            · rw [if_pos hb] at h; simp at h
            · rw [if_neg hb] at h
              simp only [Prod.mk.injEq, true_and] at h hn
              obtain ⟨rfl, rfl⟩ := h
              have htl : (t'.take n).length = n := by rw [List.length_take]; omega
              obtain ⟨g3, g4⟩ := readSize_sound 128 _ _ _ _ hs
              have hp : plainB (t'.take n) = false := by
                cases hpp : plainB (t'.take n) with
                | false => rfl
                | true =>
                  unfold plainB at hpp
                  rw [htl] at hpp
                  simp only [Bool.and_eq_true, beq_iff_eq, decide_eq_true_eq] at hpp
                  obtain ⟨rfl, h3⟩ := hpp
                  refine absurd ⟨rfl, ?_⟩ hb
                  cases t' with
                  | nil => simp at hn
                  | cons y s => simpa using h3
              refine ⟨?_, ?_⟩
              · rw [It.enc, if_neg (by simp [hp]), htl, List.append_assoc, List.take_append_drop, ← g3, show 128 + (c.toNat - 128) = c.toNat by omega, UInt8.ofNat_toNat]
              · unfold It.fits; rw [htl]; exact g4
        · rw [if_pos (by simpa using he)] at h
          simp only [Prod.mk.injEq] at h
          exact absurd h.1 he
      · exact hl h1 h2
theorem rdItem_back : ∀ (f : Nat) (x : It) (r : List UInt8), It.fits f x → rdItem f (x.enc ++ r) = (0, x, r)
  | f, .text b, r, h => by
    have hb : b.length ≤ 16777215 := by unfold It.fits at h; exact h
    rw [It.enc]
    by_cases hp : plainB b = true
    · rw [if_pos hp]
      unfold plainB at hp
      simp only [Bool.and_eq_true, beq_iff_eq, decide_eq_true_eq] at hp
      match b, hp with
      | [c], hp => 
        have h1 : c.toNat < 128 := by simpa using hp.2
        show rdItem f (c :: r) = _
        unfold rdItem; rw [if_pos h1]
    · rw [if_neg hp, List.append_assoc]
      obtain ⟨m, s, hm, e1, e2⟩ := readSize_head 128 b.length (b ++ r) hb
      rw [e1]
      have hc : (UInt8.ofNat (128 + m)).toNat = 128 + m := by rw [UInt8.toNat_ofNat', Nat.mod_eq_of_lt (by omega)]
      have : rdItem f (UInt8.ofNat (128 + m) :: s) = rdText (readSize ((UInt8.ofNat (128 + m)).toNat - 128) s) := by unfold rdItem; rw [if_neg (by omega), if_pos (by omega)]
      rw [this, hc, Nat.add_sub_cancel_left, e2]
      unfold rdText
      rw [if_neg (by simp), if_neg (by simp), if_neg]
      · simp
      · rintro ⟨h1, h2⟩
        simp only at h1 h2
        refine hp ?_
        unfold plainB
        match b, h1 with
        | [c], _ => simpa using h2
  | 0, .list l, r, h => by unfold It.fits at h; exact h.elim
  | f + 1, .list l, r, h => by
    unfold It.fits at h
    obtain ⟨hw, hall⟩ := h
    rw [It.enc, List.append_assoc]
    have hel := It.encs_length l
    obtain ⟨m, s, hm, e1, e2⟩ := readSize_head 192 (It.encs l).length (It.encs l ++ r) (by omega)
    rw [e1]
    have hc : (UInt8.ofNat (192 + m)).toNat = 192 + m := by rw [UInt8.toNat_ofNat', Nat.mod_eq_of_lt (by omega)]
    have : rdItem (f + 1) (UInt8.ofNat (192 + m) :: s) = rdList (rdItem f) (readSize ((UInt8.ofNat (192 + m)).toNat - 192) s) := by rw [rdItem, if_neg (by omega), if_neg (by omega)]
    rw [this, hc, Nat.add_sub_cancel_left, e2]
    have hr := rdAll_back (rdItem f) l (fun x hx r' => rdItem_back f x r' (hall x hx)) (It.encs l).length (Nat.le_refl _)
    unfold rdList
    simp only [List.take_left', List.drop_left']
    rw [if_neg (by simp), if_neg (by simp), hr]
    simp
/-- bytes that are read whole are the item's encoding -/
theorem rdWhole_sound (bs : List UInt8) (x : It) (h : rdWhole bs = (0, x)) : bs = x.enc ∧ It.fits 8 x := by
  unfold rdWhole at h
  obtain ⟨e, y, r, hr⟩ := triple (rdItem 8 bs)
  rw [hr] at h
  by_cases he : e = 0
  · subst he
    rw [if_neg (by simp)] at h
    by_cases hr0 : r = []
    · subst hr0
      rw [if_neg (by simp)] at h
      simp only [Prod.mk.injEq, true_and] at h
      subst h
      have := rdItem_sound 8 bs y [] hr
      rwa [List.append_nil] at this
    · rw [if_pos hr0] at h; simp at h
  · rw [if_pos he] at h
    simp only [Prod.mk.injEq] at h
    exact absurd h.1 he
theorem rdWhole_back (x : It) (h : It.fits 8 x) : rdWhole x.enc = (0, x) := by
  have := rdItem_back 8 x [] h
  rw [List.append_nil] at this
  unfold rdWhole
  rw [this]; simp
theorem enc_inj (x y : It) (hx : It.fits 8 x) (hy : It.fits 8 y) (h : x.enc = y.enc) : x = y := by
  have h1 := rdWhole_back x hx
  rw [h, rdWhole_back y hy] at h1
  simpa using h1.symm
end Go.Pg
namespace Go.Pg
open Go.RowKit
theorem fits_body {f : Nat} {x : It} (h : It.fits f x) : x.body ≤ 16777215 := by
  cases x with
  | text b => cases f <;> simpa [It.fits, It.body] using h
  | list l =>
    cases f with
    | zero => simp [It.fits] at h
    | succ f => simp only [It.fits] at h; simpa [It.body] using h.1
theorem read_small (bs : List UInt8) (h : (rdWhole bs).1 = 0) : (rdWhole bs).2.body ≤ 16777215 := fits_body (rdWhole_sound bs _ (Prod.ext h rfl)).2
theorem read_items_small (bs : List UInt8) (h : (rdWhole bs).1 = 0) : It.wholes (rdWhole bs).2.items ≤ 16777215 := by
  have h1 := read_small bs h
  have h2 := It.body_eq (rdWhole bs).2
  omega
end Go.Pg
namespace Go.Proofs.Ytndkkgkcbbmnpaa
open Go.RowKit Go.Pg

set_option maxHeartbeats 400000 in
theorem number_any (n : Nat) (w : World) (hn : n ≤ 1152921504606846976) :
    Calls Try.prog 92 #[.int .i64 n] w fun e w' => e = .returned (.int .i64 (number n)) ∧ w = w' := by
  have hnum := number_le 8 n (by omega)
  have HN := Lib.hid hnum
  clear hnum
  go_enter Try.func92, Try.ntmps92
  go_wp2
  go_loop [0, 3] (fun a i => ∃ m k : Nat, m ≤ n ∧ a = .int .i64 m ∧ i = .int .i64 k ∧ Hid (number n = k + number m)) (fun a _ => (intOf a).toNat)
  case atStart => exact ⟨n, 0, Nat.le_refl _, rfl, rfl, by show _ = _; omega⟩
  case round =>
    obtain ⟨m, k, hm, rfl, rfl, HE⟩ := hrel
    have hk : k ≤ 8 := by have := HN.out; have := HE.out; omega
    by_cases h0 : 0 < m
    · go_wp2
      go_round
      case rel => exact ⟨m / 256, k + 1, by omega, by go_num, by go_num, by have := HE.out; show _ = _; rw [this, number_pos h0]; omega⟩
      case measure => simp [intOf]; omega
    · obtain rfl : m = 0 := by omega
      go_wp2
      go_ret
      have h1 := HE.out
      rw [number_zero] at h1
      exact ⟨by rw [h1]; rfl, rfl⟩

set_option maxHeartbeats 400000 in
theorem plain_list (v1 v2 : Value) (w : World) :
    Calls Try.prog 91 #[.agg #[.bool true, v1, v2]] w fun e w' => e = .returned (.bool false) ∧ Below w.heap.size w w' := by
  go_enter Try.func91, Try.ntmps91
  go_wp2
  go_ret
  exact ⟨rfl, (Below.refl _ _).alloc (Nat.le_refl _) _⟩
set_option maxHeartbeats 400000 in
theorem plain_long (a : Option Addr) (n c : Nat) (v2 : Value) (w : World) (hn : ((n : Int) == 1) = false) :
    Calls Try.prog 91 #[.agg #[.bool false, .slice a n c, v2]] w fun e w' => e = .returned (.bool false) ∧ Below w.heap.size w w' := by
  go_enter Try.func91, Try.ntmps91
  go_wp2
  go_ret
  exact ⟨rfl, (Below.refl _ _).alloc (Nat.le_refl _) _⟩
set_option maxHeartbeats 400000 in
theorem plain_one (b o c : Nat) (x : UInt8) (v2 : Value) (w : World) (hc : w.cell? ⟨b, o, none⟩ = some (.int .u8 (x.toNat : Int))) (hb : b < w.heap.size) :
    Calls Try.prog 91 #[.agg #[.bool false, .slice (some ⟨b, o, none⟩) 1 c, v2]] w fun e w' => e = .returned (.bool (decide (x.toNat < 128))) ∧ Below w.heap.size w w' := by
  go_enter Try.func91, Try.ntmps91
  go_wp2
  go_ret
  exact ⟨ret_bool (by rw [Bool.eq_iff_iff]; simp; omega), (Below.refl _ _).alloc (Nat.le_refl _) _⟩
theorem plain_any {F : Nat → Prop} {w : World} {d : Nat} {l : Bool} {v1 v2 : Value} {x : It} (h : ItemAt F w d [.bool l, v1, v2] x) :
    Calls Try.prog 91 #[.agg #[.bool l, v1, v2]] w fun e w' => e = .returned (.bool x.plain) ∧ Below w.heap.size w w' := by
  cases d with
  | zero => exact h.elim
  | succ d =>
    obtain ⟨u1, u2, h1, h2, h3⟩ := h
    simp only [List.cons.injEq, Value.bool.injEq, and_true] at h1
    obtain ⟨rfl, rfl, rfl⟩ := h1
    cases x with
    | list l => exact plain_list _ _ _
    | text b =>
      obtain ⟨a, c, rfl, hlc, hcm, hac⟩ := SliceAt.len h2
      simp only [It.plain, It.bytes, It.isList] at h2 ⊢
      by_cases hb : b.length = 1
      · match b, hb with
        | [x], _ =>
          rcases SliceAt.cases h2 with ⟨h, _⟩ | ⟨bb, o, c', hv, _, _, _, _⟩
          · cases h
          · simp only [Value.slice.injEq] at hv
            obtain ⟨rfl, _, rfl⟩ := hv
            have hc := BytesAt.cell h2 0 (by simp)
            have := plain_one bb o c x v2 w (by simpa using hc) (cell_lt hc)
            simpa [plainB] using this
      · have h0 : plainB b = false := by simp [plainB, hb]
        rw [h0]
        exact plain_long _ _ _ _ _ (by simp; omega)

def BodyC (d : Nat) : Prop := ∀ (F : Nat → Prop) (w : World) (x : It) (l : Bool) (v1 v2 : Value), ItemAt F w d [.bool l, v1, v2] x → x.body ≤ 1152921504606846976 →
  Calls Try.prog 70 #[.agg #[.bool l, v1, v2]] w fun e w' => e = .returned (.int .i64 x.body) ∧ Below w.heap.size w w'
def WholeC (d : Nat) : Prop := ∀ (F : Nat → Prop) (w : World) (x : It) (l : Bool) (v1 v2 : Value), ItemAt F w d [.bool l, v1, v2] x → x.whole ≤ 1152921504606846976 →
  Calls Try.prog 90 #[.agg #[.bool l, v1, v2]] w fun e w' => e = .returned (.int .i64 x.whole) ∧ Below w.heap.size w w'

set_option maxHeartbeats 400000 in
theorem body_none (l : Bool) (a a2 : Option Addr) (n c c2 : Nat) (w : World) :
    Calls Try.prog 70 #[.agg #[.bool l, .slice a n c, .slice a2 0 c2]] w fun e w' => e = .returned (.int .i64 n) ∧ Below w.heap.size w w' := by
  go_enter Try.func70, Try.ntmps70
  go_wp2
  go_rounds 1
  go_ret
  exact ⟨rfl, (Below.refl _ _).alloc (Nat.le_refl _) _⟩

set_option maxHeartbeats 400000 in
theorem body_some {d : Nat} (hw : WholeC d) (F : Nat → Prop) (w : World) (l : Bool) (a : Option Addr) (b o n c c2 : Nat) (is : List It)
    (his : ItemsAt F w d (.slice (some ⟨b, o, none⟩) is.length c2) is) (hn : n + It.wholes is ≤ 1152921504606846976) (hl63 : is.length ≤ 1152921504606846976) :
    Calls Try.prog 70 #[.agg #[.bool l, .slice a n c, .slice (some ⟨b, o, none⟩) is.length c2]] w fun e w' => e = .returned (.int .i64 (n + It.wholes is : Nat)) ∧ Below w.heap.size w w' := by
  have HW := Lib.hid hw
  clear hw
  obtain ⟨n2, hn2⟩ : ∃ n2, n2 = is.length := ⟨_, rfl⟩
  rw [← hn2] at his hl63 ⊢
  have HN := Lib.hid hn2
  clear hn2
  go_enter Try.func70, Try.ntmps70
  go_wp2
  go_loopw [3, 5, 12] (fun s y i wr => ∃ k m : Nat, k ≤ n2 ∧ i = .int .i64 k ∧ s = .int .i64 m ∧ Hid (m = n + It.wholes (is.take k)) ∧ Below w.heap.size w wr) (fun _ _ i _ => n2 - (intOf i).toNat)
  case atStart => exact ⟨0, n, Nat.zero_le _, rfl, rfl, by show _ = _; simp [It.wholes], (Below.refl _ _).alloc (Nat.le_refl _) _⟩
  case round =>
    obtain ⟨k, m, hk, rfl, rfl, HM, hb⟩ := hrel
    have hN := HN.out
    by_cases hlt : k < n2
    · have hki : k < is.length := by omega
      have his' := ItemsAt.below his hb
      obtain ⟨a1, n1, c1, a2, n2', c2', q0, q1, q2, hit⟩ := ItemsAt.cell his' k hki
      obtain ⟨x, hx⟩ : ∃ x, x = is[k] := ⟨_, rfl⟩
      have hsum : m + x.whole ≤ 1152921504606846976 := by
        have h1 := It.wholes_take_succ is k hki
        have h2 := It.wholes_take_le is (k + 1)
        have h3 := HM.out
        rw [hx]; omega
      have HS : Hid (m + x.whole = n + It.wholes (is.take (k + 1))) := by
        have h1 := It.wholes_take_succ is k hki
        have h3 := HM.out
        show _ = _
        rw [hx]; omega
      rw [← hx] at q0 hit
      have hpos := It.whole_pos x
      clear hx his' hN his HM
      have hle : x.whole ≤ 1152921504606846976 := by omega
      go_wp2_with fail
      refine (HW.out F _ x _ _ _ ?_ hle).mono ?_
      · exact hit.below ((Below.refl _ _).alloc (Nat.le_refl _) _)
      rintro e w1 ⟨rfl, hb1⟩
      go_wp2_with fail
      go_roundw
      case rel =>
        exact ⟨k + 1, m + x.whole, by omega, num_eq (by omega), num_eq (by omega), HS, (hb.alloc hb.size _).trans (hb1.mono (by have := hb.size; simp; omega))⟩
      case measure => simp [intOf]; omega
    · obtain rfl : k = n2 := by omega
      go_wp2
      go_ret
      have h3 := HM.out
      rw [List.take_of_length_le (by omega)] at h3
      exact ⟨ret_int (by rw [h3]), hb⟩

theorem body_step {d : Nat} (hw : WholeC d) : BodyC (d + 1) := by
  intro F w x l v1 v2 h hx
  obtain ⟨u1, u2, h1, h2, h3⟩ := h
  simp only [List.cons.injEq, Value.bool.injEq, and_true] at h1
  obtain ⟨rfl, rfl, rfl⟩ := h1
  obtain ⟨a, c, rfl, _⟩ := SliceAt.len h2
  rcases SliceAt.cases h3 with ⟨he, a2, c2, rfl, _⟩ | ⟨b, o, c2, rfl, hl, _, _, _⟩
  · have e : x.body = x.bytes.length := by rw [It.body_eq, he]; simp [It.wholes]
    rw [e]
    exact body_none _ _ _ _ _ _ _
  · rw [It.body_eq] at hx ⊢
    have hlen : x.items.length ≤ It.wholes x.items := by
      generalize x.items = l
      induction l with
      | nil => simp
      | cons y r ih => have := It.whole_pos y; simp only [List.length_cons, It.wholes]; omega
    exact body_some hw F w _ _ _ _ _ _ _ _ h3 hx (by omega)

set_option maxHeartbeats 400000 in
theorem whole_step {d : Nat} (hb : BodyC d) : WholeC d := by
  intro F w x l v1 v2 h hx
  obtain ⟨rfl, a1, n1, c1, a2, n2, c2, rfl, rfl, -, -⟩ := ItemAt.form h
  have hwe := It.whole_eq x
  by_cases hpl : x.plain = true
  · rw [if_pos hpl] at hwe
    rw [hwe]
    clear hwe hx hb
    go_enter Try.func90, Try.ntmps90
    go_wp2_with fail
    refine (plain_any (F := F) (d := d) (x := x) ?_).mono ?_
    · exact h.below ((Below.refl _ _).alloc (Nat.le_refl _) _)
    rintro e w1 ⟨rfl, hb1⟩
    go_wp2_with fail
    go_ret
    exact ⟨rfl, ((Below.refl _ _).alloc (Nat.le_refl _) _).trans (hb1.mono (by simp))⟩
  · rw [if_neg hpl] at hwe
    have hpl' : x.plain = false := by simpa using hpl
    rw [hwe]
    have hbw := It.body_le_whole x
    have HB := Lib.hid hb
    have HE := Lib.hid hwe
    clear hb hwe hpl
    obtain ⟨n, hn⟩ : ∃ n, n = x.body := ⟨_, rfl⟩
    have HN := Lib.hid hn
    have hle : n ≤ 1152921504606846976 := by omega
    rw [← hn]
    clear hn hbw
    by_cases h55 : n ≤ 55
    all_goals
      go_enter Try.func90, Try.ntmps90
      go_wp2_with fail
      refine (plain_any (F := F) (d := d) (x := x) ?_).mono ?_
      · exact h.below ((Below.refl _ _).alloc (Nat.le_refl _) _)
      rintro e w1 ⟨rfl, hb1⟩
      obtain ⟨hc, hf⟩ := bcell hb1
      go_wp2_with fail
      refine (HB.out F _ x _ _ _ ?_ ?_).mono ?_
      · exact ItemAt.below (h.below ((Below.refl _ _).alloc (Nat.le_refl _) _)) hb1
      · rw [← HN.out]; exact hle
      rintro e w2 ⟨rfl, hb2⟩
      rw [← HN.out]
      have hbel := Bel.call (Bel.call (Bel.alloc (Bel.refl w) _) hb1) hb2
      clear hb1 hb2 HE h HB hc hf
      go_wp2_with fail
      first
        | (go_ret; exact ⟨ret_int (by unfold sz; rw [if_pos h55]; omega), hbel⟩)
        | (refine (number_any n _ hle).mono ?_
           rintro e w3 ⟨rfl, rfl⟩
           have hnum := number_le 8 n (by omega)
           go_wp2_with fail
           go_ret
           exact ⟨ret_int (by unfold sz; rw [if_neg h55]; omega), hbel⟩)
theorem sizes (d : Nat) : BodyC d ∧ WholeC d := by
  induction d with
  | zero => exact ⟨fun _ _ _ _ _ _ h => h.elim, fun _ _ _ _ _ _ h => h.elim⟩
  | succ d ih => have hb := body_step ih.2; exact ⟨hb, whole_step hb⟩
theorem body_any (d : Nat) : BodyC d := (sizes d).1
theorem whole_any (d : Nat) : WholeC d := (sizes d).2

end Go.Proofs.Ytndkkgkcbbmnpaa
namespace Go.Proofs.Ytndkkgkcbbmnpaa
open Go.RowKit Go.Pg

theorem underlying25 : Try.prog.underlying 25 = some (.slice 5) := Try.underlying25
theorem infoU8 : (Try.prog.info? 5).map (fun i => (i.zero, i.size, i.bytes)) = some (some (.int .u8 0), 1, 1) := by kernel_rfl

/-- What nest.write holds to from its beginning in w on: v owns bs; the item's box stands; of what was there only v0's own block may have turned. -/
structure WInv (w : World) (base : Nat) (cs : Array Value) (v0 : Value) (W : World) (v : Value) (bs : List UInt8) : Prop where
  own : OwnAt W base 5 1 byteR v bs
  grown : w.grownBy W v0.ownBlock
  orig : ∀ g, v.ownBlock = some g → v0.ownBlock = some g ∨ w.heap.size < g
  own0 : ∀ g, v0.ownBlock = some g → base ≤ g ∧ g < w.heap.size
  box : W.heap[w.heap.size]? = some (.cells cs 65 (0, 0))
  size : w.heap.size < W.heap.size
theorem WInv.start {w : World} {base : Nat} {cs : Array Value} {v : Value} {bs : List UInt8} (h : OwnAt w base 5 1 byteR v bs) : WInv w base cs v (w.alloc (.cells cs 65)) v bs :=
  ⟨h.carry (fun g _ _ hlt => Below.heap_alloc _ _ _ hlt), World.grownBy_alloc _ _ _, fun g hg => .inl hg, h.own, heap_alloc_new w _, by simp⟩
section
variable {w : World} {base : Nat} {cs : Array Value} {v0 : Value} {W W' : World} {v v' : Value} {bs m : List UInt8}
theorem WInv.append (h : WInv w base cs v0 W v bs)
    (ho : OwnAt W' base 5 1 byteR v' (bs ++ m)) (hg : W.grownBy W' v.ownBlock) (hw : Moved W v v') : WInv w base cs v0 W' v' (bs ++ m) := by
  have hs := h.size
  have apart : ∀ g, v.ownBlock = some g → g ≠ w.heap.size := fun g hg' e => by
    rcases h.orig g hg' with h1 | h1
    · have := (h.own0 g h1).2; omega
    · omega
  refine ⟨ho, ⟨hg.os.trans h.grown.os, hg.tape.trans h.grown.tape, hg.output.trans h.grown.output, Nat.le_trans h.grown.size hg.size, fun k hk hn => ?_⟩, ?_, h.own0, ?_, Nat.lt_of_lt_of_le hs hg.size⟩
  · rw [hg.block k (by omega) (fun e => ?_)]
    · exact h.grown.block k hk hn
    · rcases h.orig k e.symm with h1 | h1
      · exact hn h1.symm
      · omega
  · intro g hg'
    rcases hw g hg' with h1 | h1
    · exact h.orig g h1
    · exact .inr (by omega)
  · rw [hg.block _ hs (fun e => apart _ e.symm rfl)]; exact h.box
theorem WInv.call (h : WInv w base cs v0 W v bs) (hc : Below W.heap.size W W') : WInv w base cs v0 W' v bs := by
  have hs := h.size
  have hg := h.grown
  exact ⟨h.own.carry (fun g _ _ hlt => hc.block g hlt), ⟨hc.os.trans hg.os, hc.tape.trans hg.tape, hc.output.trans hg.output, Nat.le_trans hg.size hc.size, fun k hk hn => (hc.block k (by omega)).trans (hg.block k hk hn)⟩,
    h.orig, h.own0, (hc.block _ hs).trans h.box, Nat.lt_of_lt_of_le hs hc.size⟩
theorem WInv.alloc (h : WInv w base cs v0 W v bs) (o : Obj) : WInv w base cs v0 (W.alloc o) v bs := h.call (Bel.alloc (Bel.refl W) o)
theorem WInv.bel (h : WInv w base cs v0 W v bs) (hb : base ≤ w.heap.size) : Below base w W := (Below.refl _ _).grown h.grown hb (fun k hk => (h.own0 k hk).1)
theorem WInv.base_le (h : WInv w base cs v0 W v bs) (hb : base ≤ w.heap.size) : base ≤ W.heap.size := Nat.le_trans hb (Nat.le_of_lt h.size)
theorem WInv.cells {l : Bool} {v1 v2 : Value} (h : WInv w base #[.bool l, v1, v2] v0 W v bs) :
    W.cell? ⟨w.heap.size, 0, none⟩ = some (.bool l) ∧ W.cell? ⟨w.heap.size, 1, none⟩ = some v1 ∧ W.cell? ⟨w.heap.size, 2, none⟩ = some v2 :=
  ⟨by rw [cell_of_row _ _ _ _ _ _ h.box]; rfl, by rw [cell_of_row _ _ _ _ _ _ h.box]; rfl, by rw [cell_of_row _ _ _ _ _ _ h.box]; rfl⟩
end
/-- what nest.write answers -/
def Wrote (w : World) (base : Nat) (v : Value) (bs : List UInt8) (e : Ending) (w' : World) : Prop :=
  ∃ v', e = .returned v' ∧ OwnAt w' base 5 1 byteR v' bs ∧ w.grownBy w' v.ownBlock ∧ Moved w v v'
theorem WInv.wrote {w : World} {base : Nat} {cs : Array Value} {v0 : Value} {W : World} {v : Value} {bs : List UInt8} (h : WInv w base cs v0 W v bs) : Wrote w base v0 bs (.returned v) W :=
  ⟨v, rfl, h.own, h.grown, fun g hg => (h.orig g hg).imp id Nat.le_of_lt⟩

def WriteC (d : Nat) : Prop := ∀ (F : Nat → Prop) (w : World) (base : Nat) (x : It) (l : Bool) (v1 v2 v : Value) (bs : List UInt8), base ≤ w.heap.size → (∀ b, F b → b < base) →
  ItemAt F w d [.bool l, v1, v2] x → OwnAt w base 5 1 byteR v bs → bs.length + x.whole ≤ 140737488351232 →
  Calls Try.prog 71 #[v, .agg #[.bool l, v1, v2]] w (Wrote w base v (bs ++ x.enc))

set_option maxHeartbeats 400000 in
theorem write_plain {d : Nat} (F : Nat → Prop) (w : World) (base : Nat) (x : It) (l : Bool) (v1 v2 v : Value) (bs : List UInt8) (hb : base ≤ w.heap.size) (hF : ∀ b, F b → b < base)
    (h : ItemAt F w d [.bool l, v1, v2] x) (hown : OwnAt w base 5 1 byteR v bs) (hlen : bs.length + x.whole ≤ 140737488351232) (hp : x.plain = true) :
    Calls Try.prog 71 #[v, .agg #[.bool l, v1, v2]] w (Wrote w base v (bs ++ x.enc)) := by
  obtain ⟨rfl, a1, n1, c1, a2, n2, c2, rfl, rfl, -, -⟩ := ItemAt.form h
  obtain ⟨i0, hi, hz0, hz1, hz2⟩ := info_parts infoU8
  go_enter Try.func71, Try.ntmps71
  go_wp2_with fail
  refine (plain_any (F := F) (d := d) (x := x) ?_).mono ?_
  · exact h.below ((Below.refl _ _).alloc (Nat.le_refl _) _)
  rintro e w1 ⟨rfl, hb1⟩
  have hI : WInv w base #[.bool x.isList, .slice a1 n1 c1, .slice a2 n2 c2] v w1 v bs := (WInv.start hown).call hb1
  have hsrc : BytesAt F w1 (.slice a1 n1 c1) x.bytes := (ItemAt.bytes h).carry (fun _ _ x => x) (fun b hFb _ => (hI.bel hb).block b (hF b hFb))
  have hle : (bs.length + x.bytes.length) * 1 ≤ 140737488355328 := by
    have := It.body_le_whole x; rw [It.body_eq] at this; omega
  have hb1' := hI.base_le hb
  obtain ⟨q0, q1, q2⟩ := hI.cells
  clear hb1
  go_wp2_with (at_builtin; refine wpList_append_at rfl (.tmp 13) (.tmp 15) 25 rfl base 5 i0 (.int .u8 0) 1 1 underlying25 hi hz0 hz1 hz2 rfl (by decide) (by decide) byteR.one _ bs rfl hI.own _ x.bytes F rfl hsrc hle hb1' ?_; intro v' w2 ho hg hw)
  go_ret
  have := (hI.append ho hg hw).wrote
  rwa [It.enc_eq, if_pos hp]

set_option maxHeartbeats 400000 in
set_option maxRecDepth 100000 in
theorem write_long {d : Nat} (hd : WriteC d) (F : Nat → Prop) (w : World) (base : Nat) (x : It) (l : Bool) (v1 v2 v : Value) (bs : List UInt8) (hb : base ≤ w.heap.size) (hF : ∀ b, F b → b < base)
    (h : ItemAt F w (d + 1) [.bool l, v1, v2] x) (hown : OwnAt w base 5 1 byteR v bs) (hlen : bs.length + x.whole ≤ 140737488351232) (hp : x.plain = false) :
    Calls Try.prog 71 #[v, .agg #[.bool l, v1, v2]] w (Wrote w base v (bs ++ x.enc)) := by
  obtain ⟨rfl, a1, n1, c1, a2, n2, c2, rfl, rfl, -, -⟩ := ItemAt.form h
  obtain ⟨i0, hi, hz0, hz1, hz2⟩ := info_parts infoU8
  have HD := Lib.hid hd
  clear hd
  obtain ⟨n, hn⟩ : ∃ n, n = x.body := ⟨_, rfl⟩
  have HN := Lib.hid hn
  have hbw := It.body_le_whole x
  have hle : n ≤ 140737488351232 := by omega
  clear hn hbw
  have hLB : (x.isList = false ∧ (x.base : Int) = 128) ∨ (x.isList = true ∧ (x.base : Int) = 192) := by
    unfold It.base
    cases x.isList <;> simp
  rcases hLB with ⟨hL, hB⟩ | ⟨hL, hB⟩
  all_goals
    have HBB := Lib.hid hB
    clear hB
    rw [hL] at h ⊢
    have HL := Lib.hid hL
    clear hL
    go_enter Try.func71, Try.ntmps71
    go_wp2_with fail
    refine (plain_any (F := F) (d := d + 1) (x := x) ?_).mono ?_
    · exact h.below ((Below.refl _ _).alloc (Nat.le_refl _) _)
    rintro e w1 ⟨rfl, hb1⟩
    have hI : WInv w base #[_, .slice a1 n1 c1, .slice a2 n2 c2] v w1 v bs := (WInv.start hown).call hb1
    clear hb1
    obtain ⟨q0, q1, q2⟩ := hI.cells
    go_wp2_with fail
    refine (body_any (d + 1) F _ x _ _ _ ?_ ?_).mono ?_
    · exact h.carry (fun _ _ x => x) (fun b hFb _ => (hI.bel hb).block b (hF b hFb))
    · rw [← HN.out]; omega
    rintro e w2 ⟨rfl, hb2⟩
    rw [← HN.out]
    replace hI := hI.call hb2
    clear hb2 q0 q1 q2
    obtain ⟨q0, q1, q2⟩ := hI.cells
    obtain ⟨hd, hhd⟩ : ∃ hd, hd = headB x.base n := ⟨_, rfl⟩
    have hsz : hd.length + n = x.whole := by
      rw [hhd, headB_length, It.whole_eq, hp, ← HN.out]; rfl
    have HH := Lib.hid hhd
    have hle1 : (bs.length + hd.length) * 1 ≤ 140737488355328 := by omega
    by_cases h55 : n ≤ 55
    case' pos =>
      have hsrc1 : Hid (BytesAt (fun _ => True) (w2.alloc (.cells #[.int .u8 (x.base + n)] 5)) (.slice (some ⟨w2.heap.size, 0, none⟩) 1 1) hd) := by
        rw [hhd]; unfold headB; rw [if_pos h55]
        exact byte_new _ _ _ _ (by omega) (by unfold It.base; split <;> omega)
      rw [HBB.out] at hsrc1
      clear hhd
      have hb1' := fun o => (hI.alloc o).base_le hb
      go_wp2_with (at_builtin; refine wpList_append_at rfl (.tmp 23) (.tmp 28) 25 rfl base 5 i0 (.int .u8 0) 1 1 underlying25 hi hz0 hz1 hz2 rfl (by decide) (by decide) byteR.one _ bs rfl (hI.alloc _).own _ hd (fun _ => True) rfl hsrc1.out hle1 (hb1' _) ?next1)
      case' next1 => intro v' w3 ho hg hw
      replace hI := (hI.alloc _).append ho hg hw
      clear ho hg hw q0 q1 q2 hle1 hb1' hsrc1
    case' neg =>
      clear hhd
      have hk6 := number_le 6 n (by omega)
      have hk1 : 1 ≤ number n := by rw [number_pos (by omega)]; omega
      go_wp2_with fail
      refine (number_any n _ (by omega)).mono ?_
      rintro e w3 ⟨rfl, rfl⟩
      obtain ⟨k, hk⟩ : ∃ k, k = number n := ⟨_, rfl⟩
      rw [← hk] at hk6 hk1 ⊢
      have HK := Lib.hid hk
      clear hk
      have hb1' := fun o => (hI.alloc o).base_le hb
      have hsrc1 : Hid (BytesAt (fun _ => True) (w2.alloc (.cells #[.int .u8 (x.base + 55 + k)] 5)) (.slice (some ⟨w2.heap.size, 0, none⟩) 1 1) (hd.take 1)) := by
        rw [HH.out]; unfold headB; rw [if_neg h55, ← HK.out]
        exact byte_new _ _ _ _ (by omega) (by unfold It.base; split <;> omega)
      rw [HBB.out] at hsrc1
      simp only [Int.reduceAdd] at hsrc1
      have hle3 : (bs.length + (hd.take 1).length) * 1 ≤ 140737488355328 := by rw [List.length_take]; omega
      have hk : hd.length = k + 1 := by rw [HH.out]; unfold headB; rw [if_neg h55, ← HK.out]; simp [beBytes_length]
      have HKL := Lib.hid hk
      clear hk
      go_wp2_with (at_builtin; refine wpList_append_at rfl (.tmp 32) (.tmp 38) 25 rfl base 5 i0 (.int .u8 0) 1 1 underlying25 hi hz0 hz1 hz2 rfl (by decide) (by decide) byteR.one _ bs rfl (hI.alloc _).own _ (hd.take 1) (fun _ => True) rfl hsrc1.out hle3 (hb1' _) ?_; intro v1 w4 ho hg hw)
      replace hI := (hI.alloc _).append ho hg hw
      clear ho hg hw q0 q1 q2 hb1' hsrc1 hle3
      have HI := Lib.hid hI
      clear hI
      go_loopw [0, 8] (fun s i wr => ∃ (j : Nat) (vr : Value), j ≤ k ∧ i = .int .i64 ((j : Int) - 1) ∧ s = vr ∧ Hid (WInv w base #[.bool _, .slice a1 n1 c1, .slice a2 n2 c2] v wr vr (bs ++ hd.take (1 + (k - j))))) (fun _ i _ => (intOf i + 1).toNat)
      case atStart => exact ⟨k, _, Nat.le_refl _, num_eq (by omega), rfl, by rw [Nat.sub_self]; exact HI.out⟩
      case' round =>
        obtain ⟨j, vr, hj, rfl, rfl, HR⟩ := hrel
        clear HI
        obtain ⟨w3, rfl⟩ : ∃ w3 : World, w3 = wr := ⟨_, rfl⟩
        obtain ⟨v', rfl⟩ : ∃ v' : Value, v' = u0 := ⟨_, rfl⟩
        by_cases hj0 : 0 < j
        case' pos =>
          obtain ⟨y, hy⟩ : ∃ y, y = UInt8.ofNat (n / 256 ^ (j - 1) % 256) := ⟨_, rfl⟩
          obtain ⟨L, hL⟩ : ∃ L, L = hd.take (1 + (k - j)) := ⟨_, rfl⟩
          have HE : Hid (L ++ [y] = hd.take (1 + (k - (j - 1)))) := by
            show _ = _
            have h1 := beBytes_take k n (k - j) (by omega)
            rw [hL, hy, HH.out, headB, if_neg h55, ← HK.out, show 1 + (k - j) = (k - j) + 1 by omega, show 1 + (k - (j - 1)) = (k - j + 1) + 1 by omega, List.take_succ_cons, List.take_succ_cons, h1, show k - 1 - (k - j) = j - 1 by omega]
            rfl
          have hsrc1 : Hid (BytesAt (fun _ => True) (w3.alloc (.cells #[.int .u8 ((n : Int) / 2 ^ (8 * (j - 1)) % 256)] 5)) (.slice (some ⟨w3.heap.size, 0, none⟩) 1 1) [y]) := by
            rw [hy]
            exact byte_new _ _ _ _ (shift_byte n (j - 1)) (Nat.mod_lt _ (by omega))
          rw [← hL] at HR
          have hle3 : ((bs ++ L).length + [y].length) * 1 ≤ 140737488355328 := by rw [List.length_append, hL, List.length_take]; simp; omega
          have hb1' := fun o => ((HR.out).alloc o).base_le hb
          clear hy hL
          go_wp2_with (at_builtin; refine wpList_append_at rfl (.tmp 46) (.tmp 52) 25 rfl base 5 i0 (.int .u8 0) 1 1 underlying25 hi hz0 hz1 hz2 rfl (by decide) (by decide) byteR.one _ (bs ++ L) rfl ((HR.out).alloc _).own _ [y] (fun _ => True) rfl hsrc1.out hle3 (hb1' _) ?_; intro v5 w5 ho hg hw)
          have HI5 := Lib.hid (((HR.out).alloc _).append (m := [y]) ho hg hw)
          clear ho hg hw
          go_roundw
          case rel => exact ⟨j - 1, v5, by omega, num_eq (by omega), rfl, (by rw [← HE.out, ← List.append_assoc]; exact HI5.out)⟩
          case measure => simp [intOf]; omega
        case' neg =>
          obtain rfl : j = 0 := by omega
          have hI := HR.out
          rw [Nat.sub_zero, Nat.add_comm, ← HKL.out, List.take_length] at hI
    all_goals
      obtain ⟨q0, q1, q2⟩ := hI.cells
      have hsrc : BytesAt F w3 (.slice a1 n1 c1) x.bytes := (ItemAt.bytes h).carry (fun _ _ x => x) (fun b hFb _ => (hI.bel hb).block b (hF b hFb))
      have hle2 : ((bs ++ hd).length + x.bytes.length) * 1 ≤ 140737488355328 := by
        have h2 := HN.out
        rw [It.body_eq] at h2
        simp only [List.length_append]; omega
      have hb1' := hI.base_le hb
      go_wp2_with (at_builtin; refine wpList_append_at rfl (.tmp 54) (.tmp 56) 25 rfl base 5 i0 (.int .u8 0) 1 1 underlying25 hi hz0 hz1 hz2 rfl (by decide) (by decide) byteR.one _ (bs ++ hd) rfl hI.own _ x.bytes F rfl hsrc hle2 hb1' ?next)
      case next =>
      intro v'' w4 ho hg hw
      replace hI := hI.append (m := x.bytes) (by first | exact ho | (rw [List.append_assoc]; exact ho)) hg hw
      clear ho hg hw q0 q1 q2 hle2 hb1' hsrc
      obtain ⟨q0, q1, q2⟩ := hI.cells
      have his : ItemsAt F w4 d (.slice a2 n2 c2) x.items := (ItemAt.items h).carry (fun _ _ x => x) (fun b hFb _ => (hI.bel hb).block b (hF b hFb))
      have hbody : x.bytes.length + It.wholes x.items = n := by rw [HN.out, It.body_eq]
      have HF : Hid (bs ++ x.enc = bs ++ hd ++ x.bytes ++ It.encs x.items) := by
        show _ = _
        rw [It.enc_eq, hp, HH.out, ← HN.out, It.bodyB_eq]
        simp only [Bool.false_eq_true, if_false, List.append_assoc]
      rcases SliceAt.split his with ⟨he, rfl⟩ | ⟨b, o, rfl, hn2, hpos, -⟩
      · go_wp2_with fail
        go_rounds 1
        go_ret
        rw [HF.out, he]
        simpa [It.encs] using hI.wrote
      · have HN2 := Lib.hid hn2
        have hn63 : n2 ≤ 140737488351232 := by
          have : x.items.length ≤ It.wholes x.items := It.length_le_wholes _
          omega
        have HS := Lib.hid hsz
        clear hn2 hbody hsz
        have hq := hI.size
        have HI := Lib.hid hI
        have HIS := Lib.hid his
        clear hI his
        go_wp2_with fail
        obtain ⟨w0, hw0⟩ : ∃ w0, w0 = w4 := ⟨_, rfl⟩
        go_loopw [0, 10, 61] (fun s y i wr => ∃ (k : Nat) (vr : Value), k ≤ n2 ∧ i = .int .i64 k ∧ s = vr ∧ Hid (WInv w base #[.bool _, .slice a1 n1 c1, .slice (some ⟨b, o, none⟩) n2 c2] v wr vr (bs ++ hd ++ x.bytes ++ It.encs (x.items.take k)))) (fun _ _ i _ => n2 - (intOf i).toNat)
        case atStart => exact ⟨0, _, Nat.zero_le _, rfl, rfl, (by show WInv _ _ _ _ _ _ _; simpa [It.encs] using HI.out)⟩
        case round =>
          obtain ⟨k, vr, hk, rfl, rfl, HR⟩ := hrel
          have hN := HN2.out
          by_cases hlt : k < n2
          · have hki : k < x.items.length := by omega
            have hwr := HR.out
            have his' := (HIS.out).carry (F' := F) (w' := wr) (fun _ _ x => x) (fun b hFb _ => by rw [hwr.bel hb |>.block b (hF b hFb)]; exact (HI.out.bel hb |>.block b (hF b hFb)).symm)
            obtain ⟨b1, m1, d1, b2, m2, d2, q0, q1, q2, hit⟩ := ItemsAt.cell his' k hki
            obtain ⟨y, hy⟩ : ∃ y, y = x.items[k] := ⟨_, rfl⟩
            obtain ⟨L, hL⟩ : ∃ L, L = bs ++ hd ++ x.bytes ++ It.encs (x.items.take k) := ⟨_, rfl⟩
            have hlen5 : L.length + y.whole ≤ 140737488351232 := by
              have h1 := It.wholes_take_succ x.items k hki
              have h2 := It.wholes_take_le x.items (k + 1)
              have h3 := HN.out
              have h4 := HS.out
              rw [It.body_eq] at h3
              rw [hL, hy]
              simp only [List.length_append, It.encs_length]
              omega
            have HE : Hid (L ++ y.enc = bs ++ hd ++ x.bytes ++ It.encs (x.items.take (k + 1))) := by
              show _ = _
              rw [hL, It.encs_take_succ _ _ hki, ← hy]; simp only [List.append_assoc]
            rw [← hL] at HR hwr
            rw [← hy] at q0 hit
            clear hy hL his' hwr hN
            go_wp2_with fail
            refine (HD.out F _ base y _ _ _ _ L ?_ hF ?_ ?_ hlen5).mono ?_
            · exact ((HR.out).alloc _).base_le hb
            · exact hit.below ((Below.refl _ _).alloc (Nat.le_refl _) _)
            · exact ((HR.out).alloc _).own
            rintro e w5 ⟨v5, rfl, ho5, hg5, hm5⟩
            have HI5 := Lib.hid (((HR.out).alloc _).append ho5 hg5 hm5)
            clear ho5 hg5 hm5
            go_wp2_with fail
            go_roundw
            case rel => exact ⟨k + 1, v5, by omega, num_eq (by omega), rfl, (by show WInv _ _ _ _ _ _ _; rw [← HE.out]; exact HI5.out)⟩
            case measure => simp [intOf]; omega
          · obtain rfl : k = n2 := by omega
            go_wp2
            go_ret
            have := HR.out
            rw [HF.out]
            rw [List.take_of_length_le (by omega)] at this
            exact this.wrote

end Go.Proofs.Ytndkkgkcbbmnpaa
