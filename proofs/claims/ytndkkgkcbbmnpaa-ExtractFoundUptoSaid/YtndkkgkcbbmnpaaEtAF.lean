/-
  Reading items out of bytes and writing them are one another's inverse (plain law).
  Contract of pergolaref02.copied; pieces of bytes.
  Contracts of words.Read, pergolaref03.Bytes, pergolaref03.Read.
  Contract of pergolaref03.Read.
  Contracts of bits.RotateLeft64, pergolaref01.rot, digest.word, pergolaref01.word.
-/
import Derived.Test.YtndkkgkcbbmnpaaEtAE
namespace Go.Pg
theorem triple {A B C : Type} (p : A × B × C) : ∃ a b c, p = (a, b, c) := ⟨p.1, p.2.1, p.2.2, rfl⟩
theorem beBytes_beNum_snoc (l : List UInt8) (c : UInt8) (h : beBytes l.length (beNum l) = l) : beBytes (l ++ [c]).length (beNum (l ++ [c])) = l ++ [c] := by
  have hc := c.toNat_lt
  rw [beNum_snoc, List.length_append, List.length_singleton]
  simp only [beBytes]
  rw [show (beNum l * 256 + c.toNat) / 256 = beNum l by omega, show (beNum l * 256 + c.toNat) % 256 = c.toNat by omega, h]
  simp
theorem beBytes_beNum (l : List UInt8) : beBytes l.length (beNum l) = l := by
  have : ∀ r : List UInt8, beBytes r.reverse.length (beNum r.reverse) = r.reverse := by
    intro r
    induction r with
    | nil => rfl
    | cons c r ih => rw [List.reverse_cons]; exact beBytes_beNum_snoc _ _ ih
  have h := this l.reverse
  rwa [List.reverse_reverse] at h
theorem beNum_beBytes (k : Nat) : ∀ n, n < 256 ^ k → beNum (beBytes k n) = n := by
  induction k with
  | zero => intro n h; have : n = 0 := by simpa using h
            subst this; rfl
  | succ k ih =>
    intro n h
    simp only [beBytes]
    rw [beNum_snoc, ih (n / 256) (by rw [Nat.pow_succ] at h; omega), UInt8.toNat_ofNat', Nat.mod_eq_of_lt (a := n % 256) (by omega)]
    omega
theorem foldl_ge (l : List UInt8) : ∀ a : Nat, a * 256 ^ l.length ≤ l.foldl (fun n c => n * 256 + c.toNat) a := by
  induction l with
  | nil => intro a; simp
  | cons c l ih =>
    intro a
    have h1 := ih (a * 256 + c.toNat)
    simp only [List.foldl_cons, List.length_cons, Nat.pow_succ]
    have h3 : (a * 256) * 256 ^ l.length ≤ (a * 256 + c.toNat) * 256 ^ l.length := Nat.mul_le_mul_right _ (by omega)
    have h4 : a * (256 ^ l.length * 256) = (a * 256) * 256 ^ l.length := by rw [Nat.mul_comm (256 ^ l.length), Nat.mul_assoc]
    omega
theorem beNum_ge (c : UInt8) (l : List UInt8) (h : c ≠ 0) : 256 ^ l.length ≤ beNum (c :: l) := by
  have h1 := foldl_ge l (0 * 256 + c.toNat)
  have h2 : 1 ≤ c.toNat := by
    have : c.toNat ≠ 0 := fun e => h (UInt8.toNat_inj.1 (by simpa using e))
    omega
  have h3 : 1 * 256 ^ l.length ≤ (0 * 256 + c.toNat) * 256 ^ l.length := Nat.mul_le_mul_right _ (by omega)
  show _ ≤ List.foldl _ 0 (c :: l)
  simp only [List.foldl_cons]; omega
theorem number_ge (k : Nat) : ∀ n, 256 ^ k ≤ n → k + 1 ≤ number n := by
  induction k with
  | zero => intro n h; rw [number_pos (by simp at h; omega)]; omega
  | succ k ih =>
    intro n h
    have h0 : 0 < 256 ^ (k + 1) := Nat.pow_pos (by omega)
    rw [number_pos (by omega)]
    have := ih (n / 256) (by rw [Nat.pow_succ] at h; omega)
    omega
theorem number_eq (k n : Nat) (h1 : 256 ^ k ≤ n) (h2 : n < 256 ^ (k + 1)) : number n = k + 1 := by
  have := number_ge k n h1
  have := number_le (k + 1) n h2
  omega

/-- a size that was read is the one that is written -/
theorem readSize_sound (base m n : Nat) (t t' : List UInt8) (h : readSize m t = (0, n, t')) : UInt8.ofNat (base + m) :: t = headB base n ++ t' ∧ n ≤ 16777215 := by
  unfold readSize at h
  by_cases h55 : m ≤ 55
  · rw [if_pos h55] at h
    simp only [Prod.mk.injEq, true_and] at h
    obtain ⟨rfl, rfl⟩ := h
    unfold headB; rw [if_pos h55]; exact ⟨rfl, by omega⟩
  · rw [if_neg h55] at h
    by_cases h58 : 58 < m
    · rw [if_pos h58] at h; simp at h
    · rw [if_neg h58] at h
      by_cases hl : t.length < m - 55
      · rw [if_pos hl] at h; simp at h
      · rw [if_neg hl] at h
        obtain ⟨k, rfl⟩ : ∃ k, m = k + 56 := ⟨m - 56, by omega⟩
        rw [show k + 56 - 55 = k + 1 by omega] at h hl
        split at h
        · simp at h
        · rename_i hc
          simp only [Prod.mk.injEq, true_and] at h
          obtain ⟨rfl, rfl⟩ := h
          have hlen : (t.take (k + 1)).length = k + 1 := by rw [List.length_take]; omega
          cases t with
          | nil => simp at hl
          | cons c s =>
            have hc0 : c ≠ 0 := fun e => hc (.inl (by simpa using e))
            have hn55 : ¬ beNum ((c :: s).take (k + 1)) ≤ 55 := fun e => hc (.inr e)
            have hlo : 256 ^ k ≤ beNum ((c :: s).take (k + 1)) := by
              have := beNum_ge c (s.take k) hc0
              rw [List.length_take] at this
              simp only [List.length_cons] at hl
              rwa [Nat.min_eq_left (by omega)] at this
            have hhi := beNum_lt ((c :: s).take (k + 1))
            rw [hlen] at hhi
            have hnum := number_eq k _ hlo hhi
            have hb := beBytes_beNum ((c :: s).take (k + 1))
            rw [hlen] at hb
            refine ⟨?_, ?_⟩
            · unfold headB
              rw [if_neg hn55, hnum, hb, show base + (k + 56) = base + 55 + (k + 1) by omega, List.cons_append, List.take_append_drop]
            · have : 256 ^ (k + 1) ≤ 256 ^ 3 := Nat.pow_le_pow_right (by omega) (by omega)
              omega
/-- what is written of a size is read -/
theorem readSize_head (base n : Nat) (t : List UInt8) (h : n ≤ 16777215) : ∃ m s, m ≤ 58 ∧ headB base n ++ t = UInt8.ofNat (base + m) :: s ∧ readSize m s = (0, n, t) := by
  by_cases h55 : n ≤ 55
  · refine ⟨n, t, by omega, by unfold headB; rw [if_pos h55]; rfl, by unfold readSize; rw [if_pos h55]⟩
  · have hn3 : number n ≤ 3 := number_le 3 n (by omega)
    have hk : ∃ k, number n = k + 1 := ⟨number n - 1, by rw [number_pos (by omega)]; omega⟩
    obtain ⟨k, hk⟩ := hk
    have hlt : n < 256 ^ (k + 1) := by
      by_cases h : n < 256 ^ (k + 1)
      · exact h
      · have := number_ge (k + 1) n (by omega); omega
    have hge : 256 ^ k ≤ n := by
      by_cases h : 256 ^ k ≤ n
      · exact h
      · have := number_le k n (by omega); omega
    have hbl := beBytes_length (k + 1) n
    refine ⟨55 + (k + 1), beBytes (k + 1) n ++ t, by omega, by unfold headB; rw [if_neg h55, hk, show base + 55 + (k + 1) = base + (55 + (k + 1)) by omega]; rfl, ?_⟩
    unfold readSize
    rw [if_neg (by omega), if_neg (by omega), show 55 + (k + 1) - 55 = k + 1 by omega, if_neg (by rw [List.length_append]; omega), List.take_append_of_le_length (by omega), List.drop_append_of_le_length (by omega),
      List.take_of_length_le (by omega), List.drop_of_length_le (by omega), beNum_beBytes _ _ hlt, if_neg]
    · rfl
    · rintro (h0 | h0)
      · have hh : beBytes (k + 1) n = [] ∨ ∃ c s, beBytes (k + 1) n = c :: s := by
          cases beBytes (k + 1) n with
          | nil => exact .inl rfl
          | cons c s => exact .inr ⟨c, s, rfl⟩
        rcases hh with e | ⟨c, s, e⟩
        · rw [e] at hbl; simp at hbl
        · rw [e] at h0
          simp at h0
          subst h0
          have e2 := beNum_beBytes (k + 1) n hlt
          rw [e] at e2
          have e3 : beNum ((0 : UInt8) :: s) = beNum s := by simp [beNum]
          have e4 := beNum_lt s
          have e5 : s.length = k := by rw [e] at hbl; simpa using hbl
          rw [e5] at e4
          omega
      · omega

/-- items that have an encoding: so many lists in one another, bodies not too long -/
def It.fits : Nat → It → Prop
  | _, .text b => b.length ≤ 16777215
  | 0, .list _ => False
  | f + 1, .list l => It.wholes l ≤ 16777215 ∧ ∀ y, y ∈ l → It.fits f y

theorem rdAll_sound (rd : List UInt8 → Nat × It × List UInt8) (P : It → Prop) (hs : ∀ bs x r, rd bs = (0, x, r) → bs = x.enc ++ r ∧ P x) :
    ∀ (k : Nat) (L : List UInt8) (l : List It), rdAll rd k L = (0, l) → L.length ≤ k → L = It.encs l ∧ ∀ y, y ∈ l → P y := by
  intro k
  induction k with
  | zero =>
    intro L l h hl
    have : L = [] := List.eq_nil_of_length_eq_zero (by omega)
    subst this
    simp only [rdAll, Prod.mk.injEq, true_and] at h
    subst h
    exact ⟨rfl, fun y hy => by cases hy⟩
  | succ k ih =>
    intro L l h hl
    simp only [rdAll] at h
    by_cases h0 : L = []
    · rw [if_pos h0] at h
      simp only [Prod.mk.injEq, true_and] at h
      subst h h0
      exact ⟨rfl, fun y hy => by cases hy⟩
    · rw [if_neg h0] at h
      by_cases he : (rd L).1 = 0
      · rw [if_neg (by simpa using he)] at h
        simp only [Prod.mk.injEq] at h
        obtain ⟨h1, rfl⟩ := h
        obtain ⟨e1, e2⟩ := hs L (rd L).2.1 (rd L).2.2 (by rw [← he])
        have hpos := It.whole_pos (rd L).2.1
        have hlen : L.length = ((rd L).2.1.enc ++ (rd L).2.2).length := by rw [← e1]
        rw [List.length_append, It.enc_length] at hlen
        obtain ⟨e3, e4⟩ := ih (rd L).2.2 _ (by rw [← h1]) (by omega)
        refine ⟨by rw [It.encs, ← e3]; exact e1, fun y hy => ?_⟩
        rcases List.mem_cons.1 hy with rfl | hy
        · exact e2
        · exact e4 y hy
      · rw [if_pos he] at h
        simp only [Prod.mk.injEq] at h
        exact absurd h.1 he
theorem rdAll_back (rd : List UInt8 → Nat × It × List UInt8) (l : List It) (hs : ∀ x, x ∈ l → ∀ r, rd (x.enc ++ r) = (0, x, r)) :
    ∀ (k : Nat), (It.encs l).length ≤ k → rdAll rd k (It.encs l) = (0, l) := by
  induction l with
  | nil => intro k _; cases k <;> simp [rdAll, It.encs]
  | cons x l ih =>
    intro k hk
    have hpos := It.whole_pos x
    have hne : It.encs (x :: l) ≠ [] := by
      intro e
      have := congrArg List.length e
      rw [It.encs_length, It.wholes] at this
      simp at this; omega
    have hle : (It.encs (x :: l)).length = x.whole + (It.encs l).length := by rw [It.encs_length, It.wholes, It.encs_length]
    cases k with
    | zero => omega
    | succ k =>
      simp only [rdAll]
      rw [if_neg hne]
      have h1 := hs x (List.mem_cons_self ..) (It.encs l)
      have h2 := ih (fun y hy => hs y (List.mem_cons_of_mem _ hy)) k (by omega)
      simp only [It.encs, h1, h2]
      rfl

theorem rdItem_sound (f : Nat) : ∀ (bs : List UInt8) (x : It) (r : List UInt8), rdItem f bs = (0, x, r) → bs = x.enc ++ r ∧ It.fits f x := by
  induction f with
  | zero =>
    intro bs x r h
    cases bs with
    | nil => simp [rdItem] at h
    | cons c t => exact rdItem_sound_text 0 c t x r h (fun h1 h2 => by
        have : rdItem 0 (c :: t) = (21, .text [], []) := by unfold rdItem; rw [if_neg h1, if_neg h2]
        rw [this] at h; simp at h)
  | succ f ih =>
    intro bs x r h
    cases bs with
    | nil => simp [rdItem] at h
    | cons c t => exact rdItem_sound_text (f + 1) c t x r h (fun h1 h2 => by
        have hr : rdItem (f + 1) (c :: t) = rdList (rdItem f) (readSize (c.toNat - 192) t) := by rw [rdItem, if_neg h1, if_neg h2]
        rw [hr] at h
        obtain ⟨e1, n, t', hs⟩ := triple (readSize (c.toNat - 192) t)
        rw [hs] at h
        unfold rdList at h
        by_cases he : e1 = 0
        · subst he
          rw [if_neg (by simp)] at h
          by_cases hn : t'.length < n
          · rw [if_pos hn] at h; simp at h
          · rw [if_neg hn] at h
            simp only at h hn
            obtain ⟨l, e2, hl⟩ : ∃ l e2, rdAll (rdItem f) n (t'.take n) = (e2, l) := ⟨_, _, rfl⟩
            rw [hl] at h
            by_cases h2 : e2 = 0
            · subst h2
              rw [if_neg (by simp)] at h
              simp only [Prod.mk.injEq, true_and] at h
              obtain ⟨rfl, rfl⟩ := h
              have htl : (t'.take n).length = n := by rw [List.length_take]; omega
              obtain ⟨g1, g2⟩ := rdAll_sound (rdItem f) (It.fits f) ih n _ l hl (by omega)
              obtain ⟨g3, g4⟩ := readSize_sound 192 _ _ _ _ hs
              have hw : It.wholes l = n := by rw [← It.encs_length, ← g1, htl]
              refine ⟨?_, by rw [hw]; exact g4, g2⟩
              rw [It.enc, ← g1, htl, List.append_assoc, List.take_append_drop, ← g3, show 192 + (c.toNat - 192) = c.toNat by omega, UInt8.ofNat_toNat]
            · rw [if_pos (by simpa using h2)] at h
              simp only [Prod.mk.injEq] at h
              exact absurd h.1 h2
        · rw [if_pos (by simpa using he)] at h
          simp only [Prod.mk.injEq] at h
          exact absurd h.1 he)
where
  rdItem_sound_text (f : Nat) (c : UInt8) (t : List UInt8) (x : It) (r : List UInt8) (h : rdItem f (c :: t) = (0, x, r)) (hl : ¬ c.toNat < 128 → ¬ c.toNat < 192 → c :: t = x.enc ++ r ∧ It.fits f x) : c :: t = x.enc ++ r ∧ It.fits f x := by
    by_cases h1 : c.toNat < 128
    · have hr : rdItem f (c :: t) = (0, .text [c], t) := by unfold rdItem; rw [if_pos h1]
      rw [hr] at h
      simp only [Prod.mk.injEq, true_and] at h
      obtain ⟨rfl, rfl⟩ := h
      have hp : plainB [c] = true := by unfold plainB; simp; exact h1
      refine ⟨by rw [It.enc, if_pos hp]; rfl, ?_⟩
      unfold It.fits; simp
    · by_cases h2 : c.toNat < 192
      · have hr : rdItem f (c :: t) = rdText (readSize (c.toNat - 128) t) := by unfold rdItem; rw [if_neg h1, if_pos h2]
        rw [hr] at h
        obtain ⟨e1, n, t', hs⟩ := triple (readSize (c.toNat - 128) t)
        rw [hs] at h
        unfold rdText at h
        by_cases he : e1 = 0
        · subst he
          rw [if_neg (by simp)] at h
          by_cases hn : t'.length < n
          · rw [if_pos hn] at h; simp at h
          · rw [if_neg hn] at h
            by_cases hb : n = 1 ∧ (t'.headD 0).toNat < 128
            · rw [if_pos hb] at h; simp at h
            · rw [if_neg hb] at h
              simp only [Prod.mk.injEq, true_and] at h hn
              obtain ⟨rfl, rfl⟩ := h
              have htl : (t'.take n).length = n := by rw [List.length_take]; omega
              obtain ⟨g3, g4⟩ := readSize_sound 128 _ _ _ _ hs
              have hp : plainB (t'.take n) = false := by
                cases hpp : plainB (t'.take n) with
                | false => rfl
                | true =>
                  unfold plainB at hpp
                  rw [htl] at hpp
                  simp only [Bool.and_eq_true, beq_iff_eq, decide_eq_true_eq] at hpp
                  obtain ⟨rfl, h3⟩ := hpp
                  refine absurd ⟨rfl, ?_⟩ hb
                  cases t' with
                  | nil => simp at hn
                  | cons y s => simpa using h3
              refine ⟨?_, ?_⟩
              · rw [It.enc, if_neg (by simp [hp]), htl, List.append_assoc, List.take_append_drop, ← g3, show 128 + (c.toNat - 128) = c.toNat by omega, UInt8.ofNat_toNat]
              · unfold It.fits; rw [htl]; exact g4
        · rw [if_pos (by simpa using he)] at h
          simp only [Prod.mk.injEq] at h
          exact absurd h.1 he
      · exact hl h1 h2
theorem rdItem_back : ∀ (f : Nat) (x : It) (r : List UInt8), It.fits f x → rdItem f (x.enc ++ r) = (0, x, r)
  | f, .text b, r, h => by
    have hb : b.length ≤ 16777215 := by unfold It.fits at h; exact h
    rw [It.enc]
    by_cases hp : plainB b = true
    · rw [if_pos hp]
      unfold plainB at hp
      simp only [Bool.and_eq_true, beq_iff_eq, decide_eq_true_eq] at hp
      match b, hp with
      | [c], hp => 
        have h1 : c.toNat < 128 := by simpa using hp.2
        show rdItem f (c :: r) = _
        unfold rdItem; rw [if_pos h1]
    · rw [if_neg hp, List.append_assoc]
      obtain ⟨m, s, hm, e1, e2⟩ := readSize_head 128 b.length (b ++ r) hb
      rw [e1]
      have hc : (UInt8.ofNat (128 + m)).toNat = 128 + m := by rw [UInt8.toNat_ofNat', Nat.mod_eq_of_lt (by omega)]
      have : rdItem f (UInt8.ofNat (128 + m) :: s) = rdText (readSize ((UInt8.ofNat (128 + m)).toNat - 128) s) := by unfold rdItem; rw [if_neg (by omega), if_pos (by omega)]
      rw [this, hc, Nat.add_sub_cancel_left, e2]
      unfold rdText
      rw [if_neg (by simp), if_neg (by simp), if_neg]
      · simp
      · rintro ⟨h1, h2⟩
        simp only at h1 h2
        refine hp ?_
        unfold plainB
        match b, h1 with
        | [c], _ => simpa using h2
  | 0, .list l, r, h => by unfold It.fits at h; exact h.elim
  | f + 1, .list l, r, h => by
    unfold It.fits at h
    obtain ⟨hw, hall⟩ := h
    rw [It.enc, List.append_assoc]
    have hel := It.encs_length l
    obtain ⟨m, s, hm, e1, e2⟩ := readSize_head 192 (It.encs l).length (It.encs l ++ r) (by omega)
    rw [e1]
    have hc : (UInt8.ofNat (192 + m)).toNat = 192 + m := by rw [UInt8.toNat_ofNat', Nat.mod_eq_of_lt (by omega)]
    have : rdItem (f + 1) (UInt8.ofNat (192 + m) :: s) = rdList (rdItem f) (readSize ((UInt8.ofNat (192 + m)).toNat - 192) s) := by rw [rdItem, if_neg (by omega), if_neg (by omega)]
    rw [this, hc, Nat.add_sub_cancel_left, e2]
    have hr := rdAll_back (rdItem f) l (fun x hx r' => rdItem_back f x r' (hall x hx)) (It.encs l).length (Nat.le_refl _)
    unfold rdList
    simp only [List.take_left', List.drop_left']
    rw [if_neg (by simp), if_neg (by simp), hr]
    simp
/-- bytes that are read whole are the item's encoding -/
theorem rdWhole_sound (bs : List UInt8) (x : It) (h : rdWhole bs = (0, x)) : bs = x.enc ∧ It.fits 8 x := by
  unfold rdWhole at h
  obtain ⟨e, y, r, hr⟩ := triple (rdItem 8 bs)
  rw [hr] at h
  by_cases he : e = 0
  · subst he
    rw [if_neg (by simp)] at h
    by_cases hr0 : r = []
    · subst hr0
      rw [if_neg (by simp)] at h
      simp only [Prod.mk.injEq, true_and] at h
      subst h
      have := rdItem_sound 8 bs y [] hr
      rwa [List.append_nil] at this
    · rw [if_pos hr0] at h; simp at h
  · rw [if_pos he] at h
    simp only [Prod.mk.injEq] at h
    exact absurd h.1 he
theorem rdWhole_back (x : It) (h : It.fits 8 x) : rdWhole x.enc = (0, x) := by
  have := rdItem_back 8 x [] h
  rw [List.append_nil] at this
  unfold rdWhole
  rw [this]; simp
theorem enc_inj (x y : It) (hx : It.fits 8 x) (hy : It.fits 8 y) (h : x.enc = y.enc) : x = y := by
  have h1 := rdWhole_back x hx
  rw [h, rdWhole_back y hy] at h1
  simpa using h1.symm
end Go.Pg
namespace Go.Pg
open Go.RowKit
/-- the bytes from one place up to another -/
def seg (B : List UInt8) (p e : Nat) : List UInt8 := (B.take e).drop p
theorem seg_nil (B : List UInt8) (p e : Nat) (h : e ≤ p) : seg B p e = [] := by
  unfold seg; apply List.drop_of_length_le; rw [List.length_take]; omega
theorem seg_len (B : List UInt8) (p e : Nat) (h : e ≤ B.length) : (seg B p e).length = e - p := by
  unfold seg; rw [List.length_drop, List.length_take]; omega
theorem seg_drop (B : List UInt8) (p e k : Nat) : (seg B p e).drop k = seg B (p + k) e := by
  unfold seg; rw [List.drop_drop]
theorem seg_take (B : List UInt8) (p e k : Nat) (h : p + k ≤ e) : (seg B p e).take k = seg B p (p + k) := by
  unfold seg
  rw [List.take_drop, List.take_take, Nat.min_eq_left h]
theorem seg_get (B : List UInt8) (p e i : Nat) (h : p + i < e) : (seg B p e)[i]? = B[p + i]? := by
  unfold seg
  rw [List.getElem?_drop, List.getElem?_take, if_pos h]
theorem seg_cons (B : List UInt8) (p e : Nat) (h : p < e) (he : e ≤ B.length) : seg B p e = B[p]'(by omega) :: seg B (p + 1) e := by
  unfold seg
  rw [List.drop_eq_getElem_cons (by rw [List.length_take]; omega), List.getElem_take]
theorem seg_getD (B : List UInt8) (p e : Nat) (h : p < e) (he : e ≤ B.length) : seg B p e = B.getD p 0 :: seg B (p + 1) e := by
  rw [seg_cons B p e h he, List.getD_eq_getElem?_getD, List.getElem?_eq_getElem (by omega)]; rfl
theorem BytesAt.cellD {F : Nat → Prop} {w : World} {b o n c : Nat} {bs : List UInt8} (h : BytesAt F w (.slice (some ⟨b, o, none⟩) n c) bs) (i : Nat) (hi : i < bs.length) : w.cell? ⟨b, o + i, none⟩ = some (.int .u8 ((bs.getD i 0).toNat : Int)) := by
  rw [BytesAt.cell h i hi, List.getD_eq_getElem?_getD, List.getElem?_eq_getElem hi]; rfl
theorem seg_all (B : List UInt8) : seg B 0 B.length = B := by unfold seg; simp
theorem addr_map_add (b o k : Nat) : (some (⟨b, o, none⟩ : Addr)).map (·.add k) = some ⟨b, o + k, none⟩ := by
  simp only [Option.map_some, Option.some.injEq]
  unfold Addr.add; split <;> simp_all
/-- b[lo:hi] -/
theorem BytesAt.seg {F : Nat → Prop} {w : World} {a a2 : Option Addr} {n c : Nat} {bs : List UInt8} (h : BytesAt F w (.slice a n c) bs) (lo hi : Nat) (hl : lo ≤ hi) (hk : hi ≤ n) (ha2 : (if c = lo then a else a.map (·.add lo)) = a2) :
    BytesAt F w (.slice a2 (hi - lo) (c - lo)) (seg bs lo hi) :=
  BytesAt.since (BytesAt.upto h hi hk) lo hl ha2
theorem BytesAt.n {F : Nat → Prop} {w : World} {a : Option Addr} {n c : Nat} {bs : List UInt8} (h : BytesAt F w (.slice a n c) bs) : n = bs.length ∧ n ≤ c ∧ c ≤ maxLen := by
  obtain ⟨a', c', hv, h1, h2, -⟩ := h
  simp only [Value.slice.injEq] at hv
  obtain ⟨-, rfl, rfl⟩ := hv
  exact ⟨rfl, h1, h2⟩
end Go.Pg
namespace Go.Proofs.Ytndkkgkcbbmnpaa
open Go.RowKit Go.Pg

set_option maxRecDepth 100000 in
set_option maxHeartbeats 400000 in
theorem copied_any (F : Nat → Prop) (w : World) (v : Value) (bs : List UInt8) (h : BytesAt F w v bs) (hlen : bs.length ≤ 70368744177664) :
    Calls Try.prog 111 #[v] w (Fresh w 5 1 byteR bs) := by
  obtain ⟨i0, hi, hz0, hz1, hz2⟩ := info_parts infoU8
  have hle : (([] : List UInt8).length + bs.length) * 1 ≤ 140737488355328 := by simp; omega
  go_enter Try.func111, Try.ntmps111
  go_wp2_with (at_builtin; refine wpList_append_at rfl (.tmp 4) (.tmp 5) 25 rfl w.heap.size 5 i0 (.int .u8 0) 1 1 underlying25 hi hz0 hz1 hz2 rfl (by decide) (by decide) byteR.one (.slice none 0 0) [] rfl (OwnAt.nil _ _ _ _ _) _ bs F rfl h hle (Nat.le_refl _) ?_; intro v' w2 ho hg hm)
  have HO := Lib.hid ho
  have HG := Lib.hid hg
  clear ho hg hm
  go_wp2
  go_ret
  exact ⟨v', rfl, by simpa using HO.out, (Below.refl _ _).grown HG.out (Nat.le_refl _) (fun k hk => by simp [Value.ownBlock] at hk)⟩
end Go.Proofs.Ytndkkgkcbbmnpaa
namespace Go.Pg
open Go.RowKit
/-- what bytes say as a word: the number, and whether they are a word's -/
def readWord (bs : List UInt8) : Nat × Bool := if 8 < bs.length ∨ bs.head? = some 0 then (0, false) else (beNum bs, true)
end Go.Pg
namespace Go.Proofs.Ytndkkgkcbbmnpaa
open Go.RowKit Go.Pg

set_option maxRecDepth 100000 in
set_option maxHeartbeats 1000000 in
theorem wread_any (F : Nat → Prop) (w : World) (a : Option Addr) (n c : Nat) (bs : List UInt8) (h : BytesAt F w (.slice a n c) bs) :
    Calls Try.prog 82 #[.slice a n c] w fun e w' => e = .returned (.tuple #[.int .u64 (readWord bs).1, .bool (readWord bs).2]) ∧ w = w' := by
  obtain ⟨hn, -, -⟩ := BytesAt.n h
  by_cases h8 : 8 < n
  · have hr : readWord bs = (0, false) := by unfold readWord; rw [if_pos (.inl (by omega))]
    rw [hr]
    have HN := Lib.hid hn
    have H := Lib.hid h
    have hn8 : (8 : Int) < (n : Int) := by omega
    clear hr hn h h8
    go_enter Try.func82, Try.ntmps82
    go_wp2
    go_ret2
    exact ⟨rfl, rfl⟩
  · by_cases hz : bs.head? = some 0
    · have hr : readWord bs = (0, false) := by unfold readWord; rw [if_pos (.inr hz)]
      obtain ⟨t, rfl⟩ : ∃ t, bs = 0 :: t := by
        cases bs with
        | nil => cases hz
        | cons x t => simp at hz; subst hz; exact ⟨t, rfl⟩
      rw [hr]
      rcases SliceAt.split h with ⟨h0, _⟩ | ⟨b, o, rfl, -, hp, -⟩
      · cases h0
      have hc := BytesAt.cell h 0 (by simp)
      simp only [Nat.add_zero, List.getElem_cons_zero] at hc
      have hn8 : (n : Int) ≤ 8 := by omega
      clear hr hn h h8 hz
      go_enter Try.func82, Try.ntmps82
      go_wp2
      go_ret2
      exact ⟨rfl, rfl⟩
    · have hr : readWord bs = (beNum bs, true) := by
        unfold readWord; rw [if_neg]
        rintro (h1 | h1)
        · omega
        · exact hz h1
      have hpath : n = 0 ∨ (0 < n ∧ ∃ b o x, a = some ⟨b, o, none⟩ ∧ w.cell? ⟨b, o, none⟩ = some (.int .u8 ((x : Nat) : Int)) ∧ 0 < x) := by
        rcases SliceAt.split h with ⟨h0, h1⟩ | ⟨b, o, rfl, -, hp, -⟩
        · exact .inl h1
        · cases bs with
          | nil => simp at hn; exact .inl hn
          | cons x t =>
            have hc := BytesAt.cell h 0 (by simp)
            simp only [Nat.add_zero, List.getElem_cons_zero] at hc
            refine .inr ⟨hp, b, o, x.toNat, rfl, hc, ?_⟩
            rcases Nat.eq_zero_or_pos x.toNat with h | h
            · exact absurd (by rw [UInt8.toNat_inj.1 (show x.toNat = (0 : UInt8).toNat from h)]; rfl) hz
            · exact h
      rw [hr]
      have hn8 : (n : Int) ≤ 8 := by omega
      have H := Lib.hid h
      clear hr hn h h8 hz
      rcases hpath with rfl | ⟨hp, b, o, x, rfl, hc, hx⟩
      rotate_left
      have hx0 : ((x : Int) == 0) = false := by simp; omega
      all_goals
        go_enter Try.func82, Try.ntmps82
        go_wp2_with fail
        refine (number_u64 F w _ _ c bs H.out (by omega)).mono ?_
        rintro e w' ⟨rfl, rfl⟩
        go_wp2
        go_ret2
        exact ⟨rfl, rfl⟩

set_option maxRecDepth 100000 in
set_option maxHeartbeats 1000000 in
theorem r3bytes_any (n : Nat) (w : World) (hn : (n : Int) < 18446744073709551616) :
    Calls Try.prog 81 #[.int .u64 n] w (Fresh w 5 1 byteR (wordB n)) := by
  obtain ⟨i0, hi, hz0, hz1, hz2⟩ := info_parts infoU8
  go_enter Try.func81, Try.ntmps81
  go_wp2
  go_loopw [0, 3] (fun m v wr => ∃ (k : Nat) (l : List UInt8) (a : Option Addr) (c : Nat) (j : Nat), m = .int .u64 k ∧ (k : Int) < 18446744073709551616 ∧ j ≤ 8 ∧ v = .slice a j c ∧
     Hid (OwnAt wr w.heap.size 5 1 byteR (.slice a j c) l ∧ wordB k ++ l = wordB n ∧ Below w.heap.size w wr)) (fun m _ _ => (intOf m).toNat)
  case atStart => exact ⟨n, [], none, 0, 0, rfl, hn, by omega, rfl, OwnAt.nil _ _ _ _ _, by simp, Bel.refl _⟩
  case round =>
    obtain ⟨k, l, a, c, j, rfl, hk, hj, rfl, H⟩ := hrel
    by_cases h0 : k = 0
    · subst h0
      go_wp2
      go_ret
      obtain ⟨h1, h2, h3⟩ := H.out
      have h4 : l = wordB n := by rw [← h2]; unfold wordB; rw [number_zero]; rfl
      rw [h4] at h1
      exact ⟨_, rfl, h1, h3⟩
    · have hk0 : (0 : Int) < (k : Int) := by omega
      have hk1 : (k : Int) ≠ 0 := by omega
      obtain ⟨h1, h2, h3⟩ := H.out
      have hw : wordB k = wordB (k / 256) ++ [UInt8.ofNat (k % 256)] := by unfold wordB; rw [number_pos (n := k) (by omega)]; rfl
      have hl : l.length = j := by
        obtain ⟨_, _, e, -⟩ := h1.len
        simp only [Value.slice.injEq] at e
        omega
      have hlen : ([UInt8.ofNat (k % 256)] : List UInt8).length + l.length = j + 1 := by simp; omega
      have hj1 : j + 1 ≤ 8 := by
        have e1 := congrArg List.length h2
        rw [hw] at e1
        simp only [List.length_append, List.length_cons, List.length_nil] at e1
        have e2 := wordB_le n hn
        omega
      have hkey : wordB (k / 256) ++ ([UInt8.ofNat (k % 256)] ++ l) = wordB n := by rw [← h2, hw]; simp
      have hat := h1.at (F := fun _ => True) (fun _ _ _ _ => trivial) (by decide)
      have hb := h3.size
      have hsrc : BytesAt (fun _ => True) (wr.alloc (.cells #[.int .u8 ((k : Int) % 256)] 5)) (.slice a j c) l := BytesAt.below hat (Bel.alloc (Bel.refl wr) _)
      have hown : OwnAt (wr.alloc (.cells #[.int .u8 ((k : Int) % 256)] 5)) w.heap.size 5 1 byteR (.slice (some ⟨wr.heap.size, 0, none⟩) 1 1) [UInt8.ofNat (k % 256)] := by
        have := (OwnAt.lit' wr 5 (UInt8.ofNat (k % 256))).lower hb
        rw [UInt8.toNat_ofNat', Nat.mod_eq_of_lt (Nat.mod_lt _ (by omega))] at this
        exact this
      have hle : (([UInt8.ofNat (k % 256)] : List UInt8).length + l.length) * 1 ≤ 140737488355328 := by rw [hlen]; omega
      have hbase : w.heap.size ≤ (wr.alloc (.cells #[.int .u8 ((k : Int) % 256)] 5)).heap.size := by simp; omega
      have H1 := Lib.hid hown
      have H2 := Lib.hid hsrc
      have H3 := Lib.hid hkey
      have H4 := Lib.hid h3
      have H5 := Lib.hid hle
      have H6 := Lib.hid hlen
      obtain ⟨ki, hki⟩ : ∃ ki : Int, ki = (k : Int) := ⟨_, rfl⟩
      rw [← hki] at H1 H2 hbase hk hk0 hk1 ⊢
      have HKI := Lib.hid hki
      have HN := Lib.hid hn
      clear hki hn h0
      clear h1 h2 h3 hw hkey hat hb hsrc hown hle hl hlen H
      go_wp2_with (at_builtin; refine wpList_append_at rfl (.tmp 9) (.tmp 10) 25 rfl w.heap.size 5 i0 (.int .u8 0) 1 1 underlying25 hi hz0 hz1 hz2 rfl (by decide) (by decide) byteR.one (.slice (some ⟨wr.heap.size, 0, none⟩) 1 1) [UInt8.ofNat (k % 256)] rfl H1.out _ l (fun _ => True) rfl H2.out H5.out hbase ?_; intro v2 w2 ho hg hm)
      have hown2 := (H1.out).own
      have hbel := (H4.out.alloc (by have := H4.out.size; omega) (.cells #[.int .u8 (ki % 256)] 5)).grown hg hbase (fun g hg' => (hown2 g hg').1)
      obtain ⟨a2, c2, hv2, -, -, -⟩ := ho.len
      rw [List.length_append, H6.out] at hv2
      subst hv2
      have HNX : Hid (OwnAt w2 w.heap.size 5 1 byteR (.slice a2 (j + 1) c2) ([UInt8.ofNat (k % 256)] ++ l) ∧ wordB (k / 256) ++ ([UInt8.ofNat (k % 256)] ++ l) = wordB n ∧ Below w.heap.size w w2) := ⟨ho, H3.out, hbel⟩
      clear ho hg hm hown2 hbel
      go_wp2
      go_roundw
      case rel => exact ⟨k / 256, _, a2, c2, j + 1, num_eq (by rw [HKI.out]; omega), by have := HKI.out; omega, by omega, rfl, HNX⟩
      case measure => have := HKI.out; simp [intOf]; omega
end Go.Proofs.Ytndkkgkcbbmnpaa
namespace Go.Pg
open Go.RowKit
theorem mul_u64 (p : Nat) (x : UInt8) (hp : p < 256 ^ 7) : IntKind.u64.wrap (IntKind.u64.wrap ((p : Int) * 256) + IntKind.u64.wrap (x.toNat : Int)) = ((p * 256 + x.toNat : Nat) : Int) := by
  have hx := x.toNat_lt
  rw [IntWalk.u64_in (x.toNat : Int) (by omega), IntWalk.u64_in ((p : Int) * 256) (by omega), IntWalk.u64_in _ (by omega)]
  omega
theorem beNum_be (k n : Nat) (h : n < 256 ^ k) : beNum (beBytes k n) = n := by
  induction k generalizing n with
  | zero => have : n = 0 := by simpa using h
            subst this; rfl
  | succ k ih =>
    simp only [beBytes]
    rw [beNum_snoc, ih (n / 256) (by rw [Nat.pow_succ] at h; exact Nat.div_lt_of_lt_mul (by omega)), UInt8.toNat_ofNat', Nat.mod_eq_of_lt (Nat.mod_lt _ (by omega))]
    omega
theorem lt_number (n : Nat) : n < 256 ^ number n := by
  induction n using Nat.strongRecOn with
  | _ n ih =>
    by_cases h : n = 0
    · subst h; rw [number_zero]; exact Nat.one_pos
    · rw [number_pos (n := n) (by omega), Nat.pow_succ]
      have := ih (n / 256) (by omega)
      omega
theorem beNum_wordB (n : Nat) : beNum (wordB n) = n := by
  unfold wordB
  exact beNum_be _ _ (lt_number n)
theorem be_beNum (l : List UInt8) : ∀ k, k ≤ l.length → beBytes k (beNum (l.take k)) = l.take k := by
  intro k
  induction k with
  | zero => intro _; simp [beBytes]
  | succ k ih =>
    intro h
    rw [number_snoc l k (by omega)]
    simp only [beBytes]
    have hx := (l[k]).toNat_lt
    rw [show (beNum (l.take k) * 256 + (l[k]).toNat) / 256 = beNum (l.take k) by omega, show (beNum (l.take k) * 256 + (l[k]).toNat) % 256 = (l[k]).toNat by omega, ih (by omega), List.take_succ_eq_append_getElem (by omega)]
    congr 2
    exact UInt8.ofNat_toNat
theorem wordB_beNum (l : List UInt8) : wordB (beNum l) = l.dropWhile (· == 0) := by
  rw [← strip_be l.length (beNum l) (beNum_lt l)]
  have := be_beNum l l.length (Nat.le_refl _)
  rw [List.take_length] at this
  rw [this]
theorem wordB_beNum_iff (l : List UInt8) : wordB (beNum l) = l ↔ l.head? ≠ some 0 := by
  rw [wordB_beNum]
  cases l with
  | nil => simp
  | cons x t =>
    by_cases h : x = 0
    · subst h
      simp only [List.head?_cons, ne_eq, not_true, iff_false]
      intro e
      have := congrArg List.length e
      have h2 := (List.dropWhile_suffix (l := t) (fun x : UInt8 => x == 0)).length_le
      simp at this
      omega
    · have : (x == 0) = false := by simpa using h
      simp [this, h]
theorem beNum_w64 (l : List UInt8) (h : l.length ≤ 8) : (beNum l : Int) < 18446744073709551616 := by
  have h1 := beNum_lt l
  have h2 : 256 ^ l.length ≤ 256 ^ 8 := Nat.pow_le_pow_right (by omega) h
  have h3 : beNum l < 256 ^ 8 := Nat.lt_of_lt_of_le h1 h2
  omega
end Go.Pg
namespace Go.Proofs.Ytndkkgkcbbmnpaa
open Go.RowKit Go.Pg

set_option maxRecDepth 100000 in
set_option maxHeartbeats 1000000 in
theorem rread_any (F : Nat → Prop) (w : World) (a : Option Addr) (n c : Nat) (bs : List UInt8) (h : BytesAt F w (.slice a n c) bs) :
    Calls Try.prog 83 #[.slice a n c] w fun e w' => e = .returned (.tuple #[.int .u64 (readWord bs).1, .bool (readWord bs).2]) ∧ Below w.heap.size w w' := by
  obtain ⟨hn, hnc, hcm⟩ := BytesAt.n h
  by_cases h8 : 8 < n
  · have hr : readWord bs = (0, false) := by unfold readWord; rw [if_pos (.inl (by omega))]
    rw [hr]
    have hn8 : (8 : Int) < (n : Int) := by omega
    clear hr hn h h8 hnc hcm
    go_enter Try.func83, Try.ntmps83
    go_wp2
    go_ret2
    exact ⟨rfl, Bel.refl _⟩
  · have hn8 : (n : Int) ≤ 8 := by omega
    unfold maxLen at hcm
    have H := Lib.hid h
    have HN := Lib.hid hn
    clear h hn h8
    go_enter Try.func83, Try.ntmps83
    go_wp2
    go_loop [4, 5] (fun s i => ∃ k : Nat, k ≤ n ∧ i = .int .i64 k ∧ s = .int .u64 (beNum (bs.take k))) (fun _ i => n - (intOf i).toNat)
    case atStart => exact ⟨0, by omega, rfl, rfl⟩
    case round =>
      obtain ⟨k, hk, rfl, rfl⟩ := hrel
      by_cases hlt : k < n
      · rcases SliceAt.split H.out with ⟨_, h0⟩ | ⟨b, o, rfl, -, -, -⟩
        · omega
        have hc := BytesAt.cell H.out k (by have := HN.out; omega)
        obtain ⟨p, hp⟩ : ∃ p, p = beNum (bs.take k) := ⟨_, rfl⟩
        obtain ⟨x, hx⟩ : ∃ x, x = bs[k]'(by have := HN.out; omega) := ⟨_, rfl⟩
        rw [← hx] at hc
        rw [← hp]
        have HP := Lib.hid hp
        have HX := Lib.hid hx
        have hk0 : (0 : Int) ≤ (k : Int) := by omega
        have hk1 : (k : Int) < (n : Int) := by omega
        clear hp hx
        go_wp2
        go_round
        case rel => exact ⟨k + 1, by omega, num_eq (by omega), num_eq (by rw [number_snoc bs k (by have := HN.out; omega), ← HP.out, ← HX.out]; exact mul_u64 p x (by rw [HP.out]; exact beNum_small bs k (by omega)))⟩
        case measure => simp [intOf]; omega
      · obtain rfl : n = k := by omega
        rw [List.take_of_length_le (by have := HN.out; omega)]
        obtain ⟨p, hp⟩ : ∃ p, p = beNum bs := ⟨_, rfl⟩
        have hpb := beNum_w64 bs (by have := HN.out; omega)
        rw [← hp] at hpb ⊢
        have HP := Lib.hid hp
        have hs : ∀ w' : World, Below w.heap.size w w' → (convert 25 9 (.slice a n c)).run Try.prog w' = .ok (.string ⟨bs.toArray⟩) w' := fun w' hb => run_string_at (P := Try.prog) (BytesAt.below H.out hb) 25 5 9 Try.underlying25 Try.underlying5 Try.underlying9
        obtain ⟨L, hL⟩ : ∃ L, L = wordB p := ⟨_, rfl⟩
        have hcall : ∀ w1 : World, Calls Try.prog 81 #[.int .u64 p] w1 (Fresh w1 5 1 byteR L) := fun w1 => by rw [hL]; exact r3bytes_any p w1 hpb
        have HL := Lib.hid hL
        have HC := Lib.hid hcall
        clear hp hpb hL hcall
        go_wp2_with fail
        have hs0 := hs w.drew (Bel.drew (Bel.refl _))
        have HS := Lib.hid hs
        clear hs
        go_region_with (first
            | (go_at_call 81; refine (HC.out _).mono ?_; rintro e w1 ⟨v1, rfl, ho, hb1⟩; obtain ⟨a1, c1, rfl, -, -, -⟩ := ho.len; have hs1 := run_string_at (P := Try.prog) (ho.at (F := fun _ => True) (fun _ _ _ _ => trivial) (by decide)) 25 5 9 Try.underlying25 Try.underlying5 Try.underlying9; have hs2 := HS.out w1 (Bel.call (Bel.drew (Bel.refl _)) hb1)))
        all_goals
          have hlen8 : ¬ 8 < bs.length := by have := HN.out; omega
          have HBX := Lib.hid (Bel.call (Bel.drew (Bel.refl w)) hb1)
          have H8 := Lib.hid hlen8
          clear hs0 hs1 hs2 hb1 ho hlen8 hcm hnc hlt hk
          go_wp2
          · have hne : ¬ L = bs := by
              have h : (!L == bs) = true := by assumption
              simpa using h
            have hr : readWord bs = (0, false) := by
              unfold readWord; rw [if_pos]
              rw [HL.out, HP.out, wordB_beNum_iff] at hne
              exact .inr (Classical.not_not.1 hne)
            go_ret2
            exact ⟨by rw [hr]; rfl, HBX.out⟩
          · have hne : L = bs := by
              have h : (!L == bs) = false := by assumption
              simpa using h
            have hr : readWord bs = (p, true) := by
              unfold readWord
              rw [HL.out, HP.out, wordB_beNum_iff] at hne
              rw [if_neg (fun h => h.elim H8.out hne), HP.out]
            go_ret2
            exact ⟨by rw [hr]; rfl, HBX.out⟩
end Go.Proofs.Ytndkkgkcbbmnpaa
namespace Go.Proofs.Ytndkkgkcbbmnpaa
open Go.RowKit Go.Pg

def RotD (w : World) (x : Int) (n : Nat) (e : Ending) (w' : World) : Prop := e = .returned (.int .u64 (rotW x n)) ∧ w = w'
def RotQ (w : World) (x : Int) (n : Nat) (e : Ending) (w' : World) : Prop := e = .returned (.int .u64 (rotW x n)) ∧ ∃ k, w' = w.drewN k
set_option maxRecDepth 100000 in
set_option maxHeartbeats 1000000 in
theorem rotl_32 (x : Int) (w : World) (_h0 : 0 ≤ x) (_h1 : x ≤ 18446744073709551615) : Calls Try.prog 114 #[.int .u64 x, .int .i64 32] w (RotD w x 32) := by
  have hb : bits .and .u64 32 63 = 32 := by rfl
  go_enter Try.func114, Try.ntmps114
  go_wp2
  go_ret
  exact ⟨rfl, rfl⟩
set_option maxRecDepth 100000 in
set_option maxHeartbeats 1000000 in
theorem rrot_32 (x : Int) (w : World) (_h0 : 0 ≤ x) (_h1 : x ≤ 18446744073709551615) : Calls Try.prog 65 #[.int .u64 x, .int .i64 32] w (RotQ w x 32) := by
  go_enter Try.func65, Try.ntmps65
  go_wp2
  go_quiet (fail)
  go_wp2
  go_ret
  exact ⟨rfl, _, rfl⟩
set_option maxRecDepth 100000 in
set_option maxHeartbeats 1000000 in
theorem rotl_24 (x : Int) (w : World) (_h0 : 0 ≤ x) (_h1 : x ≤ 18446744073709551615) : Calls Try.prog 114 #[.int .u64 x, .int .i64 24] w (RotD w x 24) := by
  have hb : bits .and .u64 24 63 = 24 := by rfl
  go_enter Try.func114, Try.ntmps114
  go_wp2
  go_ret
  exact ⟨rfl, rfl⟩
set_option maxRecDepth 100000 in
set_option maxHeartbeats 1000000 in
theorem rrot_24 (x : Int) (w : World) (_h0 : 0 ≤ x) (_h1 : x ≤ 18446744073709551615) : Calls Try.prog 65 #[.int .u64 x, .int .i64 24] w (RotQ w x 24) := by
  go_enter Try.func65, Try.ntmps65
  go_wp2
  go_quiet (fail)
  go_wp2
  go_ret
  exact ⟨rfl, _, rfl⟩
set_option maxRecDepth 100000 in
set_option maxHeartbeats 1000000 in
theorem rotl_16 (x : Int) (w : World) (_h0 : 0 ≤ x) (_h1 : x ≤ 18446744073709551615) : Calls Try.prog 114 #[.int .u64 x, .int .i64 16] w (RotD w x 16) := by
  have hb : bits .and .u64 16 63 = 16 := by rfl
  go_enter Try.func114, Try.ntmps114
  go_wp2
  go_ret
  exact ⟨rfl, rfl⟩
set_option maxRecDepth 100000 in
set_option maxHeartbeats 1000000 in
theorem rrot_16 (x : Int) (w : World) (_h0 : 0 ≤ x) (_h1 : x ≤ 18446744073709551615) : Calls Try.prog 65 #[.int .u64 x, .int .i64 16] w (RotQ w x 16) := by
  go_enter Try.func65, Try.ntmps65
  go_wp2
  go_quiet (fail)
  go_wp2
  go_ret
  exact ⟨rfl, _, rfl⟩
set_option maxRecDepth 100000 in
set_option maxHeartbeats 1000000 in
theorem rotl_63 (x : Int) (w : World) (_h0 : 0 ≤ x) (_h1 : x ≤ 18446744073709551615) : Calls Try.prog 114 #[.int .u64 x, .int .i64 63] w (RotD w x 63) := by
  have hb : bits .and .u64 63 63 = 63 := by rfl
  go_enter Try.func114, Try.ntmps114
  go_wp2
  go_ret
  exact ⟨rfl, rfl⟩
set_option maxRecDepth 100000 in
set_option maxHeartbeats 1000000 in
theorem rrot_63 (x : Int) (w : World) (_h0 : 0 ≤ x) (_h1 : x ≤ 18446744073709551615) : Calls Try.prog 65 #[.int .u64 x, .int .i64 63] w (RotQ w x 63) := by
  go_enter Try.func65, Try.ntmps65
  go_wp2
  go_quiet (fail)
  go_wp2
  go_ret
  exact ⟨rfl, _, rfl⟩

set_option maxRecDepth 100000 in
set_option maxHeartbeats 1000000 in
theorem dword_any (F : Nat → Prop) (w : World) (a : Option Addr) (n c : Nat) (bs : List UInt8) (h : BytesAt F w (.slice a n c) bs) (h8 : 8 ≤ n) :
    Calls Try.prog 113 #[.slice a n c] w fun e w' => e = .returned (.int .u64 (wordAt bs 0)) ∧ w = w' := by
  obtain ⟨hn, hnc, hcm⟩ := BytesAt.n h
  unfold maxLen at hcm
  rcases SliceAt.split h with ⟨rfl, h0⟩ | ⟨b, o, rfl, -, -, -⟩
  · simp at hn; omega
  have HN := Lib.hid hn
  have H := Lib.hid h
  have h8c : 8 ≤ c := by omega
  clear h hn
  go_enter Try.func113, Try.ntmps113
  go_wp2
  go_loop [3, 9] (fun s i => ∃ k : Nat, k ≤ 8 ∧ i = .int .i64 k ∧ s = .int .u64 (beNum (bs.take k))) (fun _ i => 8 - (intOf i).toNat)
  case atStart => exact ⟨0, by omega, rfl, rfl⟩
  case round =>
    obtain ⟨k, hk, rfl, rfl⟩ := hrel
    by_cases hlt : k < 8
    · have hc := BytesAt.cell H.out k (by have := HN.out; omega)
      obtain ⟨p, hp⟩ : ∃ p, p = beNum (bs.take k) := ⟨_, rfl⟩
      obtain ⟨x, hx⟩ : ∃ x, x = bs[k]'(by have := HN.out; omega) := ⟨_, rfl⟩
      rw [← hx] at hc
      rw [← hp]
      have HP := Lib.hid hp
      have HX := Lib.hid hx
      have hk0 : (0 : Int) ≤ (k : Int) := by omega
      have hk1 : (k : Int) < 8 := by omega
      clear hp hx
      go_wp2
      go_round
      case rel => exact ⟨k + 1, by omega, num_eq (by omega), num_eq (by rw [number_snoc bs k (by have := HN.out; omega), ← HP.out, ← HX.out]; exact or_u64 p x (by rw [HP.out]; exact beNum_small bs k (by omega)))⟩
      case measure => simp [intOf]; omega
    · obtain rfl : k = 8 := by omega
      go_wp2
      go_ret
      exact ⟨rfl, rfl⟩

set_option maxRecDepth 100000 in
set_option maxHeartbeats 1000000 in
theorem rword_any (F : Nat → Prop) (w : World) (a : Option Addr) (n c : Nat) (bs : List UInt8) (h : BytesAt F w (.slice a n c) bs) (at_ : Nat) (ai : Int) (hai : ai = at_) (h8 : at_ + 8 ≤ n) :
    Calls Try.prog 64 #[.slice a n c, .int .i64 ai] w fun e w' => e = .returned (.int .u64 (wordAt bs at_)) ∧ w = w' := by
  subst hai
  obtain ⟨hn, hnc, hcm⟩ := BytesAt.n h
  unfold maxLen at hcm
  rcases SliceAt.split h with ⟨rfl, h0⟩ | ⟨b, o, rfl, -, -, -⟩
  · simp at hn; omega
  have HN := Lib.hid hn
  have H := Lib.hid h
  clear h hn
  go_enter Try.func64, Try.ntmps64
  go_wp2
  go_loop [5, 6] (fun s i => ∃ k : Nat, k ≤ 8 ∧ i = .int .i64 k ∧ s = .int .u64 (beNum ((bs.drop at_).take k))) (fun _ i => 8 - (intOf i).toNat)
  case atStart => exact ⟨0, by omega, rfl, rfl⟩
  case round =>
    obtain ⟨k, hk, rfl, rfl⟩ := hrel
    by_cases hlt : k < 8
    · have hc := BytesAt.cell H.out (at_ + k) (by have := HN.out; omega)
      obtain ⟨p, hp⟩ : ∃ p, p = beNum ((bs.drop at_).take k) := ⟨_, rfl⟩
      obtain ⟨x, hx⟩ : ∃ x, x = bs[at_ + k]'(by have := HN.out; omega) := ⟨_, rfl⟩
      rw [← hx] at hc
      rw [← hp]
      have HP := Lib.hid hp
      have HX := Lib.hid hx
      have hk0 : (0 : Int) ≤ (k : Int) := by omega
      have hk1 : (at_ : Int) + (k : Int) < (n : Int) := by omega
      clear hp hx
      go_wp2
      go_round
      case rel => exact ⟨k + 1, by omega, num_eq (by omega), num_eq (by rw [number_snoc (bs.drop at_) k (by rw [List.length_drop]; have := HN.out; omega), ← HP.out, List.getElem_drop, ← HX.out]; exact mul_u64 p x (by rw [HP.out]; exact beNum_small _ k (by omega)))⟩
      case measure => simp [intOf]; omega
    · obtain rfl : k = 8 := by omega
      go_wp2
      go_ret
      exact ⟨rfl, rfl⟩
end Go.Proofs.Ytndkkgkcbbmnpaa
