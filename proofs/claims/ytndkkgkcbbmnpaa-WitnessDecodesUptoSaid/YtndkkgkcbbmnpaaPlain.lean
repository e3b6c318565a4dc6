/-
  Reading items out of bytes and writing them are one another's inverse (plain law).
-/
import Derived.Test.YtndkkgkcbbmnpaaDec
namespace Go.Pg
theorem triple {A B C : Type} (p : A × B × C) : ∃ a b c, p = (a, b, c) := ⟨p.1, p.2.1, p.2.2, rfl⟩
theorem beBytes_beNum_snoc (l : List UInt8) (c : UInt8) (h : beBytes l.length (beNum l) = l) : beBytes (l ++ [c]).length (beNum (l ++ [c])) = l ++ [c] := by
  have hc := c.toNat_lt
  rw [beNum_snoc, List.length_append, List.length_singleton]
  simp only [beBytes]
  rw [show (beNum l * 256 + c.toNat) / 256 = beNum l by omega, show (beNum l * 256 + c.toNat) % 256 = c.toNat by omega, h]
  simp
theorem beBytes_beNum (l : List UInt8) : beBytes l.length (beNum l) = l := by
  have : ∀ r : List UInt8, beBytes r.reverse.length (beNum r.reverse) = r.reverse := by
    intro r
    induction r with
    | nil => rfl
    | cons c r ih => rw [List.reverse_cons]; exact beBytes_beNum_snoc _ _ ih
  have h := this l.reverse
  rwa [List.reverse_reverse] at h
theorem beNum_beBytes (k : Nat) : ∀ n, n < 256 ^ k → beNum (beBytes k n) = n := by
  induction k with
  | zero => intro n h; have : n = 0 := by simpa using h
            subst this; rfl
  | succ k ih =>
    intro n h
    simp only [beBytes]
    rw [beNum_snoc, ih (n / 256) (by rw [Nat.pow_succ] at h; omega), UInt8.toNat_ofNat', Nat.mod_eq_of_lt (a := n % 256) (by omega)]
    omega
theorem foldl_ge (l : List UInt8) : ∀ a : Nat, a * 256 ^ l.length ≤ l.foldl (fun n c => n * 256 + c.toNat) a := by
  induction l with
  | nil => intro a; simp
  | cons c l ih =>
    intro a
    have h1 := ih (a * 256 + c.toNat)
    simp only [List.foldl_cons, List.length_cons, Nat.pow_succ]
    have h3 : (a * 256) * 256 ^ l.length ≤ (a * 256 + c.toNat) * 256 ^ l.length := Nat.mul_le_mul_right _ (by omega)
    have h4 : a * (256 ^ l.length * 256) = (a * 256) * 256 ^ l.length := by rw [Nat.mul_comm (256 ^ l.length), Nat.mul_assoc]
    omega
theorem beNum_ge (c : UInt8) (l : List UInt8) (h : c ≠ 0) : 256 ^ l.length ≤ beNum (c :: l) := by
  have h1 := foldl_ge l (0 * 256 + c.toNat)
  have h2 : 1 ≤ c.toNat := by
    have : c.toNat ≠ 0 := fun e => h (UInt8.toNat_inj.1 (by simpa using e))
    omega
  have h3 : 1 * 256 ^ l.length ≤ (0 * 256 + c.toNat) * 256 ^ l.length := Nat.mul_le_mul_right _ (by omega)
  show _ ≤ List.foldl _ 0 (c :: l)
  simp only [List.foldl_cons]; omega
theorem number_ge (k : Nat) : ∀ n, 256 ^ k ≤ n → k + 1 ≤ number n := by
  induction k with
  | zero => intro n h; rw [number_pos (by simp at h; omega)]; omega
  | succ k ih =>
    intro n h
    have h0 : 0 < 256 ^ (k + 1) := Nat.pow_pos (by omega)
    rw [number_pos (by omega)]
    have := ih (n / 256) (by rw [Nat.pow_succ] at h; omega)
    omega
theorem number_eq (k n : Nat) (h1 : 256 ^ k ≤ n) (h2 : n < 256 ^ (k + 1)) : number n = k + 1 := by
  have := number_ge k n h1
  have := number_le (k + 1) n h2
  omega

/-- a size that was read is the one that is written -/
theorem readSize_sound (base m n : Nat) (t t' : List UInt8) (h : readSize m t = (0, n, t')) : UInt8.ofNat (base + m) :: t = headB base n ++ t' ∧ n ≤ 16777215 := by
  unfold readSize at h
  by_cases h55 : m ≤ 55
  · rw [if_pos h55] at h
    simp only [Prod.mk.injEq, true_and] at h
    obtain ⟨rfl, rfl⟩ := h
    unfold headB; rw [if_pos h55]; exact ⟨rfl, by omega⟩
  · rw [if_neg h55] at h
    by_cases h58 : 58 < m
    · rw [if_pos h58] at h; simp at h
    · rw [if_neg h58] at h
      by_cases hl : t.length < m - 55
      · rw [if_pos hl] at h; simp at h
      · rw [if_neg hl] at h
        obtain ⟨k, rfl⟩ : ∃ k, m = k + 56 := ⟨m - 56, by omega⟩
        rw [show k + 56 - 55 = k + 1 by omega] at h hl
        split at h
        · simp at h
        · rename_i hc
          simp only [Prod.mk.injEq, true_and] at h
          obtain ⟨rfl, rfl⟩ := h
          have hlen : (t.take (k + 1)).length = k + 1 := by rw [List.length_take]; omega
          cases t with
          | nil => simp at hl
          | cons c s =>
            have hc0 : c ≠ 0 := fun e => hc (.inl (by simpa using e))
            have hn55 : ¬ beNum ((c :: s).take (k + 1)) ≤ 55 := fun e => hc (.inr e)
            have hlo : 256 ^ k ≤ beNum ((c :: s).take (k + 1)) := by
              have := beNum_ge c (s.take k) hc0
              rw [List.length_take] at this
              simp only [List.length_cons] at hl
              rwa [Nat.min_eq_left (by omega)] at this
            have hhi := beNum_lt ((c :: s).take (k + 1))
            rw [hlen] at hhi
            have hnum := number_eq k _ hlo hhi
            have hb := beBytes_beNum ((c :: s).take (k + 1))
            rw [hlen] at hb
            refine ⟨?_, ?_⟩
            · unfold headB
              rw [if_neg hn55, hnum, hb, show base + (k + 56) = base + 55 + (k + 1) by omega, List.cons_append, List.take_append_drop]
            · have : 256 ^ (k + 1) ≤ 256 ^ 3 := Nat.pow_le_pow_right (by omega) (by omega)
              omega
/-- what is written of a size is read -/
theorem readSize_head (base n : Nat) (t : List UInt8) (h : n ≤ 16777215) : ∃ m s, m ≤ 58 ∧ headB base n ++ t = UInt8.ofNat (base + m) :: s ∧ readSize m s = (0, n, t) := by
  by_cases h55 : n ≤ 55
  · refine ⟨n, t, by omega, by unfold headB; rw [if_pos h55]; rfl, by unfold readSize; rw [if_pos h55]⟩
  · have hn3 : number n ≤ 3 := number_le 3 n (by omega)
    have hk : ∃ k, number n = k + 1 := ⟨number n - 1, by rw [number_pos (by omega)]; omega⟩
    obtain ⟨k, hk⟩ := hk
    have hlt : n < 256 ^ (k + 1) := by
      by_cases h : n < 256 ^ (k + 1)
      · exact h
      · have := number_ge (k + 1) n (by omega); omega
    have hge : 256 ^ k ≤ n := by
      by_cases h : 256 ^ k ≤ n
      · exact h
      · have := number_le k n (by omega); omega
    have hbl := beBytes_length (k + 1) n
    refine ⟨55 + (k + 1), beBytes (k + 1) n ++ t, by omega, by unfold headB; rw [if_neg h55, hk, show base + 55 + (k + 1) = base + (55 + (k + 1)) by omega]; rfl, ?_⟩
    unfold readSize
    rw [if_neg (by omega), if_neg (by omega), show 55 + (k + 1) - 55 = k + 1 by omega, if_neg (by rw [List.length_append]; omega), List.take_append_of_le_length (by omega), List.drop_append_of_le_length (by omega),
      List.take_of_length_le (by omega), List.drop_of_length_le (by omega), beNum_beBytes _ _ hlt, if_neg]
    · rfl
    · rintro (h0 | h0)
      · have hh : beBytes (k + 1) n = [] ∨ ∃ c s, beBytes (k + 1) n = c :: s := by
          cases beBytes (k + 1) n with
          | nil => exact .inl rfl
          | cons c s => exact .inr ⟨c, s, rfl⟩
        rcases hh with e | ⟨c, s, e⟩
        · rw [e] at hbl; simp at hbl
        · rw [e] at h0
          simp at h0
          subst h0
          have e2 := beNum_beBytes (k + 1) n hlt
          rw [e] at e2
          have e3 : beNum ((0 : UInt8) :: s) = beNum s := by simp [beNum]
          have e4 := beNum_lt s
          have e5 : s.length = k := by rw [e] at hbl; simpa using hbl
          rw [e5] at e4
          omega
      · omega

/-- items that have an encoding: so many lists in one another, bodies not too long -/
def It.fits : Nat → It → Prop
  | _, .text b => b.length ≤ 16777215
  | 0, .list _ => False
  | f + 1, .list l => It.wholes l ≤ 16777215 ∧ ∀ y, y ∈ l → It.fits f y

theorem rdAll_sound (rd : List UInt8 → Nat × It × List UInt8) (P : It → Prop) (hs : ∀ bs x r, rd bs = (0, x, r) → bs = x.enc ++ r ∧ P x) :
    ∀ (k : Nat) (L : List UInt8) (l : List It), rdAll rd k L = (0, l) → L.length ≤ k → L = It.encs l ∧ ∀ y, y ∈ l → P y := by
  intro k
  induction k with
  | zero =>
    intro L l h hl
    have : L = [] := List.eq_nil_of_length_eq_zero (by omega)
    subst this
    simp only [rdAll, Prod.mk.injEq, true_and] at h
    subst h
    exact ⟨rfl, fun y hy => by cases hy⟩
  | succ k ih =>
    intro L l h hl
    simp only [rdAll] at h
    by_cases h0 : L = []
    · rw [if_pos h0] at h
      simp only [Prod.mk.injEq, true_and] at h
      subst h h0
      exact ⟨rfl, fun y hy => by cases hy⟩
    · rw [if_neg h0] at h
      by_cases he : (rd L).1 = 0
      · rw [if_neg (by simpa using he)] at h
        simp only [Prod.mk.injEq] at h
        obtain ⟨h1, rfl⟩ := h
        obtain ⟨e1, e2⟩ := hs L (rd L).2.1 (rd L).2.2 (by rw [← he])
        have hpos := It.whole_pos (rd L).2.1
        have hlen : L.length = ((rd L).2.1.enc ++ (rd L).2.2).length := by rw [← e1]
        rw [List.length_append, It.enc_length] at hlen
        obtain ⟨e3, e4⟩ := ih (rd L).2.2 _ (by rw [← h1]) (by omega)
        refine ⟨by rw [It.encs, ← e3]; exact e1, fun y hy => ?_⟩
        rcases List.mem_cons.1 hy with rfl | hy
        · exact e2
        · exact e4 y hy
      · rw [if_pos he] at h
        simp only [Prod.mk.injEq] at h
        exact absurd h.1 he
theorem rdAll_back (rd : List UInt8 → Nat × It × List UInt8) (l : List It) (hs : ∀ x, x ∈ l → ∀ r, rd (x.enc ++ r) = (0, x, r)) :
    ∀ (k : Nat), (It.encs l).length ≤ k → rdAll rd k (It.encs l) = (0, l) := by
  induction l with
  | nil => intro k _; cases k <;> simp [rdAll, It.encs]
  | cons x l ih =>
    intro k hk
    have hpos := It.whole_pos x
    have hne : It.encs (x :: l) ≠ [] := by
      intro e
      have := congrArg List.length e
      rw [It.encs_length, It.wholes] at this
      simp at this; omega
    have hle : (It.encs (x :: l)).length = x.whole + (It.encs l).length := by rw [It.encs_length, It.wholes, It.encs_length]
    cases k with
    | zero => omega
    | succ k =>
      simp only [rdAll]
      rw [if_neg hne]
      have h1 := hs x (List.mem_cons_self ..) (It.encs l)
      have h2 := ih (fun y hy => hs y (List.mem_cons_of_mem _ hy)) k (by omega)
      simp only [It.encs, h1, h2]
      rfl

theorem rdItem_sound (f : Nat) : ∀ (bs : List UInt8) (x : It) (r : List UInt8), rdItem f bs = (0, x, r) → bs = x.enc ++ r ∧ It.fits f x := by
  induction f with
  | zero =>
    intro bs x r h
    cases bs with
    | nil => simp [rdItem] at h
    | cons c t => exact rdItem_sound_text 0 c t x r h (fun h1 h2 => by
        have : rdItem 0 (c :: t) = (21, .text [], []) := by unfold rdItem; rw [if_neg h1, if_neg h2]
        rw [this] at h; simp at h)
  | succ f ih =>
    intro bs x r h
    cases bs with
    | nil => simp [rdItem] at h
    | cons c t => exact rdItem_sound_text (f + 1) c t x r h (fun h1 h2 => by
        have hr : rdItem (f + 1) (c :: t) = rdList (rdItem f) (readSize (c.toNat - 192) t) := by rw [rdItem, if_neg h1, if_neg h2]
        rw [hr] at h
        obtain ⟨e1, n, t', hs⟩ := triple (readSize (c.toNat - 192) t)
        rw [hs] at h
        unfold rdList at h
        by_cases he : e1 = 0
        · subst he
          rw [if_neg (by simp)] at h
          by_cases hn : t'.length < n
          · rw [if_pos hn] at h; simp at h
          · rw [if_neg hn] at h
            simp only at h hn
            obtain ⟨l, e2, hl⟩ : ∃ l e2, rdAll (rdItem f) n (t'.take n) = (e2, l) := ⟨_, _, rfl⟩
            rw [hl] at h
            by_cases h2 : e2 = 0
            · subst h2
              rw [if_neg (by simp)] at h
              simp only [Prod.mk.injEq, true_and] at h
              obtain ⟨rfl, rfl⟩ := h
              have htl : (t'.take n).length = n := by rw [List.length_take]; omega
              obtain ⟨g1, g2⟩ := rdAll_sound (rdItem f) (It.fits f) ih n _ l hl (by omega)
              obtain ⟨g3, g4⟩ := readSize_sound 192 _ _ _ _ hs
              have hw : It.wholes l = n := by rw [← It.encs_length, ← g1, htl]
              refine ⟨?_, by rw [hw]; exact g4, g2⟩
              rw [It.enc, ← g1, htl, List.append_assoc, List.take_append_drop, ← g3, show 192 + (c.toNat - 192) = c.toNat by omega, UInt8.ofNat_toNat]
            · rw [if_pos (by simpa using h2)] at h
              simp only [Prod.mk.injEq] at h
              exact absurd h.1 h2
        · rw [if_pos (by simpa using he)] at h
          simp only [Prod.mk.injEq] at h
          exact absurd h.1 he)
where
  rdItem_sound_text (f : Nat) (c : UInt8) (t : List UInt8) (x : It) (r : List UInt8) (h : rdItem f (c :: t) = (0, x, r)) (hl : ¬ c.toNat < 128 → ¬ c.toNat < 192 → c :: t = x.enc ++ r ∧ It.fits f x) : c :: t = x.enc ++ r ∧ It.fits f x := by
    by_cases h1 : c.toNat < 128
    · have hr : rdItem f (c :: t) = (0, .text [c], t) := by unfold rdItem; rw [if_pos h1]
      rw [hr] at h
      simp only [Prod.mk.injEq, true_and] at h
      obtain ⟨rfl, rfl⟩ := h
      have hp : plainB [c] = true := by unfold plainB; simp; exact h1
      refine ⟨by rw [It.enc, if_pos hp]; rfl, ?_⟩
      unfold It.fits; simp
    · by_cases h2 : c.toNat < 192
      · have hr : rdItem f (c :: t) = rdText (readSize (c.toNat - 128) t) := by unfold rdItem; rw [if_neg h1, if_pos h2]
        rw [hr] at h
        obtain ⟨e1, n, t', hs⟩ := triple (readSize (c.toNat - 128) t)
        rw [hs] at h
        unfold rdText at h
        by_cases he : e1 = 0
        · subst he
          rw [if_neg (by simp)] at h
          by_cases hn : t'.length < n
          · rw [if_pos hn] at h; simp at h
          · rw [if_neg hn] at h
            by_cases hb : n = 1 ∧ (t'.headD 0).toNat < 128
            · rw [if_pos hb] at h; simp at h
            · rw [if_neg hb] at h
              simp only [Prod.mk.injEq, true_and] at h hn
              obtain ⟨rfl, rfl⟩ := h
              have htl : (t'.take n).length = n := by rw [List.length_take]; omega
              obtain ⟨g3, g4⟩ := readSize_sound 128 _ _ _ _ hs
              have hp : plainB (t'.take n) = false := by
                cases hpp : plainB (t'.take n) with
                | false => rfl
                | true =>
                  unfold plainB at hpp
                  rw [htl] at hpp
                  simp only [Bool.and_eq_true, beq_iff_eq, decide_eq_true_eq] at hpp
                  obtain ⟨rfl, h3⟩ := hpp
                  refine absurd ⟨rfl, ?_⟩ hb
                  cases t' with
                  | nil => simp at hn
                  | cons y s => simpa using h3
              refine ⟨?_, ?_⟩
              · rw [It.enc, if_neg (by simp [hp]), htl, List.append_assoc, List.take_append_drop, ← g3, show 128 + (c.toNat - 128) = c.toNat by omega, UInt8.ofNat_toNat]
              · unfold It.fits; rw [htl]; exact g4
        · rw [if_pos (by simpa using he)] at h
          simp only [Prod.mk.injEq] at h
          exact absurd h.1 he
      · exact hl h1 h2
theorem rdItem_back : ∀ (f : Nat) (x : It) (r : List UInt8), It.fits f x → rdItem f (x.enc ++ r) = (0, x, r)
  | f, .text b, r, h => by
    have hb : b.length ≤ 16777215 := by unfold It.fits at h; exact h
    rw [It.enc]
    by_cases hp : plainB b = true
    · rw [if_pos hp]
      unfold plainB at hp
      simp only [Bool.and_eq_true, beq_iff_eq, decide_eq_true_eq] at hp
      match b, hp with
      | [c], hp => 
        have h1 : c.toNat < 128 := by simpa using hp.2
        show rdItem f (c :: r) = _
        unfold rdItem; rw [if_pos h1]
    · rw [if_neg hp, List.append_assoc]
      obtain ⟨m, s, hm, e1, e2⟩ := readSize_head 128 b.length (b ++ r) hb
      rw [e1]
      have hc : (UInt8.ofNat (128 + m)).toNat = 128 + m := by rw [UInt8.toNat_ofNat', Nat.mod_eq_of_lt (by omega)]
      have : rdItem f (UInt8.ofNat (128 + m) :: s) = rdText (readSize ((UInt8.ofNat (128 + m)).toNat - 128) s) := by unfold rdItem; rw [if_neg (by omega), if_pos (by omega)]
      rw [this, hc, Nat.add_sub_cancel_left, e2]
      unfold rdText
      rw [if_neg (by simp), if_neg (by simp), if_neg]
      · simp
      · rintro ⟨h1, h2⟩
        simp only at h1 h2
        refine hp ?_
        unfold plainB
        match b, h1 with
        | [c], _ => simpa using h2
  | 0, .list l, r, h => by unfold It.fits at h; exact h.elim
  | f + 1, .list l, r, h => by
    unfold It.fits at h
    obtain ⟨hw, hall⟩ := h
    rw [It.enc, List.append_assoc]
    have hel := It.encs_length l
    obtain ⟨m, s, hm, e1, e2⟩ := readSize_head 192 (It.encs l).length (It.encs l ++ r) (by omega)
    rw [e1]
    have hc : (UInt8.ofNat (192 + m)).toNat = 192 + m := by rw [UInt8.toNat_ofNat', Nat.mod_eq_of_lt (by omega)]
    have : rdItem (f + 1) (UInt8.ofNat (192 + m) :: s) = rdList (rdItem f) (readSize ((UInt8.ofNat (192 + m)).toNat - 192) s) := by rw [rdItem, if_neg (by omega), if_neg (by omega)]
    rw [this, hc, Nat.add_sub_cancel_left, e2]
    have hr := rdAll_back (rdItem f) l (fun x hx r' => rdItem_back f x r' (hall x hx)) (It.encs l).length (Nat.le_refl _)
    unfold rdList
    simp only [List.take_left', List.drop_left']
    rw [if_neg (by simp), if_neg (by simp), hr]
    simp
/-- bytes that are read whole are the item's encoding -/
theorem rdWhole_sound (bs : List UInt8) (x : It) (h : rdWhole bs = (0, x)) : bs = x.enc ∧ It.fits 8 x := by
  unfold rdWhole at h
  obtain ⟨e, y, r, hr⟩ := triple (rdItem 8 bs)
  rw [hr] at h
  by_cases he : e = 0
  · subst he
    rw [if_neg (by simp)] at h
    by_cases hr0 : r = []
    · subst hr0
      rw [if_neg (by simp)] at h
      simp only [Prod.mk.injEq, true_and] at h
      subst h
      have := rdItem_sound 8 bs y [] hr
      rwa [List.append_nil] at this
    · rw [if_pos hr0] at h; simp at h
  · rw [if_pos he] at h
    simp only [Prod.mk.injEq] at h
    exact absurd h.1 he
theorem rdWhole_back (x : It) (h : It.fits 8 x) : rdWhole x.enc = (0, x) := by
  have := rdItem_back 8 x [] h
  rw [List.append_nil] at this
  unfold rdWhole
  rw [this]; simp
theorem enc_inj (x y : It) (hx : It.fits 8 x) (hy : It.fits 8 y) (h : x.enc = y.enc) : x = y := by
  have h1 := rdWhole_back x hx
  rw [h, rdWhole_back y hy] at h1
  simpa using h1.symm
end Go.Pg
