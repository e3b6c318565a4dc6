/-
  Which items have an encoding; witnesses: reading and writing them are one another's inverse (plain law).
-/
import Derived.Test.YtndkkgkcbbmnpaaPlain
import Derived.Test.YtndkkgkcbbmnpaaWitE
import Derived.Test.YtndkkgkcbbmnpaaWitD
namespace Go.Pg
/-- so many lists in one another -/
def It.shallow : Nat → It → Prop
  | _, .text _ => True
  | 0, .list _ => False
  | f + 1, .list l => ∀ y, y ∈ l → It.shallow f y
theorem whole_le_wholes (l : List It) (y : It) (h : y ∈ l) : y.whole ≤ It.wholes l := by
  induction l with
  | nil => cases h
  | cons x l ih =>
    simp only [It.wholes]
    rcases List.mem_cons.1 h with rfl | h
    · omega
    · have := ih h; omega
theorem fits_of_shallow : ∀ (f : Nat) (x : It), It.shallow f x → x.body ≤ 16777215 → It.fits f x
  | f, .text b, _, hb => by unfold It.fits; simpa [It.body] using hb
  | 0, .list l, h, _ => by unfold It.shallow at h; exact h.elim
  | f + 1, .list l, h, hb => by
    unfold It.shallow at h
    unfold It.fits
    simp only [It.body] at hb
    refine ⟨hb, fun y hy => fits_of_shallow f y (h y hy) ?_⟩
    have h1 := It.body_le_whole y
    have h2 := whole_le_wholes l y hy
    omega
theorem looks_all (deep : Nat) : ∀ (l : List It) (wt : Nat), (It.looks l deep wt).2 = 0 → ∀ y, y ∈ l → ∃ wt', (y.look deep wt').2 = 0
  | [], _, _, y, hy => by cases hy
  | x :: l, wt, h, y, hy => by
    simp only [It.looks] at h
    by_cases h0 : (x.look deep wt).2 = 0
    · rw [if_pos h0] at h
      rcases List.mem_cons.1 hy with rfl | hy
      · exact ⟨wt, h0⟩
      · exact looks_all deep l _ h y hy
    · rw [if_neg h0] at h; exact absurd h h0
theorem shallow_of_look : ∀ (f : Nat) (x : It) (deep wt : Nat), deep + f = 8 → (x.look deep wt).2 = 0 → It.shallow f x
  | f, .text b, _, _, _, _ => by unfold It.shallow; trivial
  | 0, .list l, deep, wt, hd, h => by
    obtain rfl : deep = 8 := by omega
    simp [It.look] at h
  | f + 1, .list l, deep, wt, hd, h => by
    unfold It.shallow
    have hlooks : ∃ wt', (It.looks l (deep + 1) wt').2 = 0 := by
      rw [look_list_eq] at h
      unfold lookOn at h
      by_cases h0 : (lookHead deep wt).2 = 0
      · rw [if_pos h0] at h; exact ⟨_, h⟩
      · rw [if_neg h0] at h; exact absurd h h0
    obtain ⟨wt', hl⟩ := hlooks
    intro y hy
    obtain ⟨wt2, h2⟩ := looks_all (deep + 1) l wt' hl y hy
    exact shallow_of_look f y (deep + 1) wt2 (by omega) h2
theorem looks_ok (deep : Nat) : ∀ (l : List It) (wt : Nat), (∀ y, y ∈ l → ∀ wt, wt + y.whole ≤ 16777215 → (y.look deep wt).2 = 0) → wt + It.wholes l ≤ 16777215 → (It.looks l deep wt).2 = 0
  | [], wt, _, _ => by simp [It.looks]
  | x :: l, wt, hall, h => by
    simp only [It.wholes] at h
    simp only [It.looks]
    have hx := hall x (List.mem_cons_self ..) wt (by omega)
    rw [if_pos hx]
    have hle := It.look_le x deep wt
    exact looks_ok deep l _ (fun y hy => hall y (List.mem_cons_of_mem _ hy)) (by omega)
theorem look_ok : ∀ (f : Nat) (x : It) (deep wt : Nat), deep + f = 8 → 1 ≤ deep → It.fits f x → wt + x.whole ≤ 16777215 → (x.look deep wt).2 = 0
  | f, .text b, deep, wt, _, _, _, h => by
    have h1 := It.body_le_whole (.text b)
    have h2 := It.whole_pos (.text b)
    simp only [It.body] at h1
    simp only [It.look]; rw [if_neg (by omega)]
  | 0, .list l, deep, wt, _, _, hf, h => by unfold It.fits at hf; exact hf.elim
  | f + 1, .list l, deep, wt, hd, h1, hf, h => by
    unfold It.fits at hf
    have h3 : It.wholes l + 1 ≤ (It.list l).whole := by
      simp only [It.whole]; exact sz_ge _
    simp only [It.look]
    rw [if_neg (by omega), if_neg (by omega), if_neg (by omega)]
    exact looks_ok (deep + 1) l (wt + 1) (fun y hy wt' h' => look_ok f y (deep + 1) wt' (by omega) (by omega) (hf.2 y hy) h') (by omega)
theorem encode_ok (x : It) (h : It.fits 8 x) : x.encode = (x.enc, 0) := by
  have hb : x.body ≤ 16777215 := by
    cases x with
    | text b => unfold It.fits at h; simpa [It.body] using h
    | list l => unfold It.fits at h; simpa [It.body] using h.1
  have hl : (x.look 0 0).2 = 0 := by
    cases x with
    | text b =>
      simp only [It.body] at hb
      simp only [It.look]; rw [if_neg (by omega)]
    | list l =>
      unfold It.fits at h
      simp only [It.body] at hb
      simp only [It.look]
      rw [if_neg (by omega), if_pos trivial, if_neg (by omega)]
      exact looks_ok 1 l 0 (fun y hy wt' h' => look_ok 7 y 1 wt' (by omega) (by omega) (h.2 y hy) h') (by omega)
  unfold It.encode
  rw [if_neg (by simp [hl]), if_neg (by omega)]
theorem encode_fits (x : It) (h : x.encode.2 = 0) : It.fits 8 x := by
  unfold It.encode at h
  by_cases h1 : (x.look 0 0).2 ≠ 0
  · rw [if_pos h1] at h; exact absurd h h1
  · rw [if_neg h1] at h
    by_cases h2 : 16777215 < x.body
    · rw [if_pos h2] at h; cases h
    · exact fits_of_shallow 8 x (shallow_of_look 8 x 0 0 rfl (by omega)) (by omega)

/-- the two lists of a witness' item -/
def part (x : It) (i : Nat) : List (List UInt8) := (x.items.getD i (.text [])).items.map It.bytes
/-- reading a witness -/
def witDecode (bs : List UInt8) : List (List UInt8) × List (List UInt8) × Nat :=
  if (rdWhole bs).1 = 0 ∧ (rdWhole bs).2.isList = true ∧ (rdWhole bs).2.items.length = 2 ∧ readOk ((rdWhole bs).2.items.getD 0 (.text [])) = true ∧ readOk ((rdWhole bs).2.items.getD 1 (.text [])) = true then
    (part (rdWhole bs).2 0, part (rdWhole bs).2 1, 0) else ([], [], 210)
theorem texts_of_flat (l : List It) (h : flat l = true) : (l.map It.bytes).map It.text = l := by
  unfold flat at h
  rw [List.all_eq_true] at h
  rw [List.map_map]
  conv => rhs; rw [← List.map_id l]
  refine List.map_congr_left fun y hy => ?_
  have := h y hy
  cases y with
  | text b => rfl
  | list l => simp [It.isList] at this
theorem item_of_readOk (x : It) (h : readOk x = true) : x = textsI (x.items.map It.bytes) ∧ rising (x.items.map It.bytes) = true := by
  unfold readOk at h
  simp only [Bool.and_eq_true] at h
  obtain ⟨h1, h2, h3⟩ := h
  refine ⟨?_, h3⟩
  cases x with
  | text b => simp [It.isList] at h2
  | list l => unfold textsI; simp only [It.items] at h1 ⊢; rw [texts_of_flat l h1]
theorem bytes_texts (N : List (List UInt8)) : (textsI N).items.map It.bytes = N := by
  unfold textsI
  simp only [It.items, List.map_map]
  conv => rhs; rw [← List.map_id N]
  rfl
theorem readOk_texts (N : List (List UInt8)) (h : rising N = true) : readOk (textsI N) = true := by
  unfold readOk
  rw [bytes_texts, h]
  simp [textsI, It.items, It.isList, flat]
theorem witDecode_sound (bs : List UInt8) (N C : List (List UInt8)) (h : witDecode bs = (N, C, 0)) : witEncode N C = (bs, 0) ∧ rdWhole bs = (0, witI N C) ∧ It.fits 8 (witI N C) := by
  unfold witDecode at h
  split at h
  · rename_i hc
    obtain ⟨h1, h2, h3, h4, h5⟩ := hc
    obtain ⟨e, x, hx⟩ : ∃ e x, rdWhole bs = (e, x) := ⟨_, _, rfl⟩
    rw [hx] at h h1 h2 h3 h4 h5
    simp only at h h1 h2 h3 h4 h5
    subst h1
    simp only [Prod.mk.injEq, and_true] at h
    obtain ⟨hN, hC⟩ := h
    obtain ⟨hb, hf⟩ := rdWhole_sound bs x hx
    cases x with
    | text b => simp [It.isList] at h2
    | list l =>
      simp only [It.items] at h3 h4 h5
      match l, h3 with
      | [i0, i1], _ =>
        simp only [List.getD_cons_zero, List.getD_cons_succ] at h4 h5
        obtain ⟨e0, r0⟩ := item_of_readOk i0 h4
        obtain ⟨e1, r1⟩ := item_of_readOk i1 h5
        have hN' : i0.items.map It.bytes = N := hN
        have hC' : i1.items.map It.bytes = C := hC
        rw [hN'] at e0 r0
        rw [hC'] at e1 r1
        subst e0 e1
        have hw : witI N C = .list [textsI N, textsI C] := rfl
        refine ⟨?_, by rw [hw]; exact hx, by rw [hw]; exact hf⟩
        unfold witEncode
        rw [r0, r1, hw, encode_ok _ hf, hb]
        rfl
  · simp at h
theorem witDecode_back (bs : List UInt8) (N C : List (List UInt8)) (h : witEncode N C = (bs, 0)) : witDecode bs = (N, C, 0) := by
  unfold witEncode at h
  by_cases hr : (rising N && rising C) = true
  · rw [if_pos hr] at h
    by_cases he : (witI N C).encode.2 = 0
    · rw [if_pos he] at h
      have hf := encode_fits _ he
      have hen := encode_ok _ hf
      rw [hen] at h
      simp only [Prod.mk.injEq, and_true] at h
      subst h
      have hrd := rdWhole_back _ hf
      simp only [Bool.and_eq_true] at hr
      unfold witDecode
      rw [hrd]
      have h0 : (witI N C).items = [textsI N, textsI C] := rfl
      rw [if_pos]
      · unfold part
        rw [h0]
        simp only [List.getD_cons_zero, List.getD_cons_succ, bytes_texts]
      · rw [h0]
        exact ⟨rfl, rfl, rfl, readOk_texts N hr.1, readOk_texts C hr.2⟩
    · rw [if_neg he] at h; simp at h
  · rw [if_neg hr] at h; simp at h
theorem witDecode_cases (bs : List UInt8) : (∃ N C, witDecode bs = (N, C, 0)) ∨ witDecode bs = ([], [], 210) := by
  unfold witDecode
  split
  · exact .inl ⟨_, _, rfl⟩
  · exact .inr rfl
/-- the document's: what bytes may say, if these are its encoding -/
def refDecode (bs : List UInt8) : List (List UInt8) × List (List UInt8) × Nat :=
  if (rdWhole bs).1 = 0 ∧ (rdWhole bs).2.items.length = 2 then
    (if witEncode (part (rdWhole bs).2 0) (part (rdWhole bs).2 1) = (bs, 0) then (part (rdWhole bs).2 0, part (rdWhole bs).2 1, 0) else ([], [], 210)) else ([], [], 210)
theorem refDecode_eq (bs : List UInt8) : refDecode bs = witDecode bs := by
  rcases witDecode_cases bs with ⟨N, C, h⟩ | h
  · rw [h]
    obtain ⟨h1, h2, h3⟩ := witDecode_sound bs N C h
    have hp0 : part (witI N C) 0 = N := by unfold part; exact bytes_texts N
    have hp1 : part (witI N C) 1 = C := by unfold part; exact bytes_texts C
    unfold refDecode
    rw [h2, if_pos ⟨rfl, rfl⟩]
    simp only [hp0, hp1]
    rw [if_pos h1]
  · rw [h]
    unfold refDecode
    split
    · split
      · rename_i h1 h2
        have := witDecode_back _ _ _ h2
        rw [h] at this
        simp at this
      · rfl
    · rfl
end Go.Pg
