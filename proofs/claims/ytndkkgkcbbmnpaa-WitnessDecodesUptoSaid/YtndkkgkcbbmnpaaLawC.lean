/-
  What is written of a witness is read as it was, and what is read is written as it was (the statement WitnessBack, where what is read is of bulk at most 1048576).
-/
import Derived.Test.YtndkkgkcbbmnpaaLawA
import Derived.Test.YtndkkgkcbbmnpaaDecI
namespace Go.Pg
theorem whole_mem (l : List (List UInt8)) (x : List UInt8) (h : x ∈ l) : x.length ≤ It.wholes (l.map .text) := by
  induction l with
  | nil => cases h
  | cons y r ih =>
    simp only [List.map_cons, It.wholes]
    rcases List.mem_cons.1 h with rfl | h
    · have := It.body_le_whole (.text x); simp only [It.body] at this; omega
    · have := ih h; omega
theorem textsI_le (l : List (List UInt8)) : It.wholes (l.map .text) ≤ (textsI l).whole := by
  have := sz_ge (It.wholes (l.map .text))
  unfold textsI; simp only [It.whole]; omega
theorem witI_le (N C : List (List UInt8)) : (textsI N).whole + (textsI C).whole ≤ (witI N C).whole := by
  have := sz_ge (It.wholes [textsI N, textsI C])
  unfold witI; simp only [It.whole]
  have : It.wholes [textsI N, textsI C] = (textsI N).whole + (textsI C).whole := by simp [It.wholes]
  omega
/-- what was read is no more than its bytes -/
theorem witDecode_small (B : List UInt8) (N C : List (List UInt8)) (h : witDecode B = (N, C, 0)) : (witI N C).whole = B.length ∧ N.length ≤ B.length ∧ C.length ≤ B.length ∧ (∀ x ∈ N, x.length ≤ B.length) ∧ (∀ x ∈ C, x.length ≤ B.length) := by
  obtain ⟨-, h2, -⟩ := witDecode_sound B N C h
  obtain ⟨h3, -⟩ := rdWhole_sound B _ h2
  have hw : (witI N C).whole = B.length := by rw [← It.enc_length, ← h3]
  have h4 := witI_le N C
  have h5 := textsI_le N
  have h6 := textsI_le C
  have h7 := It.length_le_wholes (N.map .text)
  have h8 := It.length_le_wholes (C.map .text)
  rw [List.length_map] at h7 h8
  exact ⟨hw, by omega, by omega, fun x hx => by have := whole_mem N x hx; omega, fun x hx => by have := whole_mem C x hx; omega⟩
end Go.Pg
namespace Go.Proofs.Ytndkkgkcbbmnpaa
open Go.ChangeShapes Go.WideShapes Go.ChangeAt Go.RowKit Go.Pg

set_option maxRecDepth 100000 in
set_option maxHeartbeats 2000000 in
theorem back_walk (F G : Nat → Prop) (w : World) (a1 a2 : Option Addr) (n1 c1 n2 c2 : Nat) (N C : List (List UInt8)) (hN : RowsAt F w (.slice a1 n1 c1) N) (hC : RowsAt F w (.slice a2 n2 c2) C) (hs : rowsSum N + rowsSum C ≤ 1048576)
    (ab : Option Addr) (nb cb : Nat) (B : List UInt8) (hB : BytesAt G w (.slice ab nb cb) B) (hBl : B.length ≤ 1048576) :
    Calls Try.prog 5 #[.agg #[.slice a1 n1 c1, .slice a2 n2 c2], .slice ab nb cb] w fun e w' => e = .returned (.bool true) ∧ Below w.heap.size w w' := by
  have hNl := rowsSum_len N
  have hCl := rowsSum_len C
  have hNx := rowsSum_mem N
  have hCx := rowsSum_mem C
  have hw := whole_witI N C hs
  have hnb := (BytesAt.n hB).1
  obtain ⟨bs, code, hE⟩ : ∃ bs code, witEncode N C = (bs, code) := ⟨_, _, rfl⟩
  have hdec : code = 0 → witDecode bs = (N, C, 0) := fun h => witDecode_back bs N C (by rw [hE, h])
  have hbsl : code = 0 → bs.length ≤ 16777215 := fun h => by
    have := (witDecode_small bs N C (hdec h)).1; omega
  obtain ⟨N', C', d', hD⟩ := triple (witDecode B)
  obtain ⟨W0, hW0⟩ : ∃ W0, W0 = w.alloc (.cells #[.slice a1 n1 c1, .slice a2 n2 c2] 24) := ⟨_, rfl⟩
  have hb0 : Below w.heap.size w W0 := by rw [hW0]; exact Bel.alloc (Bel.refl w) _
  have hk0 : W0.heap[w.heap.size]? = some (.cells #[.slice a1 n1 c1, .slice a2 n2 c2] 24 (0, 0)) := by rw [hW0]; exact heap_alloc_new w _
  have hN0 := RowsAt.below hN hb0
  have hC0 := RowsAt.below hC hb0
  have hcall : ∀ w1, Below W0.heap.size W0 w1 → _ := fun w1 hb => wencode_any F w1 a1 a2 n1 c1 n2 c2 N C (RowsAt.below hN0 hb) (RowsAt.below hC0 hb) (by omega) (by omega) (fun x hx => by have := hNx x hx; omega) (fun x hx => by have := hCx x hx; omega) (by omega)
  rw [hE] at hcall
  have hsw := (Array.getElem?_eq_some_iff.1 hk0).1
  have HW0 := Lib.hid hW0
  have HC1 := Lib.hid hcall
  have HB0 := Lib.hid hb0
  have HK0 := Lib.hid hk0
  have HN0 := Lib.hid hN0
  have HC0 := Lib.hid hC0
  have HB := Lib.hid hB
  have HDEC := Lib.hid hdec
  have HBSL := Lib.hid hbsl
  have HD := Lib.hid hD
  have HNB := Lib.hid hnb
  have HNL : Hid (N.length ≤ 1152921504606846976 ∧ C.length ≤ 1152921504606846976) := Lib.hid ⟨by omega, by omega⟩
  have hnbl : nb ≤ 1099511627776 := by omega
  clear hNl hCl hNx hCx hw hE hW0 hb0 hk0 hN0 hC0 hN hC hcall hs hdec hbsl hD hB hnb
  go_enter Try.func5, Try.ntmps5
  go_wp2_with fail
  rw [← HW0.out]
  refine (alive_any W0).mono ?_
  rintro e w1 ⟨rfl, hb1⟩
  have hk1 := (hb1.block _ hsw).trans HK0.out
  obtain ⟨q0, q1⟩ := cells2 hk1
  have hsw1 : w.heap.size < w1.heap.size := Nat.lt_of_lt_of_le hsw hb1.size
  have HB1 := Lib.hid hb1
  have HK1 := Lib.hid hk1
  clear hk1 hb1
  go_wp2_with fail
  refine (HC1.out w1 HB1.out).mono ?_
  rintro e w2 ⟨v1, rfl, ho1, hb2⟩
  obtain ⟨x1, z1, rfl, -, -, -⟩ := ho1.len
  have hat1 := ho1.at (F := fun _ => True) (fun _ _ _ _ => trivial) (by decide)
  have hk2 := (hb2.block _ hsw1).trans HK1.out
  have hsw2 : w.heap.size < w2.heap.size := Nat.lt_of_lt_of_le hsw1 hb2.size
  have HAT1 := Lib.hid hat1
  have HK2 := Lib.hid hk2
  have HB02 := Lib.hid (Bel.call HB1.out hb2)
  clear hk2 ho1 hb2 hat1 q0 q1
  have hpath : (code = 0) ∨ (((code : Nat) : Int) == 0) = false := by
    by_cases h : code = 0
    · exact .inl h
    · exact .inr (by simp; omega)
  rcases hpath with rfl | hcode
  focus
    have hdec := HDEC.out rfl
    have hbsl := HBSL.out rfl
    obtain ⟨m, hm⟩ : ∃ m, m = bs.length := ⟨_, rfl⟩
    rw [← hm] at HAT1 hbsl ⊢
    have HDEC' := Lib.hid hdec
    obtain ⟨q0, q1⟩ := cells2 HK2.out
    clear hdec hm
    go_wp2_with fail
    refine (wdecode_any (fun _ => True) w2 x1 m z1 bs HAT1.out (by omega)).mono ?_
    rintro e w3 ⟨a5, n5, c5, a6, n6, c6, he, g1, g2, hb3⟩
    rw [HDEC'.out] at he g1 g2
    subst he
    have hk3 := (hb3.block _ hsw2).trans HK2.out
    have hsw3 : w.heap.size < w3.heap.size := Nat.lt_of_lt_of_le hsw2 hb3.size
    clear q0 q1
    obtain ⟨q0, q1⟩ := cells2 hk3
    have hb03 := Bel.alloc (Bel.call HB02.out hb3) (.cells #[.slice a5 n5 c5, .slice a6 n6 c6] 24)
    have HB03 := Lib.hid hb03
    have HG1 := Lib.hid (RowsAt.below g1 (Bel.alloc (Bel.refl w3) (.cells #[.slice a5 n5 c5, .slice a6 n6 c6] 24)))
    have HG2 := Lib.hid (RowsAt.below g2 (Bel.alloc (Bel.refl w3) (.cells #[.slice a5 n5 c5, .slice a6 n6 c6] 24)))
    clear hk3 hb3 g1 g2 hb03
    go_wp2_with fail
    refine (same_any _ F _ _ _ _ _ _ _ _ _ _ _ _ _ N C N C HG1.out HG2.out (RowsAt.below HN0.out HB03.out) (RowsAt.below HC0.out HB03.out) HNL.out.1 HNL.out.2).mono ?_
    rintro e w4 ⟨rfl, hb4⟩
    have HBX := Lib.hid (Bel.call HB0.out (Bel.call HB03.out hb4))
    simp only [and_self, decide_true]
    clear hb4 q0 q1
    go_wp2_with fail
  rotate_left
  focus
    have HBX := Lib.hid (Bel.call HB0.out HB02.out)
    go_wp2_with fail
  all_goals
    refine (wdecode_any G _ ab nb cb B (BytesAt.below HB.out HBX.out) hnbl).mono ?_
    rintro e w5 ⟨a5, n5, c5, a6, n6, c6, he, g1, g2, hb5⟩
    rw [HD.out] at he g1 g2
    subst he
    have HB5 := Lib.hid (Bel.call HBX.out hb5)
    have HG1 := Lib.hid (RowsAt.below g1 (Bel.alloc (Bel.refl w5) (.cells #[.slice a5 n5 c5, .slice a6 n6 c6] 24)))
    have HG2 := Lib.hid (RowsAt.below g2 (Bel.alloc (Bel.refl w5) (.cells #[.slice a5 n5 c5, .slice a6 n6 c6] 24)))
    clear g1 g2 hb5
    have hpath : (d' = 0) ∨ (d' = 210 ∧ N' = [] ∧ C' = []) := by
      rcases witDecode_cases B with ⟨N2, C2, h⟩ | h
      · rw [HD.out] at h; simp at h; exact .inl h.2.2
      · rw [HD.out] at h; simp at h; exact .inr ⟨h.2.2, h.1, h.2.1⟩
    rcases hpath with rfl | ⟨rfl, rfl, rfl⟩
    · obtain ⟨s1, s2, s3, s4, s5⟩ := witDecode_small B N' C' HD.out
      have hen := (witDecode_sound B N' C' HD.out).1
      have hcall := wencode_any _ (w5.alloc (.cells #[.slice a5 n5 c5, .slice a6 n6 c6] 24)) a5 a6 n5 c5 n6 c6 N' C' HG1.out HG2.out (by omega) (by omega) (fun x hx => by have := s4 x hx; omega) (fun x hx => by have := s5 x hx; omega) (by omega)
      rw [hen] at hcall
      have HC2 := Lib.hid hcall
      clear s1 s2 s3 s4 s5 hen hcall
      go_wp2_with fail
      refine HC2.out.mono ?_
      rintro e w6 ⟨v6, rfl, ho6, hb6⟩
      obtain ⟨x6, z6, rfl, -, -, -⟩ := ho6.len
      have hat6 := ho6.at (F := fun _ => True) (fun _ _ _ _ => trivial) (by decide)
      have hb06 := Bel.call (Bel.alloc HB5.out _) hb6
      have s1 := run_string_at (P := Try.prog) hat6 25 5 9 Try.underlying25 Try.underlying5 Try.underlying9
      have s2 := run_string_at (P := Try.prog) (BytesAt.below HB.out hb06) 25 5 9 Try.underlying25 Try.underlying5 Try.underlying9
      have HB6 := Lib.hid hb06
      clear hat6 ho6 hb6 hb06
      go_wp2_with fail
      go_ret
      exact ⟨rfl, HB6.out⟩
    · go_wp2_with fail
      refine (same_any _ (fun _ => True) _ _ _ _ _ _ _ _ _ _ _ _ _ [] [] [] [] HG1.out HG2.out (SliceAt.nil _ _ _ _) (SliceAt.nil _ _ _ _) (by simp) (by simp)).mono ?_
      rintro e w6 ⟨rfl, hb6⟩
      have HB6 := Lib.hid (Bel.call (Bel.alloc HB5.out _) hb6)
      simp only [and_self, decide_true]
      clear hb6
      go_wp2_with fail
      go_ret
      exact ⟨rfl, HB6.out⟩
end Go.Proofs.Ytndkkgkcbbmnpaa
