/-
  Every witness' bytes, or that it has none, are what the document says (the statement WitnessEncodes, where what is read is of bulk at most 1048576).
-/
import Derived.Test.YtndkkgkcbbmnpaaFrame
import Derived.Test.YtndkkgkcbbmnpaaAlive
import Derived.Test.YtndkkgkcbbmnpaaRefH
namespace Go.Pg
theorem sz_small (n : Nat) (h : n ≤ 16777215) : sz n ≤ n + 4 := by
  have := number_le 3 n (by omega)
  unfold sz; split <;> omega
end Go.Pg
namespace Go.Proofs.Ytndkkgkcbbmnpaa
open Go.ChangeShapes Go.WideShapes Go.ChangeAt Go.RowKit Go.Pg
theorem whole_text (x : List UInt8) (h : x.length ≤ 1048576) : (It.text x).whole ≤ x.length + 4 := by
  have := sz_small x.length (by omega)
  simp only [It.whole]; split <;> omega
theorem wholes_texts (l : List (List UInt8)) (h : rowsSum l ≤ 1048576) : It.wholes (l.map .text) ≤ 4 * rowsSum l := by
  induction l with
  | nil => simp [It.wholes]
  | cons x r ih =>
    have h0 : rowsSum (x :: r) = x.length + 1 + rowsSum r := by simp [rowsSum]
    have h1 := whole_text x (by omega)
    have h2 := ih (by omega)
    simp only [List.map_cons, It.wholes]; omega
theorem whole_textsI (l : List (List UInt8)) (h : rowsSum l ≤ 1048576) : (textsI l).whole ≤ 4 * rowsSum l + 4 := by
  have h1 := wholes_texts l h
  have h2 := sz_small (It.wholes (l.map .text)) (by omega)
  unfold textsI; simp only [It.whole]; omega
theorem whole_witI (N C : List (List UInt8)) (h : rowsSum N + rowsSum C ≤ 1048576) : (witI N C).whole ≤ 16777215 := by
  have h1 := whole_textsI N (by omega)
  have h2 := whole_textsI C (by omega)
  have h3 : It.wholes [textsI N, textsI C] = (textsI N).whole + (textsI C).whole := by simp [It.wholes]
  have h4 := sz_small (It.wholes [textsI N, textsI C]) (by omega)
  unfold witI; simp only [It.whole]; omega

set_option maxRecDepth 100000 in
set_option maxHeartbeats 1000000 in
theorem encodes_walk (F : Nat → Prop) (w : World) (a1 a2 : Option Addr) (n1 c1 n2 c2 : Nat) (N C : List (List UInt8)) (hN : RowsAt F w (.slice a1 n1 c1) N) (hC : RowsAt F w (.slice a2 n2 c2) C) (hs : rowsSum N + rowsSum C ≤ 1048576) :
    Calls Try.prog 3 #[.agg #[.slice a1 n1 c1, .slice a2 n2 c2]] w fun e w' => e = .returned (.bool true) ∧ Below w.heap.size w w' := by
  have hNl := rowsSum_len N
  have hCl := rowsSum_len C
  have hNx := rowsSum_mem N
  have hCx := rowsSum_mem C
  have hw := whole_witI N C hs
  obtain ⟨E, hE⟩ : ∃ E, E = witEncode N C := ⟨_, rfl⟩
  obtain ⟨W0, hW0⟩ : ∃ W0, W0 = w.alloc (.cells #[.slice a1 n1 c1, .slice a2 n2 c2] 24) := ⟨_, rfl⟩
  have hb0 : Below w.heap.size w W0 := by rw [hW0]; exact Bel.alloc (Bel.refl w) _
  have hk0 : W0.heap[w.heap.size]? = some (.cells #[.slice a1 n1 c1, .slice a2 n2 c2] 24 (0, 0)) := by rw [hW0]; exact heap_alloc_new w _
  have hN0 := RowsAt.below hN hb0
  have hC0 := RowsAt.below hC hb0
  have hcall := wencode_any F W0 a1 a2 n1 c1 n2 c2 N C hN0 hC0 (by omega) (by omega) (fun x hx => by have := hNx x hx; omega) (fun x hx => by have := hCx x hx; omega) (by omega)
  have hcall2 : ∀ w1, Below W0.heap.size W0 w1 → _ := fun w1 hb => rwencode_any F w1 a1 a2 n1 c1 n2 c2 N C (RowsAt.below hN0 hb) (RowsAt.below hC0 hb) (by omega) (by omega) (fun x hx => by have := hNx x hx; omega) (fun x hx => by have := hCx x hx; omega) (by omega)
  rw [← hE] at hcall hcall2
  have hsw := (Array.getElem?_eq_some_iff.1 hk0).1
  have HW0 := Lib.hid hW0
  have HC1 := Lib.hid hcall
  have HC2 := Lib.hid hcall2
  have HB0 := Lib.hid hb0
  have HK0 := Lib.hid hk0
  clear hNl hCl hNx hCx hw hE hW0 hb0 hk0 hN0 hC0 hN hC hcall hcall2 hs
  go_enter Try.func3, Try.ntmps3
  go_wp2_with fail
  rw [← HW0.out]
  refine HC1.out.mono ?_
  rintro e w1 ⟨v1, rfl, ho1, hb1⟩
  obtain ⟨x1, z1, rfl, -, -, -⟩ := ho1.len
  have hk1 := (hb1.block _ hsw).trans HK0.out
  obtain ⟨q0, q1⟩ := cells2 hk1
  have hat1 := ho1.at (F := fun _ => True) (fun _ _ _ _ => trivial) (by decide)
  have hsw1 : w.heap.size < w1.heap.size := Nat.lt_of_lt_of_le hsw hb1.size
  have HAT1 := Lib.hid hat1
  have HB1 := Lib.hid hb1
  clear hk1 ho1 hb1 hat1
  go_wp2_with fail
  refine (HC2.out w1 HB1.out).mono ?_
  rintro e w2 ⟨v2, rfl, ho2, hb2⟩
  obtain ⟨x2, z2, rfl, -, -, -⟩ := ho2.len
  have hat2 := ho2.at (F := fun _ => True) (fun _ _ _ _ => trivial) (by decide)
  have HAT2 := Lib.hid hat2
  have HB2 := Lib.hid hb2
  clear ho2 hb2 hat2 q0 q1
  go_wp2_with fail
  refine (alive_any w2).mono ?_
  rintro e w3 ⟨rfl, hb3⟩
  have s1 := run_string_at (P := Try.prog) (BytesAt.below (BytesAt.below HAT1.out HB2.out) hb3) 25 5 9 Try.underlying25 Try.underlying5 Try.underlying9
  have s2 := run_string_at (P := Try.prog) (BytesAt.below HAT2.out hb3) 25 5 9 Try.underlying25 Try.underlying5 Try.underlying9
  have HB3 := Lib.hid hb3
  clear hb3
  go_wp2_with fail
  go_ret
  exact ⟨rfl, Bel.call (Bel.call (Bel.call HB0.out HB1.out) HB2.out) HB3.out⟩
end Go.Proofs.Ytndkkgkcbbmnpaa
