/-
  Every Clash tells the first text that is unlike an earlier one of its digest, or that there is none (the statement ExtractClash, where what is read is of bulk at most 1048576).
-/
import Derived.Test.YtndkkgkcbbmnpaaEcAT
namespace Go.Proofs.Ytndkkgkcbbmnpaa
open Go.ChangeShapes Go.WideShapes Go.ChangeAt Go.RowKit Go.Pg

set_option maxRecDepth 100000 in
set_option maxHeartbeats 8000000 in
theorem clash_walk (F0 : Nat → Prop) (w : World) (a : Option Addr) (n c : Nat) (l : List (List UInt8)) (h0 : RowsAt F0 w (.slice a n c) l) (hs : rowsSum l ≤ 1048576) :
    Calls Try.prog 10 #[.slice a n c] w fun e w' => e = .returned (.bool true) ∧ Below w.heap.size w w' := by
  have hll := rowsSum_len l
  have hlx := rowsSum_mem l
  have h : RowsAt (fun b => b < w.heap.size) w (.slice a n c) l := RowsAt.carry h0 (fun b hlt _ => hlt) (fun _ _ _ => rfl)
  have hn : n = l.length := by
    obtain ⟨a', c', hv, -⟩ := SliceAt.len h
    simp only [Value.slice.injEq] at hv
    exact hv.2.1
  have hnl : n ≤ 1048576 := by omega
  have hx : ∀ x ∈ l, x.length ≤ 70368744177664 := fun x hx => by have := hlx x hx; omega
  obtain ⟨R, hR⟩ : ∃ R, R = clash l := ⟨_, rfl⟩
  obtain ⟨q, hq⟩ : ∃ q, q = R.isSome := ⟨_, rfl⟩
  obtain ⟨X, hX⟩ : ∃ X, X = R.elim ([] : List UInt8) (·.1) := ⟨_, rfl⟩
  obtain ⟨Y, hY⟩ : ∃ Y, Y = R.elim ([] : List UInt8) (·.2) := ⟨_, rfl⟩
  have HN := Lib.hid hn
  have HX := Lib.hid hx
  have HH := Lib.hid h
  have HR := Lib.hid hR
  have HQ := Lib.hid hq
  have HXX := Lib.hid hX
  have HYY := Lib.hid hY
  clear hll hlx h h0 hn hx hR hq hX hY hs
  go_enter Try.func10, Try.ntmps10
  go_wp2_with fail
  refine (copied23_any _ w a n c l HH.out (by omega) HX.out).mono ?_
  rintro e w1 ⟨a1, n1, c1, rfl, ho1, hb1⟩
  have hrow1 : RowsAt (fun b => b < w1.heap.size) w1 (.slice a1 n1 c1) l := RowsAt.carry (ho1.at carriedRow (G' := fun _ => True) (fun _ _ _ => trivial) (fun _ _ _ => trivial) (by decide)) (fun b hlt _ => hlt) (fun _ _ _ => rfl)
  have hn1 : n1 = l.length := by
    obtain ⟨a', c', hv, -⟩ := SliceAt.len hrow1
    simp only [Value.slice.injEq] at hv
    exact hv.2.1
  have hcall := clash_any _ w1 a1 n1 c1 l hrow1 (by have := HN.out; omega) HX.out
  rw [← HR.out] at hcall
  have HCALL := Lib.hid hcall
  have HROW1 := Lib.hid hrow1
  have HB1 := Lib.hid hb1
  have HN1 := Lib.hid hn1
  clear ho1 hb1 hrow1 hn1 hcall
  go_wp2_with fail
  refine HCALL.out.mono ?_
  rintro e w2 ⟨a2, n2, c2, a3, n3, c3, rfl, h2, h3, hb2⟩
  rw [← HQ.out]
  rw [← HXX.out] at h2
  rw [← HYY.out] at h3
  have hcall := rclash_any _ w2 a n c l (RowsAt.below HH.out (Bel.call HB1.out hb2)) (by omega) HX.out
  rw [← HR.out] at hcall
  have HCALL2 := Lib.hid hcall
  have HT2 : Hid (BytesAt (fun b => w1.heap.size ≤ b ∧ b < w2.heap.size) w2 (.slice a2 n2 c2) X) := Lib.hid (BytesAt.carry h2 (fun b hlt hb => ⟨hb, hlt⟩) (fun _ _ _ => rfl))
  have HT3 := Lib.hid h3
  have HB2 := Lib.hid hb2
  clear hcall h2 h3 hb2 HCALL
  go_wp2_with fail
  refine HCALL2.out.mono ?_
  rintro e w3 ⟨a4, n4, c4, a5, n5, c5, rfl, h4, h5, hb3⟩
  rw [← HQ.out]
  rw [← HXX.out] at h4
  rw [← HYY.out] at h5
  have HT4 := Lib.hid h4
  have HT5 := Lib.hid h5
  have HB3 := Lib.hid hb3
  clear h4 h5 hb3 HCALL2
  go_wp2_with fail
  refine (alive23_any w3).mono ?_
  rintro e w4 ⟨rfl, hb4⟩
  have h23 := Bel.call HB3.out hb4
  have t2 := BytesAt.below HT2.out h23
  have t3 := BytesAt.below HT3.out h23
  have t4 := BytesAt.below HT4.out hb4
  have t5 := BytesAt.below HT5.out hb4
  have s1 := run_string_at (P := Try.prog) t2 25 5 9 Try.underlying25 Try.underlying5 Try.underlying9
  have s2 := run_string_at (P := Try.prog) t3 25 5 9 Try.underlying25 Try.underlying5 Try.underlying9
  have s3 := run_string_at (P := Try.prog) t4 25 5 9 Try.underlying25 Try.underlying5 Try.underlying9
  have s4 := run_string_at (P := Try.prog) t5 25 5 9 Try.underlying25 Try.underlying5 Try.underlying9
  have hn2 : n2 = X.length ∧ n2 ≤ 9223372036854775807 := by
    obtain ⟨a', c', hv, h1, h2, -⟩ := SliceAt.len t2
    simp only [Value.slice.injEq] at hv
    unfold maxLen at h2
    omega
  have hn3 : n3 = Y.length := (BytesAt.n t3).1
  have hn4 : n4 = X.length := (BytesAt.n t4).1
  have hn5 : n5 = Y.length := (BytesAt.n t5).1
  rw [← hn2.1] at hn4
  rw [← hn3] at hn5
  subst hn4
  subst hn5
  have hh4 : w2.heap.size ≤ w4.heap.size := h23.size
  have HT2b := Lib.hid t2
  have HB24 := Lib.hid h23
  have HB04 := Lib.hid (Bel.call (Bel.call HB1.out HB2.out) h23)
  have HROW4 := Lib.hid (RowsAt.below HROW1.out (Bel.call HB2.out h23))
  have HSZ : Hid (w.heap.size ≤ w1.heap.size ∧ w1.heap.size ≤ w2.heap.size) := Lib.hid ⟨HB1.out.size, HB2.out.size⟩
  have HN2 := Lib.hid hn2.1
  have hn2b := hn2.2
  clear h23 t2 t3 t4 t5 hb4 hn2 hn3 HT2 HT3 HT4 HT5
  cases q
  all_goals
    go_wp2_with fail
    clear s1 s2 s3 s4
    go_loopw [48] (fun i wr => ∃ k : Nat, k ≤ n4 ∧ i = .int .i64 k ∧ Hid (Spoilt w4 wr w1.heap.size w4.heap.size)) (fun i _ => n4 - (intOf i).toNat)
    case atStart => exact ⟨0, Nat.zero_le _, rfl, Lib.hid (Spoilt.refl _ _ _)⟩
    case round =>
      obtain ⟨k, hk, rfl, HS⟩ := hrel
      by_cases hlt : k < n4
      · rcases SliceAt.split HT2b.out with ⟨_, h0⟩ | ⟨b, o, rfl, -, -, hF⟩
        · omega
        have hkx : k < X.length := by have := HN2.out; omega
        have c0 := BytesAt.cell HT2b.out k hkx
        have f0 := HS.out.frz _ _ (SliceAt.free HT2b.out k (by simpa using hkx))
        obtain ⟨m, c1⟩ := HS.out.byte c0
        have hst := HS.out.store (v := 99) ⟨hF.1, Nat.lt_of_lt_of_le hF.2 hh4⟩ c0
        have HST := Lib.hid hst
        have hkz : (0 : Int) ≤ (k : Int) := by omega
        have hkn : (k : Int) < (n4 : Int) := by omega
        clear c0 hst
        go_wp2_with fail
        go_roundw
        case rel => exact ⟨k + 1, by omega, num_eq (by omega), HST⟩
        case measure => simp [intOf]; omega
      · obtain rfl : n4 = k := by omega
        have hbel := HS.out.below
        have g1 : RowsAt (fun b => b < w1.heap.size) wr (.slice a1 n1 c1) l := RowsAt.carry HROW4.out (fun _ _ x => x) (fun b hb _ => hbel.block b hb)
        have g2 : RowsAt (fun b => b < w.heap.size) wr (.slice a n c) l := RowsAt.carry (RowsAt.below HH.out HB04.out) (fun _ _ x => x) (fun b hb _ => hbel.block b (by have := HSZ.out; omega))
        have hcall := sameAll_any _ _ wr (.slice a1 n1 c1) (.slice a n c) l l g1 g2 (by have := HN.out; omega)
        rw [decide_eq_true rfl] at hcall
        have hbw : Below w.heap.size w wr := by
          have h1 : Below w.heap.size w4 wr := hbel.mono HSZ.out.1
          exact HB04.out.trans h1
        have HCALL := Lib.hid hcall
        have HBW := Lib.hid hbw
        clear hcall g1 g2 hbel hbw
        go_wp2_with fail
        refine HCALL.out.mono ?_
        rintro e w5 ⟨rfl, hq5⟩
        have HB5 := Lib.hid (Bel.call HBW.out (bel_drewN hq5))
        clear hq5
        go_wp2_with fail
        go_ret
        exact ⟨rfl, HB5.out⟩
end Go.Proofs.Ytndkkgkcbbmnpaa
