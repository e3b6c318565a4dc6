/-
  Contracts of pergolaref01.SameAll, pergolaref21.Same.
-/
import Derived.Test.YtndkkgkcbbmnpaaBytes
namespace Go.Proofs.Ytndkkgkcbbmnpaa
open Go.RowKit Go.Pg

theorem bytes_ne (x y : List UInt8) (h : x ≠ y) : (⟨x.toArray⟩ : ByteArray) ≠ ⟨y.toArray⟩ := fun e => h (by
  have := congrArg ByteArray.data e
  simpa using this)

set_option maxRecDepth 100000 in
set_option maxHeartbeats 1000000 in
theorem sameAll_any (F G : Nat → Prop) (w : World) (u v : Value) (A B : List (List UInt8)) (h : RowsAt F w u A) (k : RowsAt G w v B) (hl : A.length ≤ 1152921504606846976) :
    Calls Try.prog 35 #[u, v] w fun e w' => e = .returned (.bool (decide (A = B))) ∧ ∃ m, w' = w.drewN m := by
  obtain ⟨a, c, rfl, -, -, -⟩ := SliceAt.len h
  obtain ⟨a', c', rfl, -, -, -⟩ := SliceAt.len k
  obtain ⟨n, hn⟩ : ∃ n, n = A.length := ⟨_, rfl⟩
  obtain ⟨n', hn'⟩ : ∃ n, n = B.length := ⟨_, rfl⟩
  rw [← hn] at h hl ⊢
  rw [← hn'] at k ⊢
  have HN := Lib.hid hn
  have HN' := Lib.hid hn'
  clear hn hn'
  by_cases hnn : n = n'
  · subst hnn
    have hb : ((n : Int) != (n : Int)) = false := by simp
    go_enter Try.func35, Try.ntmps35
    go_wp2
    clear hb
    go_loopw [5] (fun i wr => ∃ j : Nat, j ≤ n ∧ i = .int .i64 j ∧ Hid (A.take j = B.take j) ∧ Hid (∃ m, wr = w.drewN m)) (fun i _ => n - (intOf i).toNat)
    case atStart => exact ⟨0, Nat.zero_le _, rfl, rfl, 0, rfl⟩
    case round =>
      obtain ⟨j, hj, rfl, HT, HM⟩ := hrel
      have hwr : RowsAt F wr (.slice a n c) A ∧ RowsAt G wr (.slice a' n c') B := by
        obtain ⟨m, hm⟩ := HM.out
        rw [hm]; exact ⟨RowsAt.carry h (fun _ _ x => x) (fun _ _ _ => rfl), RowsAt.carry k (fun _ _ x => x) (fun _ _ _ => rfl)⟩
      have hN := HN.out
      have hN' := HN'.out
      by_cases hlt : j < n
      · rcases SliceAt.split hwr.1 with ⟨_, h0⟩ | ⟨b, o, rfl, -, -, -⟩
        · omega
        rcases SliceAt.split hwr.2 with ⟨_, h0⟩ | ⟨b', o', rfl, -, -, -⟩
        · omega
        obtain ⟨u1, c1, t1⟩ := RowsAt.cell hwr.1 j (by omega)
        obtain ⟨u2, c2, t2⟩ := RowsAt.cell hwr.2 j (by omega)
        have hst : A.take (j + 1) = A.take j ++ [A[j]'(by omega)] ∧ B.take (j + 1) = B.take j ++ [B[j]'(by omega)] := ⟨List.take_succ_eq_append_getElem (by omega), List.take_succ_eq_append_getElem (by omega)⟩
        have hne : A[j]'(by omega) ≠ B[j]'(by omega) → A ≠ B := fun h e => h (by simp [e])
        obtain ⟨x1, hx1⟩ : ∃ x, x = A[j]'(by omega) := ⟨_, rfl⟩
        obtain ⟨x2, hx2⟩ : ∃ x, x = B[j]'(by omega) := ⟨_, rfl⟩
        rw [← hx1, ← hx2] at hst hne
        rw [← hx1] at t1
        rw [← hx2] at t2
        obtain ⟨d1, e1, rfl, -, -, -⟩ := SliceAt.len t1
        obtain ⟨d2, e2, rfl, -, -, -⟩ := SliceAt.len t2
        have s1 := fun nq => run_string_at (P := Try.prog) (BytesAt.draws t1 nq) 25 5 9 Try.underlying25 Try.underlying5 Try.underlying9
        have s2 := fun nq => run_string_at (P := Try.prog) (BytesAt.draws t2 nq) 25 5 9 Try.underlying25 Try.underlying5 Try.underlying9
        have HST := Lib.hid hst
        have HNE := Lib.hid hne
        have hjn : (j : Int) < (n : Int) := by omega
        clear hst hne hx1 hx2 hwr hN hN' t1 t2
        by_cases hxy : x1 = x2
        · subst hxy
          go_wp2
          go_quiet (fail)
          go_wp2
          go_roundw
          case rel => exact ⟨j + 1, by omega, num_eq (by omega), (by show _ = _; rw [HST.out.1, HST.out.2, HT.out]), (by obtain ⟨m, hm⟩ := HM.out; rw [hm]; exact ⟨_, World.drewN_drewN _ _ _⟩)⟩
          case measure => simp [intOf]; omega
        · have hb1 : (x1 == x2) = false := by simp [hxy]
          have hd : decide (A = B) = false := by simp [HNE.out hxy]
          have HD := Lib.hid hd
          clear hxy hd
          go_wp2
          go_quiet (fail)
          go_wp2
          go_ret
          exact ⟨ret_bool HD.out.symm, (by obtain ⟨m, hm⟩ := HM.out; rw [hm]; exact ⟨_, World.drewN_drewN _ _ _⟩)⟩
      · obtain rfl : j = n := by omega
        go_wp2
        go_ret
        refine ⟨ret_bool ?_, HM.out⟩
        have := HT.out
        rw [List.take_of_length_le (by omega), List.take_of_length_le (by omega)] at this
        simp [this]
  · have hb : ((n : Int) != (n' : Int)) = true := by simp; omega
    have hne : A ≠ B := fun e => hnn (by rw [HN.out, HN'.out, e])
    have hd : decide (A = B) = false := by simp [hne]
    rw [hd]
    clear hnn hne hd
    go_enter Try.func35, Try.ntmps35
    go_wp2
    go_ret
    exact ⟨rfl, 0, rfl⟩

set_option maxRecDepth 100000 in
set_option maxHeartbeats 400000 in
theorem same_any (F G : Nat → Prop) (w : World) (a1 a2 a3 a4 : Option Addr) (n1 c1 n2 c2 n3 c3 n4 c4 : Nat) (N C N' C' : List (List UInt8)) (h1 : RowsAt F w (.slice a1 n1 c1) N) (h2 : RowsAt F w (.slice a2 n2 c2) C)
    (h3 : RowsAt G w (.slice a3 n3 c3) N') (h4 : RowsAt G w (.slice a4 n4 c4) C') (hl1 : N.length ≤ 1152921504606846976) (hl2 : C.length ≤ 1152921504606846976) :
    Calls Try.prog 18 #[.agg #[.slice a1 n1 c1, .slice a2 n2 c2], .agg #[.slice a3 n3 c3, .slice a4 n4 c4]] w fun e w' => e = .returned (.bool (decide (N = N' ∧ C = C'))) ∧ Below w.heap.size w w' := by
  have hb0 : Below w.heap.size w ((w.alloc (.cells #[.slice a1 n1 c1, .slice a2 n2 c2] 24)).alloc (.cells #[.slice a3 n3 c3, .slice a4 n4 c4] 24)) := Bel.alloc (Bel.alloc (Bel.refl w) _) _
  have g1 := RowsAt.below h1 hb0
  have g2 := RowsAt.below h2 hb0
  have g3 := RowsAt.below h3 hb0
  have g4 := RowsAt.below h4 hb0
  obtain ⟨b1, hd1⟩ : ∃ b, b = decide (N = N') := ⟨_, rfl⟩
  obtain ⟨b2, hd2⟩ : ∃ b, b = decide (C = C') := ⟨_, rfl⟩
  have hfin : decide (N = N' ∧ C = C') = (b1 && b2) := by rw [hd1, hd2]; simp
  rw [hfin]
  have HB0 := Lib.hid hb0
  have HD1 := Lib.hid hd1
  have HD2 := Lib.hid hd2
  clear h1 h2 h3 h4 hb0 hfin hd1 hd2
  go_enter Try.func18, Try.ntmps18
  go_wp2_with fail
  refine (sameAll_any F G _ _ _ N N' g1 g3 hl1).mono ?_
  rintro e w1 ⟨rfl, m, rfl⟩
  rw [← HD1.out]
  have g2' : RowsAt F (((w.alloc (.cells #[.slice a1 n1 c1, .slice a2 n2 c2] 24)).alloc (.cells #[.slice a3 n3 c3, .slice a4 n4 c4] 24)).drewN m) _ C := RowsAt.carry g2 (fun _ _ x => x) (fun _ _ _ => rfl)
  have g4' : RowsAt G (((w.alloc (.cells #[.slice a1 n1 c1, .slice a2 n2 c2] 24)).alloc (.cells #[.slice a3 n3 c3, .slice a4 n4 c4] 24)).drewN m) _ C' := RowsAt.carry g4 (fun _ _ x => x) (fun _ _ _ => rfl)
  clear g1 g2 g3 g4
  go_wp2_with fail
  refine (sameAll_any F G _ _ _ C C' g2' g4' hl2).mono ?_
  rintro e w1 ⟨rfl, m', rfl⟩
  rw [← HD2.out]
  clear g2' g4'
  cases b1
  all_goals
    go_wp2_with fail
    go_ret
    exact ⟨rfl, ⟨HB0.out.os, HB0.out.tape, HB0.out.output, HB0.out.size, HB0.out.block⟩⟩
end Go.Proofs.Ytndkkgkcbbmnpaa
