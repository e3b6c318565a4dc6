/-
  Contract of pergolaref23.Clash.
  Every Clash tells the first text that is unlike an earlier one of its digest, or that there is none (the statement ExtractClash, where what is read is of bulk at most 1048576).
-/
import Derived.Test.YtndkkgkcbbmnpaaEcAD
namespace Go.Proofs.Ytndkkgkcbbmnpaa
open Go.RowKit Go.Pg

set_option maxRecDepth 100000 in
set_option maxHeartbeats 8000000 in
theorem rclash_any (F : Nat → Prop) (w : World) (a : Option Addr) (n c : Nat) (l : List (List UInt8)) (h : RowsAt F w (.slice a n c) l) (hlen : n ≤ 1099511627776) (hx : ∀ x ∈ l, x.length ≤ 70368744177664) :
    Calls Try.prog 33 #[.slice a n c] w (ClashD F w (clash l)) := by
  have hn : n = l.length := by
    obtain ⟨a', c', hv, -⟩ := SliceAt.len h
    simp only [Value.slice.injEq] at hv
    exact hv.2.1
  obtain ⟨R, hR⟩ : ∃ R, R = clash l := ⟨_, rfl⟩
  have HN := Lib.hid hn
  have HX := Lib.hid hx
  have HR := Lib.hid hR
  have HH := Lib.hid h
  rw [← hR]
  clear hn hx hR h
  go_enter Try.func33, Try.ntmps33
  go_wp2
  go_loopw [5] (fun i wr => ∃ k : Nat, k ≤ n ∧ i = .int .i64 k ∧ Hid (R = clashFrom (l.take k) (l.drop k)) ∧ Hid (Below w.heap.size w wr)) (fun i _ => n - (intOf i).toNat)
  case atStart => exact ⟨0, Nat.zero_le _, rfl, Lib.hid (by rw [HR.out]; rfl), Lib.hid (Bel.refl w)⟩
  case round =>
    obtain ⟨k, hk, rfl, HC, HB⟩ := hrel
    have hN := HN.out
    by_cases hlt : k < n
    · rcases SliceAt.split HH.out with ⟨_, h0⟩ | ⟨b, o, rfl, -, -, -⟩
      · omega
      have hkl : k < l.length := by omega
      have hnx := clashFrom_next l k hkl
      obtain ⟨u, cuw, tu⟩ := RowsAt.cell HH.out k hkl
      have hxl := HX.out l[k] (List.getElem_mem _)
      obtain ⟨x, hxx⟩ : ∃ x, x = l[k] := ⟨_, rfl⟩
      rw [← hxx] at hnx tu hxl
      obtain ⟨au, cu, rfl, -, -, -⟩ := SliceAt.len tu
      obtain ⟨mu, hmu⟩ : ∃ m, m = x.length := ⟨_, rfl⟩
      rw [← hmu] at tu cuw hxl
      obtain ⟨D, hD⟩ : ∃ D, D = digestOf x := ⟨_, rfl⟩
      have hDl : D.length = 32 := by rw [hD]; exact digestOf_length _
      have hcallD : ∀ W : World, Below w.heap.size w W → Calls Try.prog 36 #[.slice au mu cu] W (DigD W D) := fun W hb => by rw [hD]; exact rof_any F W au mu cu x (BytesAt.below tu hb) hxl
      rw [← hD] at hnx
      have HNX := Lib.hid hnx
      have HXX := Lib.hid hxx
      have HDD := Lib.hid hD
      have HCD0 := Lib.hid hcallD
      have HCU := Lib.hid cuw
      have HTU := Lib.hid tu
      have HMU := Lib.hid hmu
      have hkz : (0 : Int) ≤ (k : Int) := by omega
      have hkn : (k : Int) < (n : Int) := by omega
      obtain ⟨w0, rfl⟩ : ∃ W, W = wr := ⟨_, rfl⟩
      clear hnx hxx hD hcallD cuw tu hmu hN
      go_wp2_with fail
      go_loopw [6] (fun s wr => ∃ j : Nat, j ≤ k ∧ s = .int .i64 j ∧ Hid (∀ i, (hi : i < j) → ∀ hl : i < l.length, digestOf l[i] ≠ D) ∧ Hid (Below w.heap.size w wr)) (fun s _ => k - (intOf s).toNat)
      case atStart => exact ⟨0, Nat.zero_le _, rfl, Lib.hid (fun i hi => absurd hi (Nat.not_lt_zero _)), HB⟩
      case round =>
        obtain ⟨j, hj, rfl, HO, HB2⟩ := hrel
        by_cases hjk : j < k
        · have hjl : j < l.length := by omega
          obtain ⟨uj, cjw, tj⟩ := RowsAt.cell HH.out j hjl
          have hyl := HX.out l[j] (List.getElem_mem _)
          obtain ⟨y, hyy⟩ : ∃ y, y = l[j] := ⟨_, rfl⟩
          rw [← hyy] at tj hyl
          obtain ⟨aj, cj, rfl, -, -, -⟩ := SliceAt.len tj
          obtain ⟨mj, hmj⟩ : ∃ m, m = y.length := ⟨_, rfl⟩
          rw [← hmj] at tj cjw hyl
          obtain ⟨E, hE⟩ : ∃ D, D = digestOf y := ⟨_, rfl⟩
          have hEl : E.length = 32 := by rw [hE]; exact digestOf_length _
          have hcallE : ∀ W : World, Below wr.heap.size wr W → Calls Try.prog 36 #[.slice aj mj cj] W (DigD W E) := fun W hb => by rw [hE]; exact rof_any F W aj mj cj y (BytesAt.below tj (Bel.call HB2.out hb)) hyl
          have hcallD : ∀ W : World, Below wr.heap.size wr W → Calls Try.prog 36 #[.slice au mu cu] W (DigD W D) := fun W hb => HCD0.out W (Bel.call HB2.out hb)
          obtain ⟨q, hq⟩ : ∃ q, q = decide (E = D) := ⟨_, rfl⟩
          have heq : ∀ W : World, (Op.equalIn 10000 37 (.agg (cellsOf E)) (.agg (cellsOf D))).run Try.prog W = .ok q W := fun W => by rw [hq]; exact digEq E D hEl hDl W
          obtain ⟨S, hS⟩ : ∃ S : World → Prop, S = fun W => Below wr.heap.size wr W := ⟨_, rfl⟩
          have hkp : ∀ W : World, Below wr.heap.size wr W → S W := fun W hb => by rw [hS]; exact hb
          have hgt : ∀ W : World, S W → W.cell? ⟨b, o + j, none⟩ = some (.slice aj mj cj) ∧ W.cell? ⟨b, o + k, none⟩ = some (.slice au mu cu) := fun W hb => by
            rw [hS] at hb
            exact ⟨cell_below (Bel.call HB2.out hb) cjw, cell_below (Bel.call HB2.out hb) HCU.out⟩
          have HCE := Lib.hid hcallE
          have HCD := Lib.hid hcallD
          have HEQ := Lib.hid heq
          have HKP := Lib.hid hkp
          have HGT := Lib.hid hgt
          have HQ := Lib.hid hq
          have HYY := Lib.hid hyy
          have HEE := Lib.hid hE
          have HCJ := Lib.hid cjw
          have HTJ := Lib.hid tj
          have HMJ := Lib.hid hmj
          have hjz : (0 : Int) ≤ (j : Int) := by omega
          have hjn : (j : Int) < (n : Int) := by omega
          have hjki : (j : Int) < (k : Int) := by omega
          clear hcallE hcallD heq hkp hgt hq hyy hE cjw tj hmj hS
          go_wp2_with fail
          go_cut [28] (fun s28 wx => s28 = .bool q ∧ Hid (Below wr.heap.size wr wx))
          case first =>
            refine wp_region_held_drew (S := S) (by kernel_rfl) (HKP.out _ (Bel.drew (Bel.refl wr))) (fun hHeld => ?_)
            refine wpAnyH_take (i := 0) (op_at rfl) (by kernel_rfl) (by kernel_rfl) (by kernel_rfl) (fun _ _ _ h => h) (Or.inl ⟨by rfl, by intro W hSw; go_simp; (try with_reducible rfl)⟩) hHeld ?_
            simp only [Act.put, List.setIfInBounds_toArray, List.set_cons_zero, List.set_cons_succ]
            refine wpAnyH_take (i := 1) (op_at rfl) (by kernel_rfl) (by kernel_rfl) (by kernel_rfl) (fun _ _ _ h => h) (Or.inl ⟨by rfl, by intro W hSw; go_simp; (try with_reducible rfl)⟩) hHeld ?_
            simp only [Act.put, List.setIfInBounds_toArray, List.set_cons_zero, List.set_cons_succ]
            refine wpAnyH_take (i := 2) (op_at rfl) (by kernel_rfl) (by kernel_rfl) (by kernel_rfl) (fun _ _ _ h => h) (Or.inl ⟨by rfl, by intro W hSw; go_simp; (try with_reducible rfl)⟩) hHeld ?_
            simp only [Act.put, List.setIfInBounds_toArray, List.set_cons_zero, List.set_cons_succ]
            refine wpAnyH_take (i := 3) (op_at rfl) (by kernel_rfl) (by kernel_rfl) (by kernel_rfl) (fun _ _ _ h => h) (Or.inl ⟨by rfl, by intro W hSw; have hc := (HGT.out W hSw).1; go_simp; (try with_reducible rfl)⟩) hHeld ?_
            simp only [Act.put, List.setIfInBounds_toArray, List.set_cons_zero, List.set_cons_succ]
            refine wpAnyH_take (i := 5) (op_at rfl) (by kernel_rfl) (by kernel_rfl) (by kernel_rfl) (fun _ _ _ h => h) (Or.inl ⟨by rfl, by intro W hSw; go_simp; (try with_reducible rfl)⟩) hHeld ?_
            simp only [Act.put, List.setIfInBounds_toArray, List.set_cons_zero, List.set_cons_succ]
            refine wpAnyH_take (i := 6) (op_at rfl) (by kernel_rfl) (by kernel_rfl) (by kernel_rfl) (fun _ _ _ h => h) (Or.inl ⟨by rfl, by intro W hSw; go_simp; (try with_reducible rfl)⟩) hHeld ?_
            simp only [Act.put, List.setIfInBounds_toArray, List.set_cons_zero, List.set_cons_succ]
            refine wpAnyH_take (i := 7) (op_at rfl) (by kernel_rfl) (by kernel_rfl) (by kernel_rfl) (fun _ _ _ h => h) (Or.inl ⟨by rfl, by intro W hSw; go_simp; (try with_reducible rfl)⟩) hHeld ?_
            simp only [Act.put, List.setIfInBounds_toArray, List.set_cons_zero, List.set_cons_succ]
            refine wpAnyH_take (i := 8) (op_at rfl) (by kernel_rfl) (by kernel_rfl) (by kernel_rfl) (fun _ _ _ h => h) (Or.inl ⟨by rfl, by intro W hSw; have hc := (HGT.out W hSw).2; go_simp; (try with_reducible rfl)⟩) hHeld ?_
            simp only [Act.put, List.setIfInBounds_toArray, List.set_cons_zero, List.set_cons_succ]
            refine wpAnyH_ready (rs := [4]) (by kernel_rfl) (by simp) (AllReadyH.cons (op_at rfl) (fun K hK => ?_) (AllReadyH.nil))
            clear hHeld
            go_simp
            go_at_call_of 36 (Value.slice aj mj cj)
            refine ((HCE.out _ (Bel.drew (Bel.refl wr))).mono ?_)
            rintro e Va ⟨rfl, hb⟩
            have hBVa : Below wr.heap.size wr Va := Bel.call (Bel.drew (Bel.refl wr)) hb
            clear hb
            go_wp2_with fail
            refine hK.out _ _ (HKP.out _ hBVa) (fun hHeld => ?_)
            clear hK K
            try simp only [Act.put, List.setIfInBounds_toArray, List.set_cons_zero, List.set_cons_succ]
            refine wpAnyH_ready (rs := [9]) (by kernel_rfl) (by simp) (AllReadyH.cons (op_at rfl) (fun K hK => ?_) (AllReadyH.nil))
            clear hHeld
            go_simp
            go_at_call_of 36 (Value.slice au mu cu)
            refine ((HCD.out _ (hBVa)).mono ?_)
            rintro e Vb ⟨rfl, hb⟩
            have hBVb : Below wr.heap.size wr Vb := Bel.call (hBVa) hb
            clear hb
            go_wp2_with fail
            refine hK.out _ _ (HKP.out _ hBVb) (fun hHeld => ?_)
            clear hK K
            try simp only [Act.put, List.setIfInBounds_toArray, List.set_cons_zero, List.set_cons_succ]
            refine wpAnyH_take (i := 10) (op_at rfl) (by kernel_rfl) (by kernel_rfl) (by kernel_rfl) (fun _ _ _ h => h) (yieldsIf_eql_agg (by rfl) 37 (.tmp 22) (.tmp 27) 37 rfl (cellsOf E) (cellsOf D) rfl rfl (by kernel_rfl) q HEQ.out) hHeld ?_
            simp only [Act.put, List.setIfInBounds_toArray, List.set_cons_zero, List.set_cons_succ]
            refine wpAnyH_done (by kernel_rfl) ?_ _
            go_wp2_with fail
            go_meet
            exact ⟨rfl, Lib.hid hBVb⟩
          case rest =>
            obtain ⟨rfl, HX2⟩ := hcut
            have hbc := Bel.call HB2.out HX2.out
            have HBC := Lib.hid hbc
            have HOLD := HO.out
            cases q with
            | false =>
              have hne : E ≠ D := of_decide_eq_false HQ.out.symm
              have HO2 : Hid (∀ i, (hi : i < j + 1) → ∀ hl : i < l.length, digestOf l[i] ≠ D) := Lib.hid fun i hi hl => by
                by_cases hij : i = j
                · subst hij; rw [← HYY.out, ← HEE.out]; exact hne
                · exact HO.out i (by omega) hl
              clear hne hbc HOLD
              go_wp2_with fail
              go_roundw
              case rel => exact ⟨j + 1, by omega, num_eq (by omega), HO2, HBC⟩
              case measure => simp [intOf]; omega
            | true =>
              have he : E = D := of_decide_eq_true HQ.out.symm
              have hfirst : firstOf (l.take k) D = some j := by
                unfold firstOf
                rw [List.findIdx?_eq_some_iff_getElem]
                refine ⟨by rw [List.length_take]; omega, ?_, fun i hi => ?_⟩
                · rw [List.getElem_take, ← HYY.out, ← HEE.out]; simpa using he
                · have := HO.out i hi (by omega)
                  rw [List.getElem_take]; simpa using this
              have hgd : l.getD j [] = y := by rw [List.getD_eq_getElem?_getD, List.getElem?_eq_getElem (by omega), HYY.out]; rfl
              have hnx := HNX.out
              rw [hfirst] at hnx
              simp only [hgd] at hnx
              have c1 := cell_below hbc HCJ.out
              have c2 := cell_below hbc HCU.out
              have s1 := fun nq => run_string_at (P := Try.prog) (BytesAt.draws (BytesAt.below HTJ.out hbc) nq) 25 5 9 Try.underlying25 Try.underlying5 Try.underlying9
              have s2 := fun nq => run_string_at (P := Try.prog) (BytesAt.draws (BytesAt.below HTU.out hbc) nq) 25 5 9 Try.underlying25 Try.underlying5 Try.underlying9
              have HNX2 := Lib.hid hnx
              clear he hfirst hgd hnx hbc HOLD
              by_cases hxy : y = x
              · subst hxy
                have hC2 : R = clashFrom (l.take (k + 1)) (l.drop (k + 1)) := by rw [HC.out, HNX2.out, if_pos rfl]
                have HC2 := Lib.hid hC2
                clear hC2
                go_wp2
                go_quiet (fail)
                go_wp2
                go_roundw
                case rel => exact ⟨k + 1, by omega, num_eq (by omega), HC2, Lib.hid (by have := HBC.out; exact ⟨this.os, this.tape, this.output, this.size, this.block⟩)⟩
                case measure => simp [intOf]; omega
              · have hb1 : (y == x) = false := by simp [hxy]
                have hRR : R = some (y, x) := by rw [HC.out, HNX2.out, if_neg hxy]
                have HRR := Lib.hid hRR
                clear hxy hRR
                go_wp2
                go_quiet (fail)
                go_wp2
                go_quiet (fail)
                go_wp2
                refine bodyPost_ret (v := .tuple #[.slice aj mj cj, .slice au mu cu, .bool true]) (by simp [results, Try.results33, go_sem]) rfl ?_
                rw [HRR.out]
                refine ⟨aj, mj, cj, au, mu, cu, rfl, BytesAt.carry HTJ.out (fun _ _ x => x) (fun b _ hlt => HBC.out.block b hlt), BytesAt.carry HTU.out (fun _ _ x => x) (fun b _ hlt => HBC.out.block b hlt), ?_⟩
                have := HBC.out
                exact ⟨this.os, this.tape, this.output, this.size, this.block⟩
        · obtain rfl : j = k := by omega
          have hnone : firstOf (l.take j) D = none := by
            rw [firstOf_none]
            intro z hz
            obtain ⟨i, hi, rfl⟩ := List.getElem_of_mem hz
            rw [List.length_take] at hi
            rw [List.getElem_take]
            exact HO.out i (by omega) (by omega)
          have hC2 : R = clashFrom (l.take (j + 1)) (l.drop (j + 1)) := by rw [HC.out, HNX.out, hnone]
          have HC2 := Lib.hid hC2
          clear hnone hC2
          go_wp2_with fail
          go_roundw
          case rel => exact ⟨j + 1, by omega, num_eq (by omega), HC2, HB2⟩
          case measure => simp [intOf]; omega
    · obtain rfl : n = k := by omega
      have hRR : R = none := by rw [HC.out, hN]; exact clashFrom_end l
      subst hRR
      clear hN
      go_wp2_with fail
      refine bodyPost_ret (v := .tuple #[.slice none 0 0, .slice none 0 0, .bool false]) (by simp [results, Try.results33, go_sem]) rfl ?_
      exact ⟨none, 0, 0, none, 0, 0, rfl, BytesAt.nil _ _, BytesAt.nil _ _, HB.out⟩
end Go.Proofs.Ytndkkgkcbbmnpaa
namespace Go.Proofs.Ytndkkgkcbbmnpaa
open Go.ChangeShapes Go.WideShapes Go.ChangeAt Go.RowKit Go.Pg

set_option maxRecDepth 100000 in
set_option maxHeartbeats 8000000 in
theorem clash_walk (F0 : Nat → Prop) (w : World) (a : Option Addr) (n c : Nat) (l : List (List UInt8)) (h0 : RowsAt F0 w (.slice a n c) l) (hs : rowsSum l ≤ 1048576) :
    Calls Try.prog 10 #[.slice a n c] w fun e w' => e = .returned (.bool true) ∧ Below w.heap.size w w' := by
  have hll := rowsSum_len l
  have hlx := rowsSum_mem l
  have h : RowsAt (fun b => b < w.heap.size) w (.slice a n c) l := RowsAt.carry h0 (fun b hlt _ => hlt) (fun _ _ _ => rfl)
  have hn : n = l.length := by
    obtain ⟨a', c', hv, -⟩ := SliceAt.len h
    simp only [Value.slice.injEq] at hv
    exact hv.2.1
  have hnl : n ≤ 1048576 := by omega
  have hx : ∀ x ∈ l, x.length ≤ 70368744177664 := fun x hx => by have := hlx x hx; omega
  obtain ⟨R, hR⟩ : ∃ R, R = clash l := ⟨_, rfl⟩
  obtain ⟨q, hq⟩ : ∃ q, q = R.isSome := ⟨_, rfl⟩
  obtain ⟨X, hX⟩ : ∃ X, X = R.elim ([] : List UInt8) (·.1) := ⟨_, rfl⟩
  obtain ⟨Y, hY⟩ : ∃ Y, Y = R.elim ([] : List UInt8) (·.2) := ⟨_, rfl⟩
  have HN := Lib.hid hn
  have HX := Lib.hid hx
  have HH := Lib.hid h
  have HR := Lib.hid hR
  have HQ := Lib.hid hq
  have HXX := Lib.hid hX
  have HYY := Lib.hid hY
  clear hll hlx h h0 hn hx hR hq hX hY hs
  go_enter Try.func10, Try.ntmps10
  go_wp2_with fail
  refine (copied23_any _ w a n c l HH.out (by omega) HX.out).mono ?_
  rintro e w1 ⟨a1, n1, c1, rfl, ho1, hb1⟩
  have hrow1 : RowsAt (fun b => b < w1.heap.size) w1 (.slice a1 n1 c1) l := RowsAt.carry (ho1.at carriedRow (G' := fun _ => True) (fun _ _ _ => trivial) (fun _ _ _ => trivial) (by decide)) (fun b hlt _ => hlt) (fun _ _ _ => rfl)
  have hn1 : n1 = l.length := by
    obtain ⟨a', c', hv, -⟩ := SliceAt.len hrow1
    simp only [Value.slice.injEq] at hv
    exact hv.2.1
  have hcall := clash_any _ w1 a1 n1 c1 l hrow1 (by have := HN.out; omega) HX.out
  rw [← HR.out] at hcall
  have HCALL := Lib.hid hcall
  have HROW1 := Lib.hid hrow1
  have HB1 := Lib.hid hb1
  have HN1 := Lib.hid hn1
  clear ho1 hb1 hrow1 hn1 hcall
  go_wp2_with fail
  refine HCALL.out.mono ?_
  rintro e w2 ⟨a2, n2, c2, a3, n3, c3, rfl, h2, h3, hb2⟩
  rw [← HQ.out]
  rw [← HXX.out] at h2
  rw [← HYY.out] at h3
  have hcall := rclash_any _ w2 a n c l (RowsAt.below HH.out (Bel.call HB1.out hb2)) (by omega) HX.out
  rw [← HR.out] at hcall
  have HCALL2 := Lib.hid hcall
  have HT2 : Hid (BytesAt (fun b => w1.heap.size ≤ b ∧ b < w2.heap.size) w2 (.slice a2 n2 c2) X) := Lib.hid (BytesAt.carry h2 (fun b hlt hb => ⟨hb, hlt⟩) (fun _ _ _ => rfl))
  have HT3 := Lib.hid h3
  have HB2 := Lib.hid hb2
  clear hcall h2 h3 hb2 HCALL
  go_wp2_with fail
  refine HCALL2.out.mono ?_
  rintro e w3 ⟨a4, n4, c4, a5, n5, c5, rfl, h4, h5, hb3⟩
  rw [← HQ.out]
  rw [← HXX.out] at h4
  rw [← HYY.out] at h5
  have HT4 := Lib.hid h4
  have HT5 := Lib.hid h5
  have HB3 := Lib.hid hb3
  clear h4 h5 hb3 HCALL2
  go_wp2_with fail
  refine (alive23_any w3).mono ?_
  rintro e w4 ⟨rfl, hb4⟩
  have h23 := Bel.call HB3.out hb4
  have t2 := BytesAt.below HT2.out h23
  have t3 := BytesAt.below HT3.out h23
  have t4 := BytesAt.below HT4.out hb4
  have t5 := BytesAt.below HT5.out hb4
  have s1 := run_string_at (P := Try.prog) t2 25 5 9 Try.underlying25 Try.underlying5 Try.underlying9
  have s2 := run_string_at (P := Try.prog) t3 25 5 9 Try.underlying25 Try.underlying5 Try.underlying9
  have s3 := run_string_at (P := Try.prog) t4 25 5 9 Try.underlying25 Try.underlying5 Try.underlying9
  have s4 := run_string_at (P := Try.prog) t5 25 5 9 Try.underlying25 Try.underlying5 Try.underlying9
  have hn2 : n2 = X.length ∧ n2 ≤ 9223372036854775807 := by
    obtain ⟨a', c', hv, h1, h2, -⟩ := SliceAt.len t2
    simp only [Value.slice.injEq] at hv
    unfold maxLen at h2
    omega
  have hn3 : n3 = Y.length := (BytesAt.n t3).1
  have hn4 : n4 = X.length := (BytesAt.n t4).1
  have hn5 : n5 = Y.length := (BytesAt.n t5).1
  rw [← hn2.1] at hn4
  rw [← hn3] at hn5
  subst hn4
  subst hn5
  have hh4 : w2.heap.size ≤ w4.heap.size := h23.size
  have HT2b := Lib.hid t2
  have HB24 := Lib.hid h23
  have HB04 := Lib.hid (Bel.call (Bel.call HB1.out HB2.out) h23)
  have HROW4 := Lib.hid (RowsAt.below HROW1.out (Bel.call HB2.out h23))
  have HSZ : Hid (w.heap.size ≤ w1.heap.size ∧ w1.heap.size ≤ w2.heap.size) := Lib.hid ⟨HB1.out.size, HB2.out.size⟩
  have HN2 := Lib.hid hn2.1
  have hn2b := hn2.2
  clear h23 t2 t3 t4 t5 hb4 hn2 hn3 HT2 HT3 HT4 HT5
  cases q
  all_goals
    go_wp2_with fail
    clear s1 s2 s3 s4
    go_loopw [48] (fun i wr => ∃ k : Nat, k ≤ n4 ∧ i = .int .i64 k ∧ Hid (Spoilt w4 wr w1.heap.size w4.heap.size)) (fun i _ => n4 - (intOf i).toNat)
    case atStart => exact ⟨0, Nat.zero_le _, rfl, Lib.hid (Spoilt.refl _ _ _)⟩
    case round =>
      obtain ⟨k, hk, rfl, HS⟩ := hrel
      by_cases hlt : k < n4
      · rcases SliceAt.split HT2b.out with ⟨_, h0⟩ | ⟨b, o, rfl, -, -, hF⟩
        · omega
        have hkx : k < X.length := by have := HN2.out; omega
        have c0 := BytesAt.cell HT2b.out k hkx
        have f0 := HS.out.frz _ _ (SliceAt.free HT2b.out k (by simpa using hkx))
        obtain ⟨m, c1⟩ := HS.out.byte c0
        have hst := HS.out.store (v := 99) ⟨hF.1, Nat.lt_of_lt_of_le hF.2 hh4⟩ c0
        have HST := Lib.hid hst
        have hkz : (0 : Int) ≤ (k : Int) := by omega
        have hkn : (k : Int) < (n4 : Int) := by omega
        clear c0 hst
        go_wp2_with fail
        go_roundw
        case rel => exact ⟨k + 1, by omega, num_eq (by omega), HST⟩
        case measure => simp [intOf]; omega
      · obtain rfl : n4 = k := by omega
        have hbel := HS.out.below
        have g1 : RowsAt (fun b => b < w1.heap.size) wr (.slice a1 n1 c1) l := RowsAt.carry HROW4.out (fun _ _ x => x) (fun b hb _ => hbel.block b hb)
        have g2 : RowsAt (fun b => b < w.heap.size) wr (.slice a n c) l := RowsAt.carry (RowsAt.below HH.out HB04.out) (fun _ _ x => x) (fun b hb _ => hbel.block b (by have := HSZ.out; omega))
        have hcall := sameAll_any _ _ wr (.slice a1 n1 c1) (.slice a n c) l l g1 g2 (by have := HN.out; omega)
        rw [decide_eq_true rfl] at hcall
        have hbw : Below w.heap.size w wr := by
          have h1 : Below w.heap.size w4 wr := hbel.mono HSZ.out.1
          exact HB04.out.trans h1
        have HCALL := Lib.hid hcall
        have HBW := Lib.hid hbw
        clear hcall g1 g2 hbel hbw
        go_wp2_with fail
        refine HCALL.out.mono ?_
        rintro e w5 ⟨rfl, hq5⟩
        have HB5 := Lib.hid (Bel.call HBW.out (bel_drewN hq5))
        clear hq5
        go_wp2_with fail
        go_ret
        exact ⟨rfl, HB5.out⟩
end Go.Proofs.Ytndkkgkcbbmnpaa
