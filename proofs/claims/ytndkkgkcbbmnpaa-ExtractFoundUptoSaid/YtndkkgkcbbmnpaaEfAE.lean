/-
  Contract of pergolaref23.Clash.
  Plain law of clashes: what is found are two unlike texts of one digest, in whatever order the list stands.
  What is found are two unlike texts of one digest, in whatever order (the statement ExtractFound, where what is read is of bulk at most 1048576).
-/
import Derived.Test.YtndkkgkcbbmnpaaEfAD
namespace Go.Proofs.Ytndkkgkcbbmnpaa
open Go.RowKit Go.Pg

set_option maxRecDepth 100000 in
set_option maxHeartbeats 8000000 in
theorem rclash_any (F : Nat → Prop) (w : World) (a : Option Addr) (n c : Nat) (l : List (List UInt8)) (h : RowsAt F w (.slice a n c) l) (hlen : n ≤ 1099511627776) (hx : ∀ x ∈ l, x.length ≤ 70368744177664) :
    Calls Try.prog 33 #[.slice a n c] w (ClashD F w (clash l)) := by
  have hn : n = l.length := by
    obtain ⟨a', c', hv, -⟩ := SliceAt.len h
    simp only [Value.slice.injEq] at hv
    exact hv.2.1
  obtain ⟨R, hR⟩ : ∃ R, R = clash l := ⟨_, rfl⟩
  have HN := Lib.hid hn
  have HX := Lib.hid hx
  have HR := Lib.hid hR
  have HH := Lib.hid h
  rw [← hR]
  clear hn hx hR h
  go_enter Try.func33, Try.ntmps33
  go_wp2
  go_loopw [5] (fun i wr => ∃ k : Nat, k ≤ n ∧ i = .int .i64 k ∧ Hid (R = clashFrom (l.take k) (l.drop k)) ∧ Hid (Below w.heap.size w wr)) (fun i _ => n - (intOf i).toNat)
  case atStart => exact ⟨0, Nat.zero_le _, rfl, Lib.hid (by rw [HR.out]; rfl), Lib.hid (Bel.refl w)⟩
  case round =>
    obtain ⟨k, hk, rfl, HC, HB⟩ := hrel
    have hN := HN.out
    by_cases hlt : k < n
    · rcases SliceAt.split HH.out with ⟨_, h0⟩ | ⟨b, o, rfl, -, -, -⟩
      · omega
      have hkl : k < l.length := by omega
      have hnx := clashFrom_next l k hkl
      obtain ⟨u, cuw, tu⟩ := RowsAt.cell HH.out k hkl
      have hxl := HX.out l[k] (List.getElem_mem _)
      obtain ⟨x, hxx⟩ : ∃ x, x = l[k] := ⟨_, rfl⟩
      rw [← hxx] at hnx tu hxl
      obtain ⟨au, cu, rfl, -, -, -⟩ := SliceAt.len tu
      obtain ⟨mu, hmu⟩ : ∃ m, m = x.length := ⟨_, rfl⟩
      rw [← hmu] at tu cuw hxl
      obtain ⟨D, hD⟩ : ∃ D, D = digestOf x := ⟨_, rfl⟩
      have hDl : D.length = 32 := by rw [hD]; exact digestOf_length _
      have hcallD : ∀ W : World, Below w.heap.size w W → Calls Try.prog 36 #[.slice au mu cu] W (DigD W D) := fun W hb => by rw [hD]; exact rof_any F W au mu cu x (BytesAt.below tu hb) hxl
      rw [← hD] at hnx
      have HNX := Lib.hid hnx
      have HXX := Lib.hid hxx
      have HDD := Lib.hid hD
      have HCD0 := Lib.hid hcallD
      have HCU := Lib.hid cuw
      have HTU := Lib.hid tu
      have HMU := Lib.hid hmu
      have hkz : (0 : Int) ≤ (k : Int) := by omega
      have hkn : (k : Int) < (n : Int) := by omega
      obtain ⟨w0, rfl⟩ : ∃ W, W = wr := ⟨_, rfl⟩
      clear hnx hxx hD hcallD cuw tu hmu hN
      go_wp2_with fail
      go_loopw [6] (fun s wr => ∃ j : Nat, j ≤ k ∧ s = .int .i64 j ∧ Hid (∀ i, (hi : i < j) → ∀ hl : i < l.length, digestOf l[i] ≠ D) ∧ Hid (Below w.heap.size w wr)) (fun s _ => k - (intOf s).toNat)
      case atStart => exact ⟨0, Nat.zero_le _, rfl, Lib.hid (fun i hi => absurd hi (Nat.not_lt_zero _)), HB⟩
      case round =>
        obtain ⟨j, hj, rfl, HO, HB2⟩ := hrel
        by_cases hjk : j < k
        · have hjl : j < l.length := by omega
          obtain ⟨uj, cjw, tj⟩ := RowsAt.cell HH.out j hjl
          have hyl := HX.out l[j] (List.getElem_mem _)
          obtain ⟨y, hyy⟩ : ∃ y, y = l[j] := ⟨_, rfl⟩
          rw [← hyy] at tj hyl
          obtain ⟨aj, cj, rfl, -, -, -⟩ := SliceAt.len tj
          obtain ⟨mj, hmj⟩ : ∃ m, m = y.length := ⟨_, rfl⟩
          rw [← hmj] at tj cjw hyl
          obtain ⟨E, hE⟩ : ∃ D, D = digestOf y := ⟨_, rfl⟩
          have hEl : E.length = 32 := by rw [hE]; exact digestOf_length _
          have hcallE : ∀ W : World, Below wr.heap.size wr W → Calls Try.prog 36 #[.slice aj mj cj] W (DigD W E) := fun W hb => by rw [hE]; exact rof_any F W aj mj cj y (BytesAt.below tj (Bel.call HB2.out hb)) hyl
          have hcallD : ∀ W : World, Below wr.heap.size wr W → Calls Try.prog 36 #[.slice au mu cu] W (DigD W D) := fun W hb => HCD0.out W (Bel.call HB2.out hb)
          obtain ⟨q, hq⟩ : ∃ q, q = decide (E = D) := ⟨_, rfl⟩
          have heq : ∀ W : World, (Op.equalIn 10000 37 (.agg (cellsOf E)) (.agg (cellsOf D))).run Try.prog W = .ok q W := fun W => by rw [hq]; exact digEq E D hEl hDl W
          obtain ⟨S, hS⟩ : ∃ S : World → Prop, S = fun W => Below wr.heap.size wr W := ⟨_, rfl⟩
          have hkp : ∀ W : World, Below wr.heap.size wr W → S W := fun W hb => by rw [hS]; exact hb
          have hgt : ∀ W : World, S W → W.cell? ⟨b, o + j, none⟩ = some (.slice aj mj cj) ∧ W.cell? ⟨b, o + k, none⟩ = some (.slice au mu cu) := fun W hb => by
            rw [hS] at hb
            exact ⟨cell_below (Bel.call HB2.out hb) cjw, cell_below (Bel.call HB2.out hb) HCU.out⟩
          have HCE := Lib.hid hcallE
          have HCD := Lib.hid hcallD
          have HEQ := Lib.hid heq
          have HKP := Lib.hid hkp
          have HGT := Lib.hid hgt
          have HQ := Lib.hid hq
          have HYY := Lib.hid hyy
          have HEE := Lib.hid hE
          have HCJ := Lib.hid cjw
          have HTJ := Lib.hid tj
          have HMJ := Lib.hid hmj
          have hjz : (0 : Int) ≤ (j : Int) := by omega
          have hjn : (j : Int) < (n : Int) := by omega
          have hjki : (j : Int) < (k : Int) := by omega
          clear hcallE hcallD heq hkp hgt hq hyy hE cjw tj hmj hS
          go_wp2_with fail
          go_cut [28] (fun s28 wx => s28 = .bool q ∧ Hid (Below wr.heap.size wr wx))
          case first =>
            refine wp_region_held_drew (S := S) (by kernel_rfl) (HKP.out _ (Bel.drew (Bel.refl wr))) (fun hHeld => ?_)
            refine wpAnyH_take (i := 0) (op_at rfl) (by kernel_rfl) (by kernel_rfl) (by kernel_rfl) (fun _ _ _ h => h) (Or.inl ⟨by rfl, by intro W hSw; go_simp; (try with_reducible rfl)⟩) hHeld ?_
            simp only [Act.put, List.setIfInBounds_toArray, List.set_cons_zero, List.set_cons_succ]
            refine wpAnyH_take (i := 1) (op_at rfl) (by kernel_rfl) (by kernel_rfl) (by kernel_rfl) (fun _ _ _ h => h) (Or.inl ⟨by rfl, by intro W hSw; go_simp; (try with_reducible rfl)⟩) hHeld ?_
            simp only [Act.put, List.setIfInBounds_toArray, List.set_cons_zero, List.set_cons_succ]
            refine wpAnyH_take (i := 2) (op_at rfl) (by kernel_rfl) (by kernel_rfl) (by kernel_rfl) (fun _ _ _ h => h) (Or.inl ⟨by rfl, by intro W hSw; go_simp; (try with_reducible rfl)⟩) hHeld ?_
            simp only [Act.put, List.setIfInBounds_toArray, List.set_cons_zero, List.set_cons_succ]
            refine wpAnyH_take (i := 3) (op_at rfl) (by kernel_rfl) (by kernel_rfl) (by kernel_rfl) (fun _ _ _ h => h) (Or.inl ⟨by rfl, by intro W hSw; have hc := (HGT.out W hSw).1; go_simp; (try with_reducible rfl)⟩) hHeld ?_
            simp only [Act.put, List.setIfInBounds_toArray, List.set_cons_zero, List.set_cons_succ]
            refine wpAnyH_take (i := 5) (op_at rfl) (by kernel_rfl) (by kernel_rfl) (by kernel_rfl) (fun _ _ _ h => h) (Or.inl ⟨by rfl, by intro W hSw; go_simp; (try with_reducible rfl)⟩) hHeld ?_
            simp only [Act.put, List.setIfInBounds_toArray, List.set_cons_zero, List.set_cons_succ]
            refine wpAnyH_take (i := 6) (op_at rfl) (by kernel_rfl) (by kernel_rfl) (by kernel_rfl) (fun _ _ _ h => h) (Or.inl ⟨by rfl, by intro W hSw; go_simp; (try with_reducible rfl)⟩) hHeld ?_
            simp only [Act.put, List.setIfInBounds_toArray, List.set_cons_zero, List.set_cons_succ]
            refine wpAnyH_take (i := 7) (op_at rfl) (by kernel_rfl) (by kernel_rfl) (by kernel_rfl) (fun _ _ _ h => h) (Or.inl ⟨by rfl, by intro W hSw; go_simp; (try with_reducible rfl)⟩) hHeld ?_
            simp only [Act.put, List.setIfInBounds_toArray, List.set_cons_zero, List.set_cons_succ]
            refine wpAnyH_take (i := 8) (op_at rfl) (by kernel_rfl) (by kernel_rfl) (by kernel_rfl) (fun _ _ _ h => h) (Or.inl ⟨by rfl, by intro W hSw; have hc := (HGT.out W hSw).2; go_simp; (try with_reducible rfl)⟩) hHeld ?_
            simp only [Act.put, List.setIfInBounds_toArray, List.set_cons_zero, List.set_cons_succ]
            refine wpAnyH_ready (rs := [4]) (by kernel_rfl) (by simp) (AllReadyH.cons (op_at rfl) (fun K hK => ?_) (AllReadyH.nil))
            clear hHeld
            go_simp
            go_at_call_of 36 (Value.slice aj mj cj)
            refine ((HCE.out _ (Bel.drew (Bel.refl wr))).mono ?_)
            rintro e Va ⟨rfl, hb⟩
            have hBVa : Below wr.heap.size wr Va := Bel.call (Bel.drew (Bel.refl wr)) hb
            clear hb
            go_wp2_with fail
            refine hK.out _ _ (HKP.out _ hBVa) (fun hHeld => ?_)
            clear hK K
            try simp only [Act.put, List.setIfInBounds_toArray, List.set_cons_zero, List.set_cons_succ]
            refine wpAnyH_ready (rs := [9]) (by kernel_rfl) (by simp) (AllReadyH.cons (op_at rfl) (fun K hK => ?_) (AllReadyH.nil))
            clear hHeld
            go_simp
            go_at_call_of 36 (Value.slice au mu cu)
            refine ((HCD.out _ (hBVa)).mono ?_)
            rintro e Vb ⟨rfl, hb⟩
            have hBVb : Below wr.heap.size wr Vb := Bel.call (hBVa) hb
            clear hb
            go_wp2_with fail
            refine hK.out _ _ (HKP.out _ hBVb) (fun hHeld => ?_)
            clear hK K
            try simp only [Act.put, List.setIfInBounds_toArray, List.set_cons_zero, List.set_cons_succ]
            refine wpAnyH_take (i := 10) (op_at rfl) (by kernel_rfl) (by kernel_rfl) (by kernel_rfl) (fun _ _ _ h => h) (yieldsIf_eql_agg (by rfl) 37 (.tmp 22) (.tmp 27) 37 rfl (cellsOf E) (cellsOf D) rfl rfl (by kernel_rfl) q HEQ.out) hHeld ?_
            simp only [Act.put, List.setIfInBounds_toArray, List.set_cons_zero, List.set_cons_succ]
            refine wpAnyH_done (by kernel_rfl) ?_ _
            go_wp2_with fail
            go_meet
            exact ⟨rfl, Lib.hid hBVb⟩
          case rest =>
            obtain ⟨rfl, HX2⟩ := hcut
            have hbc := Bel.call HB2.out HX2.out
            have HBC := Lib.hid hbc
            have HOLD := HO.out
            cases q with
            | false =>
              have hne : E ≠ D := of_decide_eq_false HQ.out.symm
              have HO2 : Hid (∀ i, (hi : i < j + 1) → ∀ hl : i < l.length, digestOf l[i] ≠ D) := Lib.hid fun i hi hl => by
                by_cases hij : i = j
                · subst hij; rw [← HYY.out, ← HEE.out]; exact hne
                · exact HO.out i (by omega) hl
              clear hne hbc HOLD
              go_wp2_with fail
              go_roundw
              case rel => exact ⟨j + 1, by omega, num_eq (by omega), HO2, HBC⟩
              case measure => simp [intOf]; omega
            | true =>
              have he : E = D := of_decide_eq_true HQ.out.symm
              have hfirst : firstOf (l.take k) D = some j := by
                unfold firstOf
                rw [List.findIdx?_eq_some_iff_getElem]
                refine ⟨by rw [List.length_take]; omega, ?_, fun i hi => ?_⟩
                · rw [List.getElem_take, ← HYY.out, ← HEE.out]; simpa using he
                · have := HO.out i hi (by omega)
                  rw [List.getElem_take]; simpa using this
              have hgd : l.getD j [] = y := by rw [List.getD_eq_getElem?_getD, List.getElem?_eq_getElem (by omega), HYY.out]; rfl
              have hnx := HNX.out
              rw [hfirst] at hnx
              simp only [hgd] at hnx
              have c1 := cell_below hbc HCJ.out
              have c2 := cell_below hbc HCU.out
              have s1 := fun nq => run_string_at (P := Try.prog) (BytesAt.draws (BytesAt.below HTJ.out hbc) nq) 25 5 9 Try.underlying25 Try.underlying5 Try.underlying9
              have s2 := fun nq => run_string_at (P := Try.prog) (BytesAt.draws (BytesAt.below HTU.out hbc) nq) 25 5 9 Try.underlying25 Try.underlying5 Try.underlying9
              have HNX2 := Lib.hid hnx
              clear he hfirst hgd hnx hbc HOLD
              by_cases hxy : y = x
              · subst hxy
                have hC2 : R = clashFrom (l.take (k + 1)) (l.drop (k + 1)) := by rw [HC.out, HNX2.out, if_pos rfl]
                have HC2 := Lib.hid hC2
                clear hC2
                go_wp2
                go_quiet (fail)
                go_wp2
                go_roundw
                case rel => exact ⟨k + 1, by omega, num_eq (by omega), HC2, Lib.hid (by have := HBC.out; exact ⟨this.os, this.tape, this.output, this.size, this.block⟩)⟩
                case measure => simp [intOf]; omega
              · have hb1 : (y == x) = false := by simp [hxy]
                have hRR : R = some (y, x) := by rw [HC.out, HNX2.out, if_neg hxy]
                have HRR := Lib.hid hRR
                clear hxy hRR
                go_wp2
                go_quiet (fail)
                go_wp2
                go_quiet (fail)
                go_wp2
                refine bodyPost_ret (v := .tuple #[.slice aj mj cj, .slice au mu cu, .bool true]) (by simp [results, Try.results33, go_sem]) rfl ?_
                rw [HRR.out]
                refine ⟨aj, mj, cj, au, mu, cu, rfl, BytesAt.carry HTJ.out (fun _ _ x => x) (fun b _ hlt => HBC.out.block b hlt), BytesAt.carry HTU.out (fun _ _ x => x) (fun b _ hlt => HBC.out.block b hlt), ?_⟩
                have := HBC.out
                exact ⟨this.os, this.tape, this.output, this.size, this.block⟩
        · obtain rfl : j = k := by omega
          have hnone : firstOf (l.take j) D = none := by
            rw [firstOf_none]
            intro z hz
            obtain ⟨i, hi, rfl⟩ := List.getElem_of_mem hz
            rw [List.length_take] at hi
            rw [List.getElem_take]
            exact HO.out i (by omega) (by omega)
          have hC2 : R = clashFrom (l.take (j + 1)) (l.drop (j + 1)) := by rw [HC.out, HNX.out, hnone]
          have HC2 := Lib.hid hC2
          clear hnone hC2
          go_wp2_with fail
          go_roundw
          case rel => exact ⟨j + 1, by omega, num_eq (by omega), HC2, HB2⟩
          case measure => simp [intOf]; omega
    · obtain rfl : n = k := by omega
      have hRR : R = none := by rw [HC.out, hN]; exact clashFrom_end l
      subst hRR
      clear hN
      go_wp2_with fail
      refine bodyPost_ret (v := .tuple #[.slice none 0 0, .slice none 0 0, .bool false]) (by simp [results, Try.results33, go_sem]) rfl ?_
      exact ⟨none, 0, 0, none, 0, 0, rfl, BytesAt.nil _ _, BytesAt.nil _ _, HB.out⟩
end Go.Proofs.Ytndkkgkcbbmnpaa
namespace Go.Pg
/-- no two unlike texts of one digest -/
def Good (l : List (List UInt8)) : Prop := ∀ x ∈ l, ∀ y ∈ l, digestOf x = digestOf y → x = y
theorem Good.sub {l m : List (List UInt8)} (h : Good m) (hs : ∀ x ∈ l, x ∈ m) : Good l := fun x hx y hy => h x (hs x hx) y (hs y hy)
theorem clashFrom_none : ∀ (r pre : List (List UInt8)), Good pre → (clashFrom pre r = none ↔ Good (pre ++ r))
  | [], pre, h => by simp [clashFrom, h]
  | x :: r, pre, h => by
    have key : pre ++ x :: r = pre ++ [x] ++ r := by simp
    simp only [clashFrom]
    cases hf : firstOf pre (digestOf x) with
    | none =>
      have hno := (firstOf_none _ _).1 hf
      have hg : Good (pre ++ [x]) := by
        intro y hy z hz he
        simp only [List.mem_append, List.mem_singleton] at hy hz
        rcases hy with hy | rfl <;> rcases hz with hz | rfl
        · exact h y hy z hz he
        · exact absurd he (hno y hy)
        · exact absurd he.symm (hno z hz)
        · rfl
      rw [key]
      exact clashFrom_none r (pre ++ [x]) hg
    | some j =>
      obtain ⟨hj, h1, -⟩ := firstOf_some _ _ _ hf
      have hgd : pre.getD j [] = pre[j] := by rw [List.getD_eq_getElem?_getD, List.getElem?_eq_getElem hj]; rfl
      simp only [hgd]
      by_cases he : pre[j] = x
      · rw [if_pos he, key]
        have hxm : x ∈ pre := by rw [← he]; exact List.getElem_mem hj
        exact clashFrom_none r (pre ++ [x]) (h.sub fun y hy => by
          simp only [List.mem_append, List.mem_singleton] at hy
          rcases hy with hy | rfl
          · exact hy
          · exact hxm)
      · rw [if_neg he]
        constructor
        · intro e; cases e
        · intro hg
          exact absurd (hg pre[j] (by simp [List.getElem_mem hj]) x (by simp) h1) he
theorem clashFrom_some : ∀ (r pre : List (List UInt8)) (a b : List UInt8), clashFrom pre r = some (a, b) → a ≠ b ∧ digestOf a = digestOf b ∧ a ∈ pre ++ r ∧ b ∈ pre ++ r
  | [], pre, a, b, h => by cases h
  | x :: r, pre, a, b, h => by
    have key : pre ++ x :: r = pre ++ [x] ++ r := by simp
    simp only [clashFrom] at h
    cases hf : firstOf pre (digestOf x) with
    | none =>
      rw [hf] at h
      rw [key]
      exact clashFrom_some r (pre ++ [x]) a b h
    | some j =>
      obtain ⟨hj, h1, -⟩ := firstOf_some _ _ _ hf
      have hgd : pre.getD j [] = pre[j] := by rw [List.getD_eq_getElem?_getD, List.getElem?_eq_getElem hj]; rfl
      rw [hf] at h
      simp only [hgd] at h
      by_cases he : pre[j] = x
      · rw [if_pos he] at h
        rw [key]
        exact clashFrom_some r (pre ++ [x]) a b h
      · rw [if_neg he] at h
        simp only [Option.some.injEq, Prod.mk.injEq] at h
        obtain ⟨rfl, rfl⟩ := h
        exact ⟨he, h1, by simp [List.getElem_mem hj], by simp⟩
theorem clash_none (l : List (List UInt8)) : clash l = none ↔ Good l := by
  have := clashFrom_none l [] (fun x hx => by cases hx)
  simpa [clash] using this
theorem clash_some (l : List (List UInt8)) (a b : List UInt8) (h : clash l = some (a, b)) : a ≠ b ∧ digestOf a = digestOf b ∧ a ∈ l ∧ b ∈ l := by
  have := clashFrom_some l [] a b h
  simpa using this
theorem clash_isSome (l : List (List UInt8)) : (clash l).isSome = true ↔ ¬ Good l := by
  rw [← clash_none]
  cases clash l <;> simp
theorem clash_turned (l : List (List UInt8)) : (clash l.reverse).isSome = (clash l).isSome := by
  rw [Bool.eq_iff_iff, clash_isSome, clash_isSome]
  constructor
  · exact fun h g => h (g.sub fun x hx => by simpa using hx)
  · exact fun h g => h (g.sub fun x hx => by simpa using hx)
theorem clash_more (l m : List (List UInt8)) (h : (clash l).isSome = true) : (clash (l ++ m)).isSome = true := by
  rw [clash_isSome] at h ⊢
  exact fun g => h (g.sub fun x hx => by simp [hx])
end Go.Pg
namespace Go.Pg
open Go.RowKit
section
variable {P : Program}
/-- two structs that are equal are found so, the guard decided -/
theorem wpL_eql_agg_w {ops : Array Oper} {rest : List Oper} {o : Oper} {a : Act} {w : World} {Q : Exit → Act → World → Prop} (t : TypeId) (x y : Operand) (t2 : TypeId) (xs : Array Value)
    (hc : o.op = .binOp .eql t x y t2 ∧ a.eval x = .agg xs ∧ a.eval y = .agg xs ∧ Region.wanted o (yielded ops a.tmps) = true)
    (hf : P.eqGuardType P.depth t = false ∧ ∀ W : World, (Op.equalIn 10000 t (.agg xs) (.agg xs)).run P W = .ok true W)
    (h : wpList P ops Q rest (a.put o.dst (.bool true)) w) : wpList P ops Q (o :: rest) a w :=
  wpList_wanted hc.2.2.2 fun K hK => by
    have := hK _ _ h
    unfold Oper.wp execOp
    simp only [hc.1, hc.2.1, hc.2.2.1, Sem.run_bind, run_eqGuard_agg w .eql t x y xs xs hf.1, run_eql_struct, hf.2, Result.andThen_ok, Sem.run_pure]
    exact this
end
end Go.Pg
namespace Go.Proofs.Ytndkkgkcbbmnpaa
open Go.ChangeShapes Go.WideShapes Go.ChangeAt Go.RowKit Go.Pg

set_option maxRecDepth 100000 in
set_option maxHeartbeats 8000000 in
theorem found_walk (F0 G0 : Nat → Prop) (w : World) (a : Option Addr) (n c : Nat) (l : List (List UInt8)) (h0 : RowsAt F0 w (.slice a n c) l) (ab : Option Addr) (nb cb : Nat) (M : List (List UInt8)) (k0 : RowsAt G0 w (.slice ab nb cb) M) (hs : rowsSum l + rowsSum M ≤ 1048576) :
    Calls Try.prog 11 #[.slice a n c, .slice ab nb cb] w fun e w' => e = .returned (.bool true) ∧ Below w.heap.size w w' := by
  have hll := rowsSum_len l
  have hlx := rowsSum_mem l
  have hml := rowsSum_len M
  have hmx := rowsSum_mem M
  have h : RowsAt (fun b => b < w.heap.size) w (.slice a n c) l := RowsAt.carry h0 (fun b hlt _ => hlt) (fun _ _ _ => rfl)
  have hm : RowsAt (fun b => b < w.heap.size) w (.slice ab nb cb) M := RowsAt.carry k0 (fun b hlt _ => hlt) (fun _ _ _ => rfl)
  have hn : n = l.length := by
    obtain ⟨a', c', hv, -⟩ := SliceAt.len h
    simp only [Value.slice.injEq] at hv
    exact hv.2.1
  have hnl : n ≤ 1048576 := by omega
  have hx : ∀ x ∈ l, x.length ≤ 70368744177664 := fun x hx => by have := hlx x hx; omega
  have hxm : ∀ x ∈ l ++ M, x.length ≤ 70368744177664 := fun x hx => by
    rcases List.mem_append.1 hx with hx | hx
    · have := hlx x hx; omega
    · have := hmx x hx; omega
  obtain ⟨i0, hi, hz0, hz1, hz2⟩ := info_parts infoRow
  obtain ⟨R, hR⟩ : ∃ R, R = clash l := ⟨_, rfl⟩
  obtain ⟨q, hq⟩ : ∃ q, q = R.isSome := ⟨_, rfl⟩
  obtain ⟨X, hX⟩ : ∃ X, X = R.elim ([] : List UInt8) (·.1) := ⟨_, rfl⟩
  obtain ⟨Y, hY⟩ : ∃ Y, Y = R.elim ([] : List UInt8) (·.2) := ⟨_, rfl⟩
  have hturn : (clash l.reverse).isSome = q := by rw [clash_turned, hq, hR]
  obtain ⟨q3, hq3⟩ : ∃ q3, q3 = (clash (l ++ M)).isSome := ⟨_, rfl⟩
  have hmore : q = true → q3 = true := fun e => by rw [hq3]; exact clash_more l M (by rw [← hR, ← hq]; exact e)
  have hyes : q = true → X ≠ Y ∧ digestOf X = digestOf Y ∧ X ∈ l ∧ Y ∈ l := fun e => by
    rw [hq] at e
    obtain ⟨p, hp⟩ := Option.isSome_iff_exists.1 e
    rw [hX, hY, hp]
    exact clash_some l p.1 p.2 (by rw [← hR, hp])
  have hno : q = false → X = [] ∧ Y = [] := fun e => by
    rw [hq] at e
    cases hp : R with
    | none => rw [hX, hY, hp]; exact ⟨rfl, rfl⟩
    | some p => rw [hp] at e; cases e
  have HN := Lib.hid hn
  have HXL := Lib.hid hx
  have HXM := Lib.hid hxm
  have HH := Lib.hid h
  have HM := Lib.hid hm
  have HML : Hid (M.length ≤ 1048576) := Lib.hid (by omega)
  have HR := Lib.hid hR
  have HQ := Lib.hid hq
  have HXX := Lib.hid hX
  have HYY := Lib.hid hY
  have HTURN := Lib.hid hturn
  have HMORE := Lib.hid hmore
  have HYES := Lib.hid hyes
  have HNO := Lib.hid hno
  have HQ3 := Lib.hid hq3
  clear hll hlx hml hmx h hm h0 k0 hn hx hxm hR hq hX hY hturn hq3 hmore hyes hno hs
  go_enter Try.func11, Try.ntmps11
  go_wp2_with fail
  refine (alive23_any w).mono ?_
  rintro e w1 ⟨rfl, hb1⟩
  have hcall := clash_any _ w1 a n c l (RowsAt.below HH.out hb1) (by omega) HXL.out
  rw [← HR.out] at hcall
  have HCALL := Lib.hid hcall
  have HB1 := Lib.hid hb1
  clear hcall hb1
  go_wp2_with fail
  refine HCALL.out.mono ?_
  rintro e w2 ⟨a2, n2, c2, a3, n3, c3, rfl, h2, h3, hb2⟩
  rw [← HQ.out]
  rw [← HXX.out] at h2
  rw [← HYY.out] at h3
  have HT2 := Lib.hid h2
  have HT3 := Lib.hid h3
  have HB2 := Lib.hid (Bel.call HB1.out hb2)
  clear h2 h3 hb2 HCALL
  go_wp2_with fail
  go_loopw [8, 26] (fun tv i wr => ∃ (k : Nat) (a4 : Option Addr) (m4 c4 : Nat), k ≤ n ∧ i = .int .i64 k ∧ tv = .slice a4 m4 c4 ∧ Hid (RowsAt (fun _ => True) wr (.slice a4 m4 c4) (l.take k).reverse) ∧ Hid (Below w2.heap.size w2 wr)) (fun _ i _ => n - (intOf i).toNat)
  case atStart => exact ⟨0, none, 0, 0, Nat.zero_le _, rfl, rfl, Lib.hid (SliceAt.nil _ _ _ _), Lib.hid (Bel.refl w2)⟩
  case round =>
    obtain ⟨k, a4, m4, c4, hk, rfl, rfl, HT, HB⟩ := hrel
    by_cases hlt : k < n
    · rcases SliceAt.split HH.out with ⟨_, h0⟩ | ⟨b, o, rfl, -, -, -⟩
      · omega
      have hkl : k < l.length := by have := HN.out; omega
      have hbw := HB2.out.trans (HB.out.mono HB2.out.size)
      obtain ⟨u, c0, t0⟩ := RowsAt.cell (RowsAt.below HH.out hbw) k hkl
      have htk : l.take (k + 1) = l.take k ++ [l[k]] := List.take_succ_eq_append_getElem hkl
      obtain ⟨x, hxx⟩ : ∃ x, x = l[k] := ⟨_, rfl⟩
      rw [← hxx] at htk t0
      obtain ⟨au, cu, rfl, -, -, -⟩ := SliceAt.len t0
      obtain ⟨mx, hmx⟩ : ∃ m, m = x.length := ⟨_, rfl⟩
      rw [← hmx] at c0 t0
      obtain ⟨W1, hW1⟩ : ∃ W : World, W = wr.alloc (.cells #[.slice au mx cu] 25) := ⟨_, rfl⟩
      have hb1 : Below wr.heap.size wr W1 := by rw [hW1]; exact Bel.alloc (Bel.refl wr) _
      have hs1 : W1.heap.size = wr.heap.size + 1 := by rw [hW1]; simp
      have ht1 : BytesAt (fun b => b < wr.heap.size) W1 (.slice au mx cu) x := BytesAt.below (BytesAt.carry t0 (fun b hlt _ => hlt) (fun _ _ _ => rfl)) hb1
      have hown : OwnList rowR (fun _ => True) wr.heap.size W1 25 1 (.slice (some ⟨wr.heap.size, 0, none⟩) 1 1) [x] :=
        ⟨fun b => b < wr.heap.size, fun b hb => ⟨trivial, by omega⟩, fun g hg hb => by simp [Value.ownBlock] at hg; omega,
          ⟨[.slice au mx cu], by rw [hW1]; exact World.ownsRow_lit wr #[.slice au mx cu] 1 (Nat.le_refl _) (by decide) rfl, Go.Pg.Rows.one ⟨_, rfl, ht1⟩ rfl⟩⟩
      have hsrc : RowsAt (fun b => b < wr.heap.size) W1 (.slice a4 m4 c4) (l.take k).reverse := RowsAt.below (RowsAt.carry HT.out (fun b hlt _ => hlt) (fun _ _ _ => rfl)) hb1
      obtain ⟨R1, j1, j2, j3, j4⟩ := hown.join carriedRow hsrc (fun b hlt hb => ⟨trivial, fun e => by simp [Value.ownBlock] at e; omega⟩)
      have hle : ([x].length + (l.take k).reverse.length) * 24 ≤ 140737488355328 := by simp; omega
      have hge : wr.heap.size ≤ W1.heap.size := by omega
      have HW1 := Lib.hid hW1
      have HJ1 := Lib.hid j1
      have HJ2 := Lib.hid j2
      have HJ3 := Lib.hid j3
      have HJ4 := Lib.hid j4
      have HLE := Lib.hid hle
      have HTK := Lib.hid htk
      have HS1 := Lib.hid hs1
      have HBB := Lib.hid (Bel.call HB.out hb1)
      have hblt := cell_lt c0
      have hkz : (0 : Int) ≤ (k : Int) := by omega
      have hkn : (k : Int) < (n : Int) := by omega
      clear hW1 hb1 hs1 ht1 hown hsrc j1 j2 j3 j4 hle htk t0 hmx hxx hbw
      go_wp2_with (at_builtin; (try rw [← HW1.out]); refine wpList_append_at rfl (.tmp 33) (.tmp 34) 22 rfl wr.heap.size 25 i0 (.slice none 0 0) 1 24 underlyingRows hi hz0 hz1 hz2 rfl (by decide) (by decide) HJ1.out (.slice (some ⟨wr.heap.size, 0, none⟩) 1 1) [x] rfl HJ2.out (.slice a4 m4 c4) (l.take k).reverse _ rfl HJ3.out HLE.out hge ?nexta)
      case nexta =>
      intro v6 w6 ho hg hm
      have ho6 := HJ4.out v6 w6 (by simpa using ho) hg hm
      have hown6 := OwnAt.own HJ2.out
      have hrv : [x] ++ (l.take k).reverse = (l.take (k + 1)).reverse := by rw [HTK.out]; simp
      rw [hrv] at ho6
      obtain ⟨a6, c6, hv6, -, -, -⟩ := ho6.len
      have hrows : RowsAt (fun _ => True) w6 v6 (l.take (k + 1)).reverse := ho6.at carriedRow (fun _ _ _ => trivial) (fun _ _ _ => trivial) (by decide)
      obtain ⟨m6, hm6⟩ : ∃ m, m = (l.take (k + 1)).reverse.length := ⟨_, rfl⟩
      rw [← hm6] at hv6
      subst hv6
      have hb6 : Below w2.heap.size w2 w6 := HBB.out.grown hg HBB.out.size (fun j hj => by have := (hown6 j hj).1; have := HB.out.size; omega)
      have HROWS := Lib.hid hrows
      have HB6 := Lib.hid hb6
      clear ho hg hm ho6 hown6 hrv hrows hm6 hb6
      go_wp2_with fail
      go_roundw
      case rel => exact ⟨k + 1, a6, m6, c6, by omega, num_eq (by omega), rfl, HROWS, HB6⟩
      case measure => simp [intOf]; omega
    · obtain rfl : n = k := by omega
      have ht : RowsAt (fun _ => True) wr (.slice a4 m4 c4) l.reverse := by have h1 := HT.out; rw [List.take_of_length_le (by have := HN.out; omega)] at h1; exact h1
      have hm4 : m4 = l.reverse.length := by
        obtain ⟨a', c', hv, -⟩ := SliceAt.len ht
        simp only [Value.slice.injEq] at hv
        exact hv.2.1
      rw [List.length_reverse] at hm4
      have hcall := clash_any _ wr a4 m4 c4 l.reverse ht (by have := HN.out; omega) (fun x hx => HXL.out x (by simpa using hx))
      have HCALL := Lib.hid hcall
      clear ht hm4 hcall
      go_wp2_with fail
      refine HCALL.out.mono ?_
      rintro e w3 ⟨a5, n5, c5, a6, n6, c6, rfl, -, -, hb3⟩
      rw [HTURN.out]
      have HB3 := Lib.hid (Bel.call HB.out hb3)
      have HB03 := Lib.hid (Bel.call HB2.out HB3.out)
      clear hb3
      go_wp2_with fail
      refine (copied23_any _ w3 a n c l (RowsAt.below HH.out HB03.out) (by omega) HXL.out).mono ?_
      rintro e w4 ⟨a7, n7, c7, rfl, ho7, hb7⟩
      have hown7 := ho7.own
      have hb04 := Bel.call HB03.out hb7
      have hn7 : n7 = l.length := by
        obtain ⟨a', c', hv, -⟩ := ho7.len
        simp only [Value.slice.injEq] at hv
        exact hv.2.1
      have hsrc := RowsAt.below HM.out hb04
      have h03 := HB03.out.size
      obtain ⟨R1, j1, j2, j3, j4⟩ := (ho7.weaken (G' := fun _ => True) (fun _ _ => trivial) (Nat.le_refl _)).join carriedRow hsrc (fun b hlt hb => ⟨trivial, fun e => by have := (hown7 b e).1; omega⟩)
      have hle : (l.length + M.length) * 24 ≤ 140737488355328 := by have := HN.out; have := HML.out; omega
      have HJ1 := Lib.hid j1
      have HJ2 := Lib.hid j2
      have HJ3 := Lib.hid j3
      have HJ4 := Lib.hid j4
      have HLE := Lib.hid hle
      have HB04 := Lib.hid hb04
      have HB34 := Lib.hid (Bel.call HB3.out hb7)
      have hge := hb7.size
      clear ho7 hown7 hb7 hb04 hn7 hsrc j1 j2 j3 j4 hle h03
      go_wp2_with (at_builtin; refine wpList_append_at rfl (.tmp 45) (.tmp 46) 22 rfl w3.heap.size 25 i0 (.slice none 0 0) 1 24 underlyingRows hi hz0 hz1 hz2 rfl (by decide) (by decide) HJ1.out (.slice a7 n7 c7) l rfl HJ2.out (.slice ab nb cb) M _ rfl HJ3.out HLE.out hge ?nextb)
      case nextb =>
      intro v8 w8 ho hg hm
      have ho8 := HJ4.out v8 w8 ho hg hm
      have hown8 := OwnAt.own HJ2.out
      obtain ⟨a8, c8, hv8, -, -, -⟩ := ho8.len
      have hrows : RowsAt (fun _ => True) w8 v8 (l ++ M) := ho8.at carriedRow (fun _ _ _ => trivial) (fun _ _ _ => trivial) (by decide)
      obtain ⟨m8, hm8⟩ : ∃ m, m = (l ++ M).length := ⟨_, rfl⟩
      rw [← hm8] at hv8
      subst hv8
      have hb8 : Below w2.heap.size w2 w8 := HB34.out.grown hg HB34.out.size (fun j hj => by have := (hown8 j hj).1; have := HB3.out.size; omega)
      have hcall := clash_any _ w8 a8 m8 c8 (l ++ M) hrows (by rw [hm8, List.length_append]; have := HN.out; have := HML.out; omega) HXM.out
      have HCALL3 := Lib.hid hcall
      have HB8 := Lib.hid hb8
      clear ho hg hm ho8 hown8 hrows hm8 hb8 hcall HCALL
      go_wp2_with fail
      refine HCALL3.out.mono ?_
      rintro e w9 ⟨a9, n9, c9, b9, d9, e9, rfl, -, -, hb9⟩
      rw [← HQ3.out]
      have hb29 := Bel.call HB8.out hb9
      have HB29 := Lib.hid hb29
      have HB09 := Lib.hid (Bel.call HB2.out hb29)
      have t2 := BytesAt.below HT2.out hb29
      have t3 := BytesAt.below HT3.out hb29
      have HT29 := Lib.hid t2
      have HT39 := Lib.hid t3
      clear hb9 hb29 t2 t3 HCALL3
      cases q with
      | false =>
        obtain ⟨hX0, hY0⟩ := HNO.out rfl
        obtain rfl : n2 = 0 := by have := (BytesAt.n HT29.out).1; rw [hX0] at this; exact this
        obtain rfl : n3 = 0 := by have := (BytesAt.n HT39.out).1; rw [hY0] at this; exact this
        clear hX0 hY0
        go_wp2_with fail
        go_ret
        exact ⟨rfl, HB09.out⟩
      | true =>
        obtain rfl : q3 = true := HMORE.out rfl
        obtain ⟨y1, y2, y3, y4⟩ := HYES.out rfl
        have hxlen := HXL.out X y3
        have hylen := HXL.out Y y4
        have nx := (BytesAt.n HT29.out).1
        have ny := (BytesAt.n HT39.out).1
        have s1 := run_string_at (P := Try.prog) HT29.out 25 5 9 Try.underlying25 Try.underlying5 Try.underlying9
        have s2 := run_string_at (P := Try.prog) HT39.out 25 5 9 Try.underlying25 Try.underlying5 Try.underlying9
        have hb1 : (X == Y) = false := by simp [y1]
        obtain ⟨D, hD⟩ : ∃ D, D = digestOf X := ⟨_, rfl⟩
        have hDl : D.length = 32 := by rw [hD]; exact digestOf_length _
        have heq : Try.prog.eqGuardType Try.prog.depth 37 = false ∧ ∀ W : World, (Op.equalIn 10000 37 (.agg (cellsOf D)) (.agg (cellsOf D))).run Try.prog W = .ok true W :=
          ⟨by kernel_rfl, fun W => by have := digEq D D hDl hDl W; rw [decide_eq_true rfl] at this; exact this⟩
        have hof1 := rof_any _ w9 a2 n2 c2 X HT29.out (by omega)
        rw [← hD] at hof1
        have HOF1 := Lib.hid hof1
        have HD2 : Hid (digestOf Y = D) := Lib.hid (by rw [hD, y2])
        have HEQ := Lib.hid heq
        have HY3 := Lib.hid y3
        have HY4 := Lib.hid y4
        have hnyl : n3 ≤ 70368744177664 := by omega
        have HNL2 : Hid (l.length ≤ 1152921504606846976) := Lib.hid (by have := HN.out; omega)
        clear y1 y2 y3 y4 hxlen hylen nx ny hD hDl heq hof1
        go_wp2_with fail
        refine HOF1.out.mono ?_
        rintro e wA ⟨rfl, hbA⟩
        have hof2 := rof_any _ wA a3 n3 c3 Y (BytesAt.below HT39.out hbA) hnyl
        rw [HD2.out] at hof2
        have HOF2 := Lib.hid hof2
        have HBA := Lib.hid hbA
        clear hof2 hbA s1 s2 hb1
        go_wp2_with fail
        refine HOF2.out.mono ?_
        rintro e wB ⟨rfl, hbB⟩
        have hb9B := Bel.call HBA.out hbB
        have hin1 := in23_any _ _ wB (.slice a n c) (.slice a2 n2 c2) l X (RowsAt.below HH.out (Bel.call HB09.out hb9B)) (BytesAt.below HT29.out hb9B) HNL2.out
        rw [decide_eq_true HY3.out] at hin1
        have HIN1 := Lib.hid hin1
        have HB9B := Lib.hid hb9B
        clear hin1 hb9B hbB
        go_wp2_with ((with_reducible refine wpL_eql_agg_w 37 (.tmp 79) (.tmp 81) 37 (cellsOf D) ?_ HEQ.out ?_); (exact ⟨rfl, rfl, rfl, rfl⟩))
        refine HIN1.out.mono ?_
        rintro e wC ⟨rfl, hqC⟩
        have hb9C := Bel.call HB9B.out (bel_drewN hqC)
        have hin2 := in23_any _ _ wC (.slice a n c) (.slice a3 n3 c3) l Y (RowsAt.below HH.out (Bel.call HB09.out hb9C)) (BytesAt.below HT39.out hb9C) HNL2.out
        rw [decide_eq_true HY4.out] at hin2
        have HIN2 := Lib.hid hin2
        have HB9C := Lib.hid hb9C
        clear hin2 hb9C hqC
        go_wp2_with fail
        refine HIN2.out.mono ?_
        rintro e wD ⟨rfl, hqD⟩
        have HBD := Lib.hid (Bel.call HB09.out (Bel.call HB9C.out (bel_drewN hqD)))
        clear hqD
        go_wp2_with fail
        go_ret
        exact ⟨rfl, HBD.out⟩
end Go.Proofs.Ytndkkgkcbbmnpaa
