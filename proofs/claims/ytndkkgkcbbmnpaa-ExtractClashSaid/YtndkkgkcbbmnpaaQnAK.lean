/-
  Contract of extract.Clash.
  Contract of pergolalaw23.alive.
  Every Told tells what a witness has, or nothing (the statement ExtractTold).
  Contracts of pergolalaw23.copied and pergolalaw23.in.
  Contract of pergolaref23.Clash.
  Every Clash tells the first text that is unlike an earlier one of its digest, or that there is none (the statement ExtractClash).
-/
import Derived.Test.YtndkkgkcbbmnpaaQnAJ
namespace Go.Pg
open Go.RowKit
/-- the value at a place of a slice -/
def valAt (w : World) (a : Option Addr) (j : Nat) : Option Value := a.bind fun ad => w.cell? ⟨ad.block, ad.off + j, none⟩
end Go.Pg
namespace Go.Proofs.Ytndkkgkcbbmnpaa
open Go.RowKit Go.Pg

/-- two unlike texts of one digest, in memory of their own, or none -/
def ClashD (F : Nat → Prop) (w : World) (r : Option (List UInt8 × List UInt8)) (e : Ending) (w' : World) : Prop :=
  ∃ a1 n1 c1 a2 n2 c2, e = .returned (.tuple #[.slice a1 n1 c1, .slice a2 n2 c2, .bool r.isSome]) ∧ BytesAt F w' (.slice a1 n1 c1) (r.elim [] (·.1)) ∧ BytesAt F w' (.slice a2 n2 c2) (r.elim [] (·.2)) ∧ Below w.heap.size w w'

set_option maxRecDepth 100000 in
set_option maxHeartbeats 8000000 in
theorem clash_any (F : Nat → Prop) (w : World) (a : Option Addr) (n c : Nat) (l : List (List UInt8)) (h : RowsAt F w (.slice a n c) l) (hlen : n ≤ 5864062014634) (hx : ∀ x ∈ l, x.length ≤ 140737488351232) :
    Calls Try.prog 32 #[.slice a n c] w (ClashD (fresh w) w (clash l)) := by
  have hn : n = l.length := by
    obtain ⟨a', c', hv, -⟩ := SliceAt.len h
    simp only [Value.slice.injEq] at hv
    exact hv.2.1
  obtain ⟨ZD, hZD⟩ : ∃ Z : Array Value, Z = #[.int .u8 0, .int .u8 0, .int .u8 0, .int .u8 0, .int .u8 0, .int .u8 0, .int .u8 0, .int .u8 0, .int .u8 0, .int .u8 0, .int .u8 0, .int .u8 0, .int .u8 0, .int .u8 0, .int .u8 0, .int .u8 0, .int .u8 0, .int .u8 0, .int .u8 0, .int .u8 0, .int .u8 0, .int .u8 0, .int .u8 0, .int .u8 0, .int .u8 0, .int .u8 0, .int .u8 0, .int .u8 0, .int .u8 0, .int .u8 0, .int .u8 0, .int .u8 0] := ⟨_, rfl⟩
  have hZs : ZD.size = 32 := by rw [hZD]; rfl
  obtain ⟨R, hR⟩ : ∃ R, R = clash l := ⟨_, rfl⟩
  obtain ⟨i0, hi, hz0, hz1, hz2⟩ := info_parts infoU8
  have hmm := @run_makeMap Try.prog
  have HN := Lib.hid hn
  have HX := Lib.hid hx
  have HZD := Lib.hid hZD
  have HZS := Lib.hid hZs
  have HR := Lib.hid hR
  have HH := Lib.hid h
  rw [← hR]
  clear hn hx hZD hZs hR h
  go_enter Try.func32, Try.ntmps32
  go_wp2
  go_loopw [14] (fun i wr => ∃ k : Nat, k ≤ n ∧ i = .int .i64 k ∧ Hid (R = clashFrom (l.take k) (l.drop k)) ∧ Hid (Known wr w.heap.size k fun d => (firstOf (l.take k) d).bind (valAt w a)) ∧ Hid (Below w.heap.size w wr)) (fun i _ => n - (intOf i).toNat)
  case atStart =>
    refine ⟨0, Nat.zero_le _, rfl, Lib.hid (by rw [HR.out]; rfl), Lib.hid ?_, Lib.hid (Bel.alloc (Bel.refl w) _)⟩
    exact (Known.made w).ext fun d _ => by simp [firstOf]
  case round =>
    obtain ⟨k, hk, rfl, HC, HKN0, HB⟩ := hrel
    have hN := HN.out
    by_cases hlt : k < n
    · rcases SliceAt.split HH.out with ⟨_, h0⟩ | ⟨b, o, rfl, -, -, -⟩
      · omega
      have hkl : k < l.length := by omega
      have hwr := RowsAt.below HH.out HB.out
      obtain ⟨u, c0, t0⟩ := RowsAt.cell hwr k hkl
      have c0w : w.cell? ⟨b, o + k, none⟩ = some u := by
        obtain ⟨u', c0', -⟩ := RowsAt.cell HH.out k hkl
        have := (cell_below HB.out c0').symm.trans c0
        rw [c0', this]
      have hnx := clashFrom_next l k hkl
      have htk : l.take (k + 1) = l.take k ++ [l[k]] := List.take_succ_eq_append_getElem hkl
      have hxl := HX.out l[k] (List.getElem_mem _)
      obtain ⟨x, hxx⟩ : ∃ x, x = l[k] := ⟨_, rfl⟩
      rw [← hxx] at hnx htk hxl t0
      obtain ⟨au, cu, rfl, -, -, -⟩ := SliceAt.len t0
      obtain ⟨m, hm⟩ : ∃ m, m = x.length := ⟨_, rfl⟩
      rw [← hm] at t0 c0 c0w hxl
      obtain ⟨D, hD⟩ : ∃ D, D = digestOf x := ⟨_, rfl⟩
      have hDl : D.length = 32 := by rw [hD]; exact digestOf_length _
      rw [← hD] at hnx
      have hcall := dof_any F wr au m cu x t0 hxl
      rw [← hD] at hcall
      obtain ⟨f, hf⟩ : ∃ f : List UInt8 → Option Value, f = fun d => (firstOf (l.take k) d).bind (valAt w (some ⟨b, o, none⟩)) := ⟨_, rfl⟩
      rw [← hf] at HKN0
      have hold : ∀ y, (¬ (f y = none ∧ y = D)) → (firstOf (l.take (k + 1)) y).bind (valAt w (some ⟨b, o, none⟩)) = f y := fun y hy => by
        have hlt' : (l.take k).length = k := by rw [List.length_take]; omega
        rw [htk, firstOf_snoc, hlt', ← hD]
        rw [hf] at hy ⊢
        dsimp only at hy ⊢
        obtain ⟨q, hq⟩ : ∃ q, q = firstOf (l.take k) y := ⟨_, rfl⟩
        rw [← hq] at hy ⊢
        cases q with
        | none => rw [if_neg (fun e => hy ⟨rfl, e.symm⟩)]; rfl
        | some j => rfl
      have hnew : f D = none → (firstOf (l.take (k + 1)) D).bind (valAt w (some ⟨b, o, none⟩)) = some (.slice au m cu) := fun hy => by
        have hlt' : (l.take k).length = k := by rw [List.length_take]; omega
        rw [htk, firstOf_snoc, hlt', ← hD, if_pos rfl]
        rw [hf] at hy
        dsimp only at hy
        obtain ⟨q, hq⟩ : ∃ q, q = firstOf (l.take k) D := ⟨_, rfl⟩
        rw [← hq] at hy ⊢
        cases q with
        | none => exact c0w
        | some j =>
          obtain ⟨hj, -⟩ := firstOf_some _ _ _ hq.symm
          rw [hlt'] at hj
          obtain ⟨uj, cj, -⟩ := RowsAt.cell HH.out j (by omega)
          have : (some j).bind (valAt w (some ⟨b, o, none⟩)) = some uj := cj
          rw [this] at hy
          cases hy
      have HCALL := Lib.hid hcall
      have HID := Lib.hid (show (Try.prog.info? 37).map (·.size) = some (cellsOf D).size by rw [cellsOf_size, hDl]; kernel_rfl)
      have HSD := Lib.hid (show ZD.size = (cellsOf D).size by rw [HZS.out, cellsOf_size, hDl])
      have HOD := Lib.hid (show (cellsOf D).all (·.oneCell') = true by
        apply Array.all_eq_true_iff_forall_mem.2
        intro v hv
        simp only [cellsOf, List.mem_toArray, List.mem_map] at hv
        obtain ⟨y, -, rfl⟩ := hv
        rfl)
      have HNX := Lib.hid hnx
      have HTK := Lib.hid htk
      have HM := Lib.hid hm
      have HOLD := Lib.hid hold
      have HNEW := Lib.hid hnew
      have HT0 := Lib.hid t0
      have HFE := Lib.hid hf
      have HXX := Lib.hid hxx
      have hkz : (0 : Int) ≤ (k : Int) := by omega
      have hkn : (k : Int) < (n : Int) := by omega
      clear hwr c0w hnx htk hxl hm hD hcall hold hnew hf t0 hxx hN
      go_wp2_with fail
      refine HCALL.out.mono ?_
      rintro e w1 ⟨rfl, hb1⟩
      obtain ⟨W1, hW1⟩ : ∃ W : World, W = (w1.alloc (.cells ZD 37)).setRow w1.heap.size (cellsOf D) := ⟨_, rfl⟩
      have hz1' : (w1.alloc (.cells ZD 37)).heap[w1.heap.size]? = some (.cells ZD 37 (0, 0)) := heap_alloc_new w1 _
      have hk1 : W1.heap[w1.heap.size]? = some (.cells (cellsOf D) 37 (0, 0)) := by rw [hW1]; exact setRow_heap _ _ _ _ _ _ hz1'
      have hbW : Below wr.heap.size wr W1 := Bel.call hb1 (by rw [hW1]; exact below_setRow (Bel.alloc (Bel.refl w1) _) (Nat.le_refl _) _)
      have HKN := Lib.hid (HKN0.out.below hbW)
      have HZ1 := Lib.hid hz1'
      have HK1 := Lib.hid hk1
      have HW1 := Lib.hid hW1
      have HBW := Lib.hid (HB.out.trans (hbW.mono HB.out.size))
      have HT1 := Lib.hid (BytesAt.below HT0.out hbW)
      clear hz1' hk1 hW1 hbW hb1
      cases hfd : f D with
      | none =>
        have HF := Lib.hid hfd
        have hnone : firstOf (l.take k) D = none := by
          rw [HFE.out] at hfd
          cases hq : firstOf (l.take k) D with
          | none => rfl
          | some j =>
            try dsimp only at hfd
            rw [hq] at hfd
            obtain ⟨hj, -⟩ := firstOf_some _ _ _ hq
            rw [List.length_take] at hj
            obtain ⟨uj, cj, -⟩ := RowsAt.cell HH.out j (by omega)
            have : (some j).bind (valAt w (some ⟨b, o, none⟩)) = some uj := cj
            rw [this] at hfd
            cases hfd
        have hC2 : R = clashFrom (l.take (k + 1)) (l.drop (k + 1)) := by rw [HC.out, HNX.out, hnone]
        have HC2 := Lib.hid hC2
        clear hfd hnone hC2
        go_wp2_with (first
          | (rw [← HZD.out]; (with_reducible refine wpL_store_row 37 (.tmp 8) (.tmp 19) w1.heap.size (cellsOf D) 37 ZD ?_ ⟨HZ1.out, HID.out, HSD.out, HOD.out⟩ ?_); (exact ⟨rfl, rfl, rfl, rfl⟩); rw [← HW1.out])
          | ((with_reducible refine wpL_load_row 37 (.tmp 8) w1.heap.size (cellsOf D) 37 (.array 32 5) ?_ ⟨HK1.out, underlyingDig, rfl, HID.out⟩ ?_); (exact ⟨rfl, rfl, rfl⟩))
          | ((with_reducible refine wpL_lookup_known (.tmp 21) (.tmp 22) w.heap.size k f D ?_ ⟨HKN.out, hDl⟩ ?_); (exact ⟨rfl, rfl, rfl, rfl⟩); rw [HF.out]; simp only [Option.getD_none, Option.isSome_none, Option.getD_some, Option.isSome_some])
          | ((with_reducible refine wpL_update_known (.tmp 28) (.tmp 29) (.tmp 30) w.heap.size k f D (.slice au m cu) ?_ ⟨HKN.out, hDl, (show k < maxLen by unfold maxLen; omega)⟩ ?_); (exact ⟨rfl, rfl, rfl, rfl, rfl⟩); intro w2 hk2 hg2))
        have HKN2 := Lib.hid (hk2.ext (g := fun d => (firstOf (l.take (k + 1)) d).bind (valAt w (some ⟨b, o, none⟩))) fun y _ => by
          by_cases hy : y = D
          · subst hy; rw [if_pos rfl]; exact (HNEW.out HF.out).symm
          · rw [if_neg hy]; exact (HOLD.out y (fun e => hy e.2)).symm)
        have HB2 := Lib.hid (HBW.out.grown hg2 HBW.out.size (fun j hj => by cases hj; exact Nat.le_refl _))
        clear hk2 hg2
        go_roundw
        case rel => exact ⟨k + 1, by omega, num_eq (by omega), HC2, HKN2, HB2⟩
        case measure => simp [intOf]; omega
      | some uj =>
        have HF := Lib.hid hfd
        have hsome : ∃ j, firstOf (l.take k) D = some j ∧ j < k ∧ w.cell? ⟨b, o + j, none⟩ = some uj := by
          rw [HFE.out] at hfd
          cases hq : firstOf (l.take k) D with
          | none => (try dsimp only at hfd); rw [hq] at hfd; cases hfd
          | some j =>
            try dsimp only at hfd
            rw [hq] at hfd
            obtain ⟨hj, -⟩ := firstOf_some _ _ _ hq
            rw [List.length_take] at hj
            exact ⟨j, rfl, by omega, hfd⟩
        obtain ⟨j, hj1, hj2, hj3⟩ := hsome
        obtain ⟨uj', cj, tj⟩ := RowsAt.cell HH.out j (by omega)
        obtain rfl : uj' = uj := by rw [cj] at hj3; exact Option.some.inj hj3
        have hgd : l.getD j [] = l[j]'(by omega) := by rw [List.getD_eq_getElem?_getD, List.getElem?_eq_getElem (by omega)]; rfl
        obtain ⟨y, hy⟩ : ∃ y, y = l[j]'(by omega) := ⟨_, rfl⟩
        rw [← hy] at hgd tj
        obtain ⟨aj, cj', rfl, -, -, -⟩ := SliceAt.len tj
        obtain ⟨mj, hmj⟩ : ∃ m, m = y.length := ⟨_, rfl⟩
        have hyl : y.length ≤ 140737488351232 := by rw [hy]; exact HX.out _ (List.getElem_mem _)
        have hxl : x.length ≤ 140737488351232 := by rw [HXX.out]; exact HX.out _ (List.getElem_mem _)
        rw [← hmj] at tj HF
        have HTJ := Lib.hid (BytesAt.below tj HBW.out)
        have hnx2 := HNX.out
        rw [hj1] at hnx2
        simp only [hgd] at hnx2
        have HNX2 := Lib.hid hnx2
        have HSAME : Hid (∀ z, (firstOf (l.take (k + 1)) z).bind (valAt w (some ⟨b, o, none⟩)) = f z) := Lib.hid fun z => HOLD.out z (fun e => by
          have e1 := e.1
          rw [e.2, HF.out] at e1
          cases e1)
        have HYL := Lib.hid hyl
        have HXL := Lib.hid hxl
        clear hfd hj1 hj2 hj3 cj tj hgd hy hnx2 hyl hxl hmj
        go_wp2_with (first
          | (rw [← HZD.out]; (with_reducible refine wpL_store_row 37 (.tmp 8) (.tmp 19) w1.heap.size (cellsOf D) 37 ZD ?_ ⟨HZ1.out, HID.out, HSD.out, HOD.out⟩ ?_); (exact ⟨rfl, rfl, rfl, rfl⟩); rw [← HW1.out])
          | ((with_reducible refine wpL_load_row 37 (.tmp 8) w1.heap.size (cellsOf D) 37 (.array 32 5) ?_ ⟨HK1.out, underlyingDig, rfl, HID.out⟩ ?_); (exact ⟨rfl, rfl, rfl⟩))
          | ((with_reducible refine wpL_lookup_known (.tmp 21) (.tmp 22) w.heap.size k f D ?_ ⟨HKN.out, hDl⟩ ?_); (exact ⟨rfl, rfl, rfl, rfl⟩); rw [HF.out]; simp only [Option.getD_none, Option.isSome_none, Option.getD_some, Option.isSome_some]))
        refine (bEqual_any F F W1 (.slice au m cu) (.slice aj mj cj') x y HT1.out HTJ.out).mono ?_
        rintro e w2 ⟨rfl, rfl⟩
        by_cases hxy : x = y
        · subst hxy
          rw [beq_self_eq_true]
          have hC2 : R = clashFrom (l.take (k + 1)) (l.drop (k + 1)) := by rw [HC.out, HNX2.out, if_pos rfl]
          have HC2 := Lib.hid hC2
          have HKN2 := Lib.hid ((HKN.out.ext (g := fun d => (firstOf (l.take (k + 1)) d).bind (valAt w (some ⟨b, o, none⟩))) fun z _ => (HSAME.out z).symm))
          clear hC2
          go_wp2_with fail
          go_roundw
          case rel => exact ⟨k + 1, by omega, num_eq (by omega), HC2, (by
            obtain ⟨D', g1, g2⟩ := HKN2.out
            exact Lib.hid ⟨D', g1.mono (Nat.le_succ _), g2⟩), HBW⟩
          case measure => simp [intOf]; omega
        · have hbe : (x == y) = false := by simp [hxy]
          rw [hbe]
          have hRR : R = some (y, x) := by rw [HC.out, HNX2.out, if_neg (fun e => hxy e.symm)]
          have HRR := Lib.hid hRR
          have hle1 : (([] : List UInt8).length + y.length) * 1 ≤ 140737488355328 := by have := HYL.out; simp; omega
          have hle2 : (([] : List UInt8).length + x.length) * 1 ≤ 140737488355328 := by have := HXL.out; simp; omega
          clear hxy hbe hRR
          go_wp2_with (at_builtin; refine wpList_append_at rfl (.const (.slice none 0 0)) (.tmp 35) 25 rfl W1.heap.size 5 i0 (.int .u8 0) 1 1 underlying25 hi hz0 hz1 hz2 rfl (by decide) (by decide) byteR.one (.slice none 0 0) [] rfl (OwnAt.nil _ _ _ _ _) (.slice aj mj cj') y F rfl HTJ.out hle1 (Nat.le_refl _) ?next)
          case next =>
          intro v1 w2 ho1 hg1 hm1
          obtain ⟨a1, c1, rfl, -, -, -⟩ := ho1.len
          have hat1 := ho1.at (F := fun b => W1.heap.size ≤ b) (fun _ _ h _ => h) (by decide)
          try simp only [List.nil_append] at hat1 ⊢
          obtain ⟨q1, hq1⟩ : ∃ q, q = y.length := ⟨_, rfl⟩
          rw [← hq1] at hat1 ⊢
          have hb2 : Below W1.heap.size W1 w2 := (Bel.refl W1).grown hg1 (Nat.le_refl _) (fun j hj => by cases hj)
          have HAT1 := Lib.hid hat1
          have HB2 := Lib.hid hb2
          have HT2 := Lib.hid (BytesAt.below HT1.out hb2)
          clear ho1 hg1 hm1 hat1 hb2 hq1
          go_wp2_with (at_builtin; refine wpList_append_at rfl (.const (.slice none 0 0)) (.tmp 37) 25 rfl w2.heap.size 5 i0 (.int .u8 0) 1 1 underlying25 hi hz0 hz1 hz2 rfl (by decide) (by decide) byteR.one (.slice none 0 0) [] rfl (OwnAt.nil _ _ _ _ _) (.slice au m cu) x F rfl HT2.out hle2 (Nat.le_refl _) ?next2)
          case next2 =>
          intro v2 w3 ho2 hg2 hm2
          obtain ⟨a2, c2, rfl, -, -, -⟩ := ho2.len
          have hat2 := ho2.at (F := fun b => w2.heap.size ≤ b) (fun _ _ h _ => h) (by decide)
          try simp only [List.nil_append] at hat2 ⊢
          obtain ⟨q2, hq2⟩ : ∃ q, q = x.length := ⟨_, rfl⟩
          rw [← hq2] at hat2 ⊢
          have hb3 : Below w2.heap.size w2 w3 := (Bel.refl w2).grown hg2 (Nat.le_refl _) (fun j hj => by cases hj)
          have HAT2 := Lib.hid hat2
          have HAT1' := Lib.hid (BytesAt.below HAT1.out hb3)
          have HB3 := Lib.hid hb3
          have hs1 := HBW.out.size
          have hs2 := HB2.out.size
          clear ho2 hg2 hm2 hat2 hb3 hq2
          go_wp2_with fail
          refine bodyPost_ret (v := .tuple #[.slice a1 q1 c1, .slice a2 q2 c2, .bool true]) (by simp [results, Try.results32, go_sem]) rfl ?_
          rw [HRR.out]
          exact ⟨a1, q1, c1, a2, q2, c2, rfl, BytesAt.carry HAT1'.out (fun b _ hb => Nat.le_trans hs1 hb) (fun _ _ _ => rfl), BytesAt.carry HAT2.out (fun b _ hb => Nat.le_trans (Nat.le_trans hs1 hs2) hb) (fun _ _ _ => rfl), Bel.call (Bel.call HBW.out HB2.out) HB3.out⟩
    · obtain rfl : n = k := by omega
      have hRR : R = none := by rw [HC.out, hN]; exact clashFrom_end l
      subst hRR
      clear hN
      go_wp2_with fail
      refine bodyPost_ret (v := .tuple #[.slice none 0 0, .slice none 0 0, .bool false]) (by simp [results, Try.results32, go_sem]) rfl ?_
      exact ⟨none, 0, 0, none, 0, 0, rfl, BytesAt.nil _ _, BytesAt.nil _ _, HB.out⟩
end Go.Proofs.Ytndkkgkcbbmnpaa
namespace Go.Pg
open Go.RowKit
theorem witEnc_ex : witEncode [[1], [2]] [[1]] = ([0xc5, 0xc2, 1, 2, 0xc1, 1], 0) := by
  simp [witEncode, rising, It.encode, witI, textsI, It.look, It.looks, It.body, It.wholes, It.whole, sz, It.enc, It.encs, headB, plainB, Lib.compareBytes]
theorem witDec_ex : witDecode [0xc5, 0xc2, 1, 2, 0xc1, 1] = ([[1], [2]], [[1]], 0) := witDecode_back _ _ _ witEnc_ex
theorem dig_ne : digestOf [1] ≠ digestOf [2] := by
  unfold digestOf
  rw [absorb_step _ (padOf [1] _) (by decide), absorb_step _ (padOf [2] _) (by decide), absorb_done _ _ (by decide), absorb_done _ _ (by decide)]
  decide +kernel
theorem clash_ex : clash [[1], [2], [1]] = none := by
  have h1 : firstOf [] (digestOf [1]) = none := rfl
  have h2 : firstOf [[1]] (digestOf [2]) = none := (firstOf_none _ _).2 (by simpa using dig_ne)
  have h3 : firstOf [[1], [2]] (digestOf [1]) = some 0 := by simp [firstOf, List.findIdx?_cons]
  simp [clash, clashFrom, h1, h2, h3]
end Go.Pg
namespace Go.Proofs.Ytndkkgkcbbmnpaa
open Go.RowKit Go.Pg

set_option maxRecDepth 100000 in
set_option maxHeartbeats 4000000 in
theorem alive23_any (w : World) : Calls Try.prog 34 #[] w fun e w' => e = .returned (.bool true) ∧ Below w.heap.size w w' := by
  go_enter Try.func34, Try.ntmps34
  go_wp2_with fail
  have hbytes : BytesAt (fun _ => True) (w.alloc (.cells #[.int .u8 197, .int .u8 194, .int .u8 1, .int .u8 2, .int .u8 193, .int .u8 1] 5)) (.slice (some ⟨w.heap.size, 0, none⟩) 6 6) [0xc5, 0xc2, 1, 2, 0xc1, 1] :=
    (OwnAt.lit w 5 #[.int .u8 197, .int .u8 194, .int .u8 1, .int .u8 2, .int .u8 193, .int .u8 1] [0xc5, 0xc2, 1, 2, 0xc1, 1] (by simp) (by decide)).at (fun _ _ _ _ => trivial) (by decide)
  refine (told_any (fun _ => True) _ _ 6 6 _ hbytes (by omega)).mono ?_
  rintro e w1 ⟨a1, n1, c1, ts, rfl, hr, hso, hb1⟩
  rw [witDec_ex] at hso
  obtain rfl : ts = [[1], [2]] := rising_ext ts [[1], [2]] hso.1 (by decide) (fun x => by rw [hso.2]; simp; exact ⟨fun h => by rcases h with h | h | h <;> simp [h], fun h => by rcases h with h | h <;> simp [h]⟩)
  obtain ⟨a1', c1', hv, -, -, -⟩ := SliceAt.len hr
  simp only [Value.slice.injEq] at hv
  obtain ⟨rfl, rfl, rfl⟩ := hv
  simp only [List.length_cons, List.length_nil, Nat.zero_add, Nat.reduceAdd] at hr ⊢
  have HR := Lib.hid hr
  have HB1 := Lib.hid (Bel.call (Bel.alloc (Bel.refl w) _) hb1)
  clear hbytes hso hr hb1
  go_wp2_with fail
  obtain ⟨W0, hW0⟩ : ∃ W : World, W = ((w1.alloc (.cells #[.int .u8 1] 5)).alloc (.cells #[.int .u8 2] 5)).alloc (.cells #[.int .u8 1] 5) := ⟨_, rfl⟩
  have hs0 : W0.heap.size = w1.heap.size + 3 := by rw [hW0]; simp
  have hb0 : Below w1.heap.size w1 W0 := by rw [hW0]; exact Bel.alloc (Bel.alloc (Bel.alloc (Bel.refl w1) _) _) _
  have g1 : BytesAt (fun _ => True) W0 (.slice (some ⟨w1.heap.size, 0, none⟩) 1 1) [1] := by
    rw [hW0]; exact BytesAt.below (BytesAt.below (byte_new w1 5 1 1 rfl (by omega)) (Bel.alloc (Bel.refl _) _)) (Bel.alloc (Bel.refl _) _)
  have g2 : BytesAt (fun _ => True) W0 (.slice (some ⟨w1.heap.size + 1, 0, none⟩) 1 1) [2] := by
    rw [hW0]
    have := byte_new (w1.alloc (.cells #[.int .u8 1] 5)) 5 2 2 rfl (by omega)
    rw [World.size_alloc] at this
    exact BytesAt.below this (Bel.alloc (Bel.refl _) _)
  have g3 : BytesAt (fun _ => True) W0 (.slice (some ⟨w1.heap.size + 2, 0, none⟩) 1 1) [1] := by
    rw [hW0]
    have := byte_new ((w1.alloc (.cells #[.int .u8 1] 5)).alloc (.cells #[.int .u8 2] 5)) 5 1 1 rfl (by omega)
    rw [World.size_alloc, World.size_alloc] at this
    exact this
  have one : ∀ (u : Value) (x : List UInt8), BytesAt (fun _ => True) W0 u x → Go.Pg.Rows 1 (rowR (fun _ => True) W0) [u] [x] := fun u x g => Go.Pg.Rows.one ⟨u, rfl, g⟩ rfl
  have hrow : Go.Pg.Rows 1 (rowR (fun _ => True) W0) [.slice (some ⟨w1.heap.size, 0, none⟩) 1 1, .slice (some ⟨w1.heap.size + 1, 0, none⟩) 1 1, .slice (some ⟨w1.heap.size + 2, 0, none⟩) 1 1] [[1], [2], [1]] :=
    ((one _ _ g1).append (one _ _ g2)).append (one _ _ g3)
  have hrows := rows_alloc carriedRow (F' := fun _ => True) hrow (by decide) (fun _ _ _ => trivial) trivial 25
  rw [hs0] at hrows
  have hcl := clash_any (fun _ => True) _ _ 3 3 [[1], [2], [1]] hrows (by omega) (by simp)
  rw [clash_ex] at hcl
  have HCL := Lib.hid hcl
  have HW0 := Lib.hid hW0
  have HB0 := Lib.hid hb0
  clear hcl hrows hrow one g1 g2 g3 hs0 hb0 hW0
  try rw [← HW0.out]
  refine HCL.out.mono ?_
  rintro e w2 ⟨b1, m1, d1, b2, m2, d2, rfl, -, -, hb2⟩
  simp only [Option.isSome_none]
  have hb3 : Below w1.heap.size w1 w2 := Bel.call (Bel.alloc HB0.out _) hb2
  have hr2 := RowsAt.below HR.out hb3
  have HB3 := Lib.hid (Bel.call HB1.out hb3)
  rcases SliceAt.split hr2 with ⟨h0, -⟩ | ⟨b, o, rfl, -, -, -⟩
  · cases h0
  obtain ⟨u0, q0, t0⟩ := RowsAt.cell hr2 0 (by simp)
  obtain ⟨u1, q1, t1⟩ := RowsAt.cell hr2 1 (by simp)
  simp only [List.getElem_cons_zero, List.getElem_cons_succ, Nat.add_zero] at q0 q1 t0 t1
  obtain ⟨x0, y0, rfl, -, -, -⟩ := SliceAt.len t0
  obtain ⟨x1, y1, rfl, -, -, -⟩ := SliceAt.len t1
  have s0 := run_string_at (P := Try.prog) t0 25 5 9 Try.underlying25 Try.underlying5 Try.underlying9
  have s1 := run_string_at (P := Try.prog) t1 25 5 9 Try.underlying25 Try.underlying5 Try.underlying9
  simp only [List.length_cons, List.length_nil, Nat.zero_add] at s0 s1 q0 q1
  clear t0 t1 hr2 hb2 hb3
  go_wp2_with fail
  go_ret
  exact ⟨rfl, HB3.out⟩
end Go.Proofs.Ytndkkgkcbbmnpaa
namespace Go.Pg
open Go.RowKit
theorem bel_drewN {w w' : World} (h : ∃ m, w' = w.drewN m) : Below w.heap.size w w' := by
  obtain ⟨m, rfl⟩ := h
  exact ⟨rfl, rfl, rfl, Nat.le_refl _, fun _ _ => rfl⟩
end Go.Pg
namespace Go.Proofs.Ytndkkgkcbbmnpaa
open Go.ChangeShapes Go.WideShapes Go.ChangeAt Go.RowKit Go.Pg

set_option maxRecDepth 100000 in
set_option maxHeartbeats 4000000 in
theorem told_walk (F : Nat → Prop) (w : World) (ab : Option Addr) (nb cb : Nat) (B : List UInt8) (hB : BytesAt F w (.slice ab nb cb) B) (hBl : B.length ≤ 140737488351232) :
    Calls Try.prog 12 #[.slice ab nb cb] w fun e w' => e = .returned (.bool true) ∧ Below w.heap.size w w' := by
  have hnb := (BytesAt.n hB).1
  have hnbl : nb ≤ 140737488351232 := by omega
  obtain ⟨l1, l2, -, -⟩ := witDecode_len B
  have HB := Lib.hid hB
  have HL1 := Lib.hid l1
  have HL2 := Lib.hid l2
  have HBL := Lib.hid hBl
  clear hB hnb l1 l2 hBl
  go_enter Try.func12, Try.ntmps12
  go_wp2_with fail
  refine (alive23_any w).mono ?_
  rintro e w1 ⟨rfl, hb1⟩
  have HB1 := Lib.hid hb1
  clear hb1
  go_wp2_with fail
  refine (told_any F w1 ab nb cb B (BytesAt.below HB.out HB1.out) (by omega)).mono ?_
  rintro e w2 ⟨a1, n1, c1, ts, rfl, hr1, hso, hb2⟩
  have HB2 := Lib.hid (Bel.call HB1.out hb2)
  have HR1 := Lib.hid hr1
  have HSO := Lib.hid hso
  clear hr1 hso hb2
  go_wp2_with fail
  refine (rtold_any F w2 ab nb cb B (BytesAt.below HB.out HB2.out) hnbl).mono ?_
  rintro e w3 ⟨a2, n2, c2, rfl, hr2, hb3⟩
  have hts : ts = puts ((witDecode B).1 ++ (witDecode B).2.1) := rising_ext _ _ HSO.out.1 (puts_rising _) (fun x => by rw [HSO.out.2, puts_mem])
  have hlen : ts.length ≤ 1152921504606846976 := by
    rw [hts]
    have h1 := (puts_small ((witDecode B).1 ++ (witDecode B).2.1)).1
    rw [List.length_append] at h1
    have := HL1.out; have := HL2.out; have := HBL.out
    omega
  rw [← hts] at hr2
  have hcall := sameAll_any (fresh w1) (fresh w2) w3 (.slice a1 n1 c1) (.slice a2 n2 c2) ts ts (RowsAt.below HR1.out hb3) hr2 hlen
  rw [decide_eq_true rfl] at hcall
  have HCALL := Lib.hid hcall
  have HB3 := Lib.hid (Bel.call HB2.out hb3)
  clear hcall hlen hts hr2 hb3
  go_wp2_with fail
  refine HCALL.out.mono ?_
  rintro e w4 ⟨rfl, hq⟩
  have HB4 := Lib.hid (Bel.call HB3.out (bel_drewN hq))
  clear hq
  go_wp2_with fail
  go_ret
  exact ⟨rfl, HB4.out⟩
end Go.Proofs.Ytndkkgkcbbmnpaa
namespace Go.Proofs.Ytndkkgkcbbmnpaa
open Go.RowKit Go.Pg

/-- rows in new memory, which the call owns -/
def CopD (w : World) (l : List (List UInt8)) (e : Ending) (w' : World) : Prop :=
  ∃ a n c, e = .returned (.slice a n c) ∧ OwnList rowR (fun b => w.heap.size ≤ b) w.heap.size w' 25 1 (.slice a n c) l ∧ Below w.heap.size w w'

set_option maxRecDepth 100000 in
set_option maxHeartbeats 8000000 in
theorem copied23_any (F : Nat → Prop) (w : World) (a : Option Addr) (n c : Nat) (l : List (List UInt8)) (h : RowsAt F w (.slice a n c) l) (hlen : n ≤ 5864062014634) (hx : ∀ x ∈ l, x.length ≤ 140737488351232) :
    Calls Try.prog 31 #[.slice a n c] w (CopD w l) := by
  have hn : n = l.length := by
    obtain ⟨a', c', hv, -⟩ := SliceAt.len h
    simp only [Value.slice.injEq] at hv
    exact hv.2.1
  obtain ⟨i0, hi, hz0, hz1, hz2⟩ := info_parts infoRow
  obtain ⟨i8, hi8, hy0, hy1, hy2⟩ := info_parts infoU8
  have HN := Lib.hid hn
  have HX := Lib.hid hx
  have HH := Lib.hid h
  clear hn hx h
  go_enter Try.func31, Try.ntmps31
  go_wp2
  go_loopw [3, 7] (fun ov i wr => ∃ (k : Nat) (a2 : Option Addr) (m2 c2 : Nat), k ≤ n ∧ i = .int .i64 k ∧ ov = .slice a2 m2 c2 ∧ Hid (OwnList rowR (fun b => w.heap.size ≤ b) w.heap.size wr 25 1 (.slice a2 m2 c2) (l.take k)) ∧ Hid (Below w.heap.size w wr)) (fun _ i _ => n - (intOf i).toNat)
  case atStart => exact ⟨0, none, 0, 0, Nat.zero_le _, rfl, rfl, Lib.hid OwnList.nil, Lib.hid (Bel.refl w)⟩
  case round =>
    obtain ⟨k, a2, m2, c2, hk, rfl, rfl, HO2, HB2⟩ := hrel
    by_cases hlt : k < n
    · rcases SliceAt.split HH.out with ⟨_, h0⟩ | ⟨b, o, rfl, -, -, -⟩
      · omega
      have hkl : k < l.length := by have := HN.out; omega
      obtain ⟨u, c0, t0⟩ := RowsAt.cell (RowsAt.below HH.out HB2.out) k hkl
      have hxl := HX.out l[k] (List.getElem_mem _)
      have htk : l.take (k + 1) = l.take k ++ [l[k]] := List.take_succ_eq_append_getElem hkl
      obtain ⟨x, hxx⟩ : ∃ x, x = l[k] := ⟨_, rfl⟩
      rw [← hxx] at hxl t0 htk
      obtain ⟨au, cu, rfl, -, -, -⟩ := SliceAt.len t0
      obtain ⟨mx, hmx⟩ : ∃ m, m = x.length := ⟨_, rfl⟩
      rw [← hmx] at c0 t0
      obtain ⟨W2, hW2⟩ : ∃ W' : World, W' = wr.alloc (.cells #[] 5) := ⟨_, rfl⟩
      have hb22 : Below wr.heap.size wr W2 := by rw [hW2]; exact Bel.alloc (Bel.refl wr) _
      have hown8 : OwnAt W2 wr.heap.size 5 1 byteR (.slice (some ⟨wr.heap.size, 0, none⟩) 0 0) ([] : List UInt8) := by
        rw [hW2]; exact ⟨[], World.ownsRow_made wr #[] 0 (Nat.le_refl _) (by decide) rfl, Rows.nil _ _⟩
      have hsrc8 := BytesAt.below t0 hb22
      have hle8 : (([] : List UInt8).length + x.length) * 1 ≤ 140737488355328 := by simp; omega
      have HW2 := Lib.hid hW2
      have HO22 := Lib.hid (HO2.out.call carriedRow hb22)
      have HB22 := Lib.hid hb22
      have hs22 := hb22.size
      have HOWN8 := Lib.hid hown8
      have HSRC8 := Lib.hid hsrc8
      have HLE8 := Lib.hid hle8
      have HTK := Lib.hid htk
      have hblt := cell_lt c0
      have hkz : (0 : Int) ≤ (k : Int) := by omega
      have hkn : (k : Int) < (n : Int) := by omega
      clear hb22 hown8 hsrc8 hle8 hW2 htk hxl hxx t0 hmx
      go_wp2_with (at_builtin; (try rw [← HW2.out]); refine wpList_append_at rfl (.tmp 11) (.tmp 15) 25 rfl wr.heap.size 5 i8 (.int .u8 0) 1 1 underlying25 hi8 hy0 hy1 hy2 rfl (by decide) (by decide) byteR.one (.slice (some ⟨wr.heap.size, 0, none⟩) 0 0) [] rfl HOWN8.out _ x _ rfl HSRC8.out HLE8.out hs22 ?nextb1)
      case nextb1 =>
      intro v3 w3 ho hg hm
      have hown8 := HOWN8.out.own
      obtain ⟨a3, c3, hv3, -, -, -⟩ := ho.len
      have hat3 := ho.at (F := fun x => wr.heap.size ≤ x) (fun _ _ h _ => h) (by decide)
      obtain ⟨m3, hm3⟩ : ∃ m, m = x.length := ⟨_, rfl⟩
      subst hv3
      try simp only [List.nil_append] at hat3 ⊢
      rw [← hm3] at hat3 ⊢
      have hb3 : Below wr.heap.size wr w3 := HB22.out.grown hg HB22.out.size (fun j hj => (hown8 j hj).1)
      have ho3 := HO2.out.call carriedRow hb3
      have hown2 := HO2.out.own
      obtain ⟨R3, j1, j2, j3, j4⟩ := ho3.push carriedRow (H := fun x => wr.heap.size ≤ x) (cs := [.slice a3 m3 c3]) (x := x) ⟨_, rfl, hat3⟩ rfl (by decide) (fun y _ hy => ⟨Nat.le_trans HB2.out.size hy, fun e => by have := (hown2 y e).2; omega⟩) 25
      have hle3 : ((l.take k).length + [x].length) * 24 ≤ 140737488355328 := by simp; omega
      have hbase3 : w.heap.size ≤ (w3.alloc (.cells [.slice a3 m3 c3].toArray 25)).heap.size := by have := HB2.out.size; have := hb3.size; simp; omega
      have HB3 := Lib.hid (Bel.call HB2.out hb3)
      have HJ5 := Lib.hid j1
      have HJ6 := Lib.hid j2
      have HJ7 := Lib.hid j3
      have HJ8 := Lib.hid j4
      have HL3 := Lib.hid hle3
      have HBASE3 := Lib.hid hbase3
      clear ho hg hm hown8 hat3 hb3 ho3 j1 j2 j3 j4 hle3 hbase3 hown2 hm3 c0
      go_wp2_with (at_builtin; refine wpList_append_at rfl (.tmp 10) (.tmp 17) 22 rfl w.heap.size 25 i0 (.slice none 0 0) 1 24 underlyingRows hi hz0 hz1 hz2 rfl (by decide) (by decide) HJ5.out (.slice a2 m2 c2) (l.take k) rfl HJ6.out _ [x] (fun _ => True) rfl HJ7.out HL3.out HBASE3.out ?nextc1)
      case nextc1 =>
      intro v4 w4 ho hg hm
      have ho4 := HJ8.out _ _ ho hg hm
      have hown6 := OwnAt.own HJ6.out
      rw [← HTK.out] at ho4
      obtain ⟨a4, c4, hv4, -, -, -⟩ := ho4.len
      obtain ⟨m4, hm4⟩ : ∃ m, m = (l.take (k + 1)).length := ⟨_, rfl⟩
      rw [← hm4] at hv4
      subst hv4
      have hb4 : Below w.heap.size w w4 := (Bel.alloc HB3.out _).grown hg (by have := HB3.out.size; simp; omega) (fun j hj => (hown6 j hj).1)
      have HO4 := Lib.hid ho4
      have HB4 := Lib.hid hb4
      clear ho hg hm ho4 hown6 hm4 hb4
      go_wp2_with fail
      go_roundw
      case rel => exact ⟨k + 1, a4, m4, c4, by omega, num_eq (by omega), rfl, HO4, HB4⟩
      case measure => simp [intOf]; omega
    · obtain rfl : n = k := by omega
      go_wp2_with fail
      go_ret
      exact ⟨a2, m2, c2, rfl, by have h1 := HO2.out; rw [List.take_of_length_le (by have := HN.out; omega)] at h1; exact h1, HB2.out⟩

set_option maxRecDepth 100000 in
set_option maxHeartbeats 1000000 in
theorem in23_any (F G : Nat → Prop) (w : World) (u v : Value) (A : List (List UInt8)) (y : List UInt8) (h : RowsAt F w u A) (k : BytesAt G w v y) (hl : A.length ≤ 1152921504606846976) :
    Calls Try.prog 37 #[u, v] w fun e w' => e = .returned (.bool (decide (y ∈ A))) ∧ ∃ m, w' = w.drewN m := by
  obtain ⟨a, c, rfl, -, -, -⟩ := SliceAt.len h
  obtain ⟨a', c', rfl, -, -, -⟩ := SliceAt.len k
  obtain ⟨n, hn⟩ : ∃ n, n = A.length := ⟨_, rfl⟩
  obtain ⟨n', hn'⟩ : ∃ n, n = y.length := ⟨_, rfl⟩
  rw [← hn] at h hl ⊢
  rw [← hn'] at k ⊢
  have HN := Lib.hid hn
  have HH := Lib.hid h
  have HK := Lib.hid k
  clear hn hn' h k
  go_enter Try.func37, Try.ntmps37
  go_wp2
  go_loopw [8] (fun i wr => ∃ j : Nat, j ≤ n ∧ i = .int .i64 j ∧ Hid (y ∉ A.take j) ∧ Hid (∃ m, wr = w.drewN m)) (fun i _ => n - (intOf i).toNat)
  case atStart => exact ⟨0, Nat.zero_le _, rfl, Lib.hid (by simp), Lib.hid ⟨0, rfl⟩⟩
  case round =>
    obtain ⟨j, hj, rfl, HT, HM⟩ := hrel
    have hwr : RowsAt F wr (.slice a n c) A ∧ BytesAt G wr (.slice a' n' c') y := by
      obtain ⟨m, hm⟩ := HM.out
      rw [hm]; exact ⟨RowsAt.carry HH.out (fun _ _ x => x) (fun _ _ _ => rfl), BytesAt.carry HK.out (fun _ _ x => x) (fun _ _ _ => rfl)⟩
    have hN := HN.out
    by_cases hlt : j < n
    · rcases SliceAt.split hwr.1 with ⟨_, h0⟩ | ⟨b, o, rfl, -, -, -⟩
      · omega
      obtain ⟨u1, c1, t1⟩ := RowsAt.cell hwr.1 j (by omega)
      have hst : A.take (j + 1) = A.take j ++ [A[j]'(by omega)] := List.take_succ_eq_append_getElem (by omega)
      have hin : A[j]'(by omega) ∈ A := List.getElem_mem _
      obtain ⟨x1, hx1⟩ : ∃ x, x = A[j]'(by omega) := ⟨_, rfl⟩
      rw [← hx1] at hst hin
      rw [← hx1] at t1
      obtain ⟨d1, e1, rfl, -, -, -⟩ := SliceAt.len t1
      have s1 := fun nq => run_string_at (P := Try.prog) (BytesAt.draws t1 nq) 25 5 9 Try.underlying25 Try.underlying5 Try.underlying9
      have s2 := fun nq => run_string_at (P := Try.prog) (BytesAt.draws hwr.2 nq) 25 5 9 Try.underlying25 Try.underlying5 Try.underlying9
      have HST := Lib.hid hst
      have HIN := Lib.hid hin
      have hjn : (j : Int) < (n : Int) := by omega
      clear hst hin hx1 hwr hN t1
      by_cases hxy : x1 = y
      · subst hxy
        have hd : decide (x1 ∈ A) = true := by simp [HIN.out]
        have HD := Lib.hid hd
        clear hd
        go_wp2
        go_quiet (fail)
        go_wp2
        go_ret
        exact ⟨ret_bool HD.out.symm, (by obtain ⟨m, hm⟩ := HM.out; rw [hm]; exact ⟨_, World.drewN_drewN _ _ _⟩)⟩
      · have hb1 : (x1 == y) = false := by simp [hxy]
        have HNE : Hid (y ∉ A.take (j + 1)) := Lib.hid (by rw [HST.out]; simp only [List.mem_append, List.mem_singleton, not_or]; exact ⟨HT.out, fun e => hxy e.symm⟩)
        clear hxy
        go_wp2
        go_quiet (fail)
        go_wp2
        go_roundw
        case rel => exact ⟨j + 1, by omega, num_eq (by omega), HNE, Lib.hid (by obtain ⟨m, hm⟩ := HM.out; rw [hm]; exact ⟨_, World.drewN_drewN _ _ _⟩)⟩
        case measure => simp [intOf]; omega
    · obtain rfl : j = n := by omega
      have hd : decide (y ∈ A) = false := by
        have := HT.out
        rw [List.take_of_length_le (by omega)] at this
        simp [this]
      have HD := Lib.hid hd
      clear hd hwr hN
      go_wp2
      go_ret
      exact ⟨ret_bool HD.out.symm, HM.out⟩
end Go.Proofs.Ytndkkgkcbbmnpaa
namespace Go.Proofs.Ytndkkgkcbbmnpaa
open Go.RowKit Go.Pg

set_option maxRecDepth 100000 in
set_option maxHeartbeats 8000000 in
theorem rclash_any (F : Nat → Prop) (w : World) (a : Option Addr) (n c : Nat) (l : List (List UInt8)) (h : RowsAt F w (.slice a n c) l) (hlen : n ≤ 5864062014634) (hx : ∀ x ∈ l, x.length ≤ 140737488351232) :
    Calls Try.prog 33 #[.slice a n c] w (ClashD F w (clash l)) := by
  have hn : n = l.length := by
    obtain ⟨a', c', hv, -⟩ := SliceAt.len h
    simp only [Value.slice.injEq] at hv
    exact hv.2.1
  obtain ⟨R, hR⟩ : ∃ R, R = clash l := ⟨_, rfl⟩
  have HN := Lib.hid hn
  have HX := Lib.hid hx
  have HR := Lib.hid hR
  have HH := Lib.hid h
  rw [← hR]
  clear hn hx hR h
  go_enter Try.func33, Try.ntmps33
  go_wp2
  go_loopw [5] (fun i wr => ∃ k : Nat, k ≤ n ∧ i = .int .i64 k ∧ Hid (R = clashFrom (l.take k) (l.drop k)) ∧ Hid (Below w.heap.size w wr)) (fun i _ => n - (intOf i).toNat)
  case atStart => exact ⟨0, Nat.zero_le _, rfl, Lib.hid (by rw [HR.out]; rfl), Lib.hid (Bel.refl w)⟩
  case round =>
    obtain ⟨k, hk, rfl, HC, HB⟩ := hrel
    have hN := HN.out
    by_cases hlt : k < n
    · rcases SliceAt.split HH.out with ⟨_, h0⟩ | ⟨b, o, rfl, -, -, -⟩
      · omega
      have hkl : k < l.length := by omega
      have hnx := clashFrom_next l k hkl
      obtain ⟨u, cuw, tu⟩ := RowsAt.cell HH.out k hkl
      have hxl := HX.out l[k] (List.getElem_mem _)
      obtain ⟨x, hxx⟩ : ∃ x, x = l[k] := ⟨_, rfl⟩
      rw [← hxx] at hnx tu hxl
      obtain ⟨au, cu, rfl, -, -, -⟩ := SliceAt.len tu
      obtain ⟨mu, hmu⟩ : ∃ m, m = x.length := ⟨_, rfl⟩
      rw [← hmu] at tu cuw hxl
      obtain ⟨D, hD⟩ : ∃ D, D = digestOf x := ⟨_, rfl⟩
      have hDl : D.length = 32 := by rw [hD]; exact digestOf_length _
      have hcallD : ∀ W : World, Below w.heap.size w W → Calls Try.prog 36 #[.slice au mu cu] W (DigD W D) := fun W hb => by rw [hD]; exact rof_any F W au mu cu x (BytesAt.below tu hb) hxl
      rw [← hD] at hnx
      have HNX := Lib.hid hnx
      have HXX := Lib.hid hxx
      have HDD := Lib.hid hD
      have HCD0 := Lib.hid hcallD
      have HCU := Lib.hid cuw
      have HTU := Lib.hid tu
      have HMU := Lib.hid hmu
      have hkz : (0 : Int) ≤ (k : Int) := by omega
      have hkn : (k : Int) < (n : Int) := by omega
      obtain ⟨w0, rfl⟩ : ∃ W, W = wr := ⟨_, rfl⟩
      clear hnx hxx hD hcallD cuw tu hmu hN
      go_wp2_with fail
      go_loopw [6] (fun s wr => ∃ j : Nat, j ≤ k ∧ s = .int .i64 j ∧ Hid (∀ i, (hi : i < j) → ∀ hl : i < l.length, digestOf l[i] ≠ D) ∧ Hid (Below w.heap.size w wr)) (fun s _ => k - (intOf s).toNat)
      case atStart => exact ⟨0, Nat.zero_le _, rfl, Lib.hid (fun i hi => absurd hi (Nat.not_lt_zero _)), HB⟩
      case round =>
        obtain ⟨j, hj, rfl, HO, HB2⟩ := hrel
        by_cases hjk : j < k
        · have hjl : j < l.length := by omega
          obtain ⟨uj, cjw, tj⟩ := RowsAt.cell HH.out j hjl
          have hyl := HX.out l[j] (List.getElem_mem _)
          obtain ⟨y, hyy⟩ : ∃ y, y = l[j] := ⟨_, rfl⟩
          rw [← hyy] at tj hyl
          obtain ⟨aj, cj, rfl, -, -, -⟩ := SliceAt.len tj
          obtain ⟨mj, hmj⟩ : ∃ m, m = y.length := ⟨_, rfl⟩
          rw [← hmj] at tj cjw hyl
          obtain ⟨E, hE⟩ : ∃ D, D = digestOf y := ⟨_, rfl⟩
          have hEl : E.length = 32 := by rw [hE]; exact digestOf_length _
          have hcallE : ∀ W : World, Below wr.heap.size wr W → Calls Try.prog 36 #[.slice aj mj cj] W (DigD W E) := fun W hb => by rw [hE]; exact rof_any F W aj mj cj y (BytesAt.below tj (Bel.call HB2.out hb)) hyl
          have hcallD : ∀ W : World, Below wr.heap.size wr W → Calls Try.prog 36 #[.slice au mu cu] W (DigD W D) := fun W hb => HCD0.out W (Bel.call HB2.out hb)
          obtain ⟨q, hq⟩ : ∃ q, q = decide (E = D) := ⟨_, rfl⟩
          have heq : ∀ W : World, (Op.equalIn 10000 37 (.agg (cellsOf E)) (.agg (cellsOf D))).run Try.prog W = .ok q W := fun W => by rw [hq]; exact digEq E D hEl hDl W
          obtain ⟨S, hS⟩ : ∃ S : World → Prop, S = fun W => Below wr.heap.size wr W := ⟨_, rfl⟩
          have hkp : ∀ W : World, Below wr.heap.size wr W → S W := fun W hb => by rw [hS]; exact hb
          have hgt : ∀ W : World, S W → W.cell? ⟨b, o + j, none⟩ = some (.slice aj mj cj) ∧ W.cell? ⟨b, o + k, none⟩ = some (.slice au mu cu) := fun W hb => by
            rw [hS] at hb
            exact ⟨cell_below (Bel.call HB2.out hb) cjw, cell_below (Bel.call HB2.out hb) HCU.out⟩
          have HCE := Lib.hid hcallE
          have HCD := Lib.hid hcallD
          have HEQ := Lib.hid heq
          have HKP := Lib.hid hkp
          have HGT := Lib.hid hgt
          have HQ := Lib.hid hq
          have HYY := Lib.hid hyy
          have HEE := Lib.hid hE
          have HCJ := Lib.hid cjw
          have HTJ := Lib.hid tj
          have HMJ := Lib.hid hmj
          have hjz : (0 : Int) ≤ (j : Int) := by omega
          have hjn : (j : Int) < (n : Int) := by omega
          have hjki : (j : Int) < (k : Int) := by omega
          clear hcallE hcallD heq hkp hgt hq hyy hE cjw tj hmj hS
          go_wp2_with fail
          go_cut [28] (fun s28 wx => s28 = .bool q ∧ Hid (Below wr.heap.size wr wx))
          case first =>
            refine wp_region_held_drew (S := S) (by kernel_rfl) (HKP.out _ (Bel.drew (Bel.refl wr))) (fun hHeld => ?_)
            refine wpAnyH_take (i := 0) (op_at rfl) (by kernel_rfl) (by kernel_rfl) (by kernel_rfl) (fun _ _ _ h => h) (Or.inl ⟨by rfl, by intro W hSw; go_simp; (try with_reducible rfl)⟩) hHeld ?_
            simp only [Act.put, List.setIfInBounds_toArray, List.set_cons_zero, List.set_cons_succ]
            refine wpAnyH_take (i := 1) (op_at rfl) (by kernel_rfl) (by kernel_rfl) (by kernel_rfl) (fun _ _ _ h => h) (Or.inl ⟨by rfl, by intro W hSw; go_simp; (try with_reducible rfl)⟩) hHeld ?_
            simp only [Act.put, List.setIfInBounds_toArray, List.set_cons_zero, List.set_cons_succ]
            refine wpAnyH_take (i := 2) (op_at rfl) (by kernel_rfl) (by kernel_rfl) (by kernel_rfl) (fun _ _ _ h => h) (Or.inl ⟨by rfl, by intro W hSw; go_simp; (try with_reducible rfl)⟩) hHeld ?_
            simp only [Act.put, List.setIfInBounds_toArray, List.set_cons_zero, List.set_cons_succ]
            refine wpAnyH_take (i := 3) (op_at rfl) (by kernel_rfl) (by kernel_rfl) (by kernel_rfl) (fun _ _ _ h => h) (Or.inl ⟨by rfl, by intro W hSw; have hc := (HGT.out W hSw).1; go_simp; (try with_reducible rfl)⟩) hHeld ?_
            simp only [Act.put, List.setIfInBounds_toArray, List.set_cons_zero, List.set_cons_succ]
            refine wpAnyH_take (i := 5) (op_at rfl) (by kernel_rfl) (by kernel_rfl) (by kernel_rfl) (fun _ _ _ h => h) (Or.inl ⟨by rfl, by intro W hSw; go_simp; (try with_reducible rfl)⟩) hHeld ?_
            simp only [Act.put, List.setIfInBounds_toArray, List.set_cons_zero, List.set_cons_succ]
            refine wpAnyH_take (i := 6) (op_at rfl) (by kernel_rfl) (by kernel_rfl) (by kernel_rfl) (fun _ _ _ h => h) (Or.inl ⟨by rfl, by intro W hSw; go_simp; (try with_reducible rfl)⟩) hHeld ?_
            simp only [Act.put, List.setIfInBounds_toArray, List.set_cons_zero, List.set_cons_succ]
            refine wpAnyH_take (i := 7) (op_at rfl) (by kernel_rfl) (by kernel_rfl) (by kernel_rfl) (fun _ _ _ h => h) (Or.inl ⟨by rfl, by intro W hSw; go_simp; (try with_reducible rfl)⟩) hHeld ?_
            simp only [Act.put, List.setIfInBounds_toArray, List.set_cons_zero, List.set_cons_succ]
            refine wpAnyH_take (i := 8) (op_at rfl) (by kernel_rfl) (by kernel_rfl) (by kernel_rfl) (fun _ _ _ h => h) (Or.inl ⟨by rfl, by intro W hSw; have hc := (HGT.out W hSw).2; go_simp; (try with_reducible rfl)⟩) hHeld ?_
            simp only [Act.put, List.setIfInBounds_toArray, List.set_cons_zero, List.set_cons_succ]
            refine wpAnyH_ready (rs := [4]) (by kernel_rfl) (by simp) (AllReadyH.cons (op_at rfl) (fun K hK => ?_) (AllReadyH.nil))
            clear hHeld
            go_simp
            go_at_call_of 36 (Value.slice aj mj cj)
            refine ((HCE.out _ (Bel.drew (Bel.refl wr))).mono ?_)
            rintro e Va ⟨rfl, hb⟩
            have hBVa : Below wr.heap.size wr Va := Bel.call (Bel.drew (Bel.refl wr)) hb
            clear hb
            go_wp2_with fail
            refine hK.out _ _ (HKP.out _ hBVa) (fun hHeld => ?_)
            clear hK K
            try simp only [Act.put, List.setIfInBounds_toArray, List.set_cons_zero, List.set_cons_succ]
            refine wpAnyH_ready (rs := [9]) (by kernel_rfl) (by simp) (AllReadyH.cons (op_at rfl) (fun K hK => ?_) (AllReadyH.nil))
            clear hHeld
            go_simp
            go_at_call_of 36 (Value.slice au mu cu)
            refine ((HCD.out _ (hBVa)).mono ?_)
            rintro e Vb ⟨rfl, hb⟩
            have hBVb : Below wr.heap.size wr Vb := Bel.call (hBVa) hb
            clear hb
            go_wp2_with fail
            refine hK.out _ _ (HKP.out _ hBVb) (fun hHeld => ?_)
            clear hK K
            try simp only [Act.put, List.setIfInBounds_toArray, List.set_cons_zero, List.set_cons_succ]
            refine wpAnyH_take (i := 10) (op_at rfl) (by kernel_rfl) (by kernel_rfl) (by kernel_rfl) (fun _ _ _ h => h) (yieldsIf_eql_agg (by rfl) 37 (.tmp 22) (.tmp 27) 37 rfl (cellsOf E) (cellsOf D) rfl rfl (by kernel_rfl) q HEQ.out) hHeld ?_
            simp only [Act.put, List.setIfInBounds_toArray, List.set_cons_zero, List.set_cons_succ]
            refine wpAnyH_done (by kernel_rfl) ?_ _
            go_wp2_with fail
            go_meet
            exact ⟨rfl, Lib.hid hBVb⟩
          case rest =>
            obtain ⟨rfl, HX2⟩ := hcut
            have hbc := Bel.call HB2.out HX2.out
            have HBC := Lib.hid hbc
            have HOLD := HO.out
            cases q with
            | false =>
              have hne : E ≠ D := of_decide_eq_false HQ.out.symm
              have HO2 : Hid (∀ i, (hi : i < j + 1) → ∀ hl : i < l.length, digestOf l[i] ≠ D) := Lib.hid fun i hi hl => by
                by_cases hij : i = j
                · subst hij; rw [← HYY.out, ← HEE.out]; exact hne
                · exact HO.out i (by omega) hl
              clear hne hbc HOLD
              go_wp2_with fail
              go_roundw
              case rel => exact ⟨j + 1, by omega, num_eq (by omega), HO2, HBC⟩
              case measure => simp [intOf]; omega
            | true =>
              have he : E = D := of_decide_eq_true HQ.out.symm
              have hfirst : firstOf (l.take k) D = some j := by
                unfold firstOf
                rw [List.findIdx?_eq_some_iff_getElem]
                refine ⟨by rw [List.length_take]; omega, ?_, fun i hi => ?_⟩
                · rw [List.getElem_take, ← HYY.out, ← HEE.out]; simpa using he
                · have := HO.out i hi (by omega)
                  rw [List.getElem_take]; simpa using this
              have hgd : l.getD j [] = y := by rw [List.getD_eq_getElem?_getD, List.getElem?_eq_getElem (by omega), HYY.out]; rfl
              have hnx := HNX.out
              rw [hfirst] at hnx
              simp only [hgd] at hnx
              have c1 := cell_below hbc HCJ.out
              have c2 := cell_below hbc HCU.out
              have s1 := fun nq => run_string_at (P := Try.prog) (BytesAt.draws (BytesAt.below HTJ.out hbc) nq) 25 5 9 Try.underlying25 Try.underlying5 Try.underlying9
              have s2 := fun nq => run_string_at (P := Try.prog) (BytesAt.draws (BytesAt.below HTU.out hbc) nq) 25 5 9 Try.underlying25 Try.underlying5 Try.underlying9
              have HNX2 := Lib.hid hnx
              clear he hfirst hgd hnx hbc HOLD
              by_cases hxy : y = x
              · subst hxy
                have hC2 : R = clashFrom (l.take (k + 1)) (l.drop (k + 1)) := by rw [HC.out, HNX2.out, if_pos rfl]
                have HC2 := Lib.hid hC2
                clear hC2
                go_wp2
                go_quiet (fail)
                go_wp2
                go_roundw
                case rel => exact ⟨k + 1, by omega, num_eq (by omega), HC2, Lib.hid (by have := HBC.out; exact ⟨this.os, this.tape, this.output, this.size, this.block⟩)⟩
                case measure => simp [intOf]; omega
              · have hb1 : (y == x) = false := by simp [hxy]
                have hRR : R = some (y, x) := by rw [HC.out, HNX2.out, if_neg hxy]
                have HRR := Lib.hid hRR
                clear hxy hRR
                go_wp2
                go_quiet (fail)
                go_wp2
                go_quiet (fail)
                go_wp2
                refine bodyPost_ret (v := .tuple #[.slice aj mj cj, .slice au mu cu, .bool true]) (by simp [results, Try.results33, go_sem]) rfl ?_
                rw [HRR.out]
                refine ⟨aj, mj, cj, au, mu, cu, rfl, BytesAt.carry HTJ.out (fun _ _ x => x) (fun b _ hlt => HBC.out.block b hlt), BytesAt.carry HTU.out (fun _ _ x => x) (fun b _ hlt => HBC.out.block b hlt), ?_⟩
                have := HBC.out
                exact ⟨this.os, this.tape, this.output, this.size, this.block⟩
        · obtain rfl : j = k := by omega
          have hnone : firstOf (l.take j) D = none := by
            rw [firstOf_none]
            intro z hz
            obtain ⟨i, hi, rfl⟩ := List.getElem_of_mem hz
            rw [List.length_take] at hi
            rw [List.getElem_take]
            exact HO.out i (by omega) (by omega)
          have hC2 : R = clashFrom (l.take (j + 1)) (l.drop (j + 1)) := by rw [HC.out, HNX.out, hnone]
          have HC2 := Lib.hid hC2
          clear hnone hC2
          go_wp2_with fail
          go_roundw
          case rel => exact ⟨j + 1, by omega, num_eq (by omega), HC2, HB2⟩
          case measure => simp [intOf]; omega
    · obtain rfl : n = k := by omega
      have hRR : R = none := by rw [HC.out, hN]; exact clashFrom_end l
      subst hRR
      clear hN
      go_wp2_with fail
      refine bodyPost_ret (v := .tuple #[.slice none 0 0, .slice none 0 0, .bool false]) (by simp [results, Try.results33, go_sem]) rfl ?_
      exact ⟨none, 0, 0, none, 0, 0, rfl, BytesAt.nil _ _, BytesAt.nil _ _, HB.out⟩
end Go.Proofs.Ytndkkgkcbbmnpaa
namespace Go.Proofs.Ytndkkgkcbbmnpaa
open Go.ChangeShapes Go.WideShapes Go.ChangeAt Go.RowKit Go.Pg

set_option maxRecDepth 100000 in
set_option maxHeartbeats 8000000 in
theorem clash_walk (F0 : Nat → Prop) (w : World) (a : Option Addr) (n c : Nat) (l : List (List UInt8)) (h0 : RowsAt F0 w (.slice a n c) l) (hnl : n ≤ 5864062014634) (hx : ∀ x ∈ l, x.length ≤ 140737488351232) :
    Calls Try.prog 10 #[.slice a n c] w fun e w' => e = .returned (.bool true) ∧ Below w.heap.size w w' := by
  have h : RowsAt (fun b => b < w.heap.size) w (.slice a n c) l := RowsAt.carry h0 (fun b hlt _ => hlt) (fun _ _ _ => rfl)
  have hn : n = l.length := by
    obtain ⟨a', c', hv, -⟩ := SliceAt.len h
    simp only [Value.slice.injEq] at hv
    exact hv.2.1
  obtain ⟨R, hR⟩ : ∃ R, R = clash l := ⟨_, rfl⟩
  obtain ⟨q, hq⟩ : ∃ q, q = R.isSome := ⟨_, rfl⟩
  obtain ⟨X, hX⟩ : ∃ X, X = R.elim ([] : List UInt8) (·.1) := ⟨_, rfl⟩
  obtain ⟨Y, hY⟩ : ∃ Y, Y = R.elim ([] : List UInt8) (·.2) := ⟨_, rfl⟩
  have HN := Lib.hid hn
  have HX := Lib.hid hx
  have HH := Lib.hid h
  have HR := Lib.hid hR
  have HQ := Lib.hid hq
  have HXX := Lib.hid hX
  have HYY := Lib.hid hY
  clear h h0 hn hx hR hq hX hY
  go_enter Try.func10, Try.ntmps10
  go_wp2_with fail
  refine (copied23_any _ w a n c l HH.out (by omega) HX.out).mono ?_
  rintro e w1 ⟨a1, n1, c1, rfl, ho1, hb1⟩
  have hrow1 : RowsAt (fun b => b < w1.heap.size) w1 (.slice a1 n1 c1) l := RowsAt.carry (ho1.at carriedRow (G' := fun _ => True) (fun _ _ _ => trivial) (fun _ _ _ => trivial) (by decide)) (fun b hlt _ => hlt) (fun _ _ _ => rfl)
  have hn1 : n1 = l.length := by
    obtain ⟨a', c', hv, -⟩ := SliceAt.len hrow1
    simp only [Value.slice.injEq] at hv
    exact hv.2.1
  have hcall := clash_any _ w1 a1 n1 c1 l hrow1 (by have := HN.out; omega) HX.out
  rw [← HR.out] at hcall
  have HCALL := Lib.hid hcall
  have HROW1 := Lib.hid hrow1
  have HB1 := Lib.hid hb1
  have HN1 := Lib.hid hn1
  clear ho1 hb1 hrow1 hn1 hcall
  go_wp2_with fail
  refine HCALL.out.mono ?_
  rintro e w2 ⟨a2, n2, c2, a3, n3, c3, rfl, h2, h3, hb2⟩
  rw [← HQ.out]
  rw [← HXX.out] at h2
  rw [← HYY.out] at h3
  have hcall := rclash_any _ w2 a n c l (RowsAt.below HH.out (Bel.call HB1.out hb2)) (by omega) HX.out
  rw [← HR.out] at hcall
  have HCALL2 := Lib.hid hcall
  have HT2 : Hid (BytesAt (fun b => w1.heap.size ≤ b ∧ b < w2.heap.size) w2 (.slice a2 n2 c2) X) := Lib.hid (BytesAt.carry h2 (fun b hlt hb => ⟨hb, hlt⟩) (fun _ _ _ => rfl))
  have HT3 := Lib.hid h3
  have HB2 := Lib.hid hb2
  clear hcall h2 h3 hb2 HCALL
  go_wp2_with fail
  refine HCALL2.out.mono ?_
  rintro e w3 ⟨a4, n4, c4, a5, n5, c5, rfl, h4, h5, hb3⟩
  rw [← HQ.out]
  rw [← HXX.out] at h4
  rw [← HYY.out] at h5
  have HT4 := Lib.hid h4
  have HT5 := Lib.hid h5
  have HB3 := Lib.hid hb3
  clear h4 h5 hb3 HCALL2
  go_wp2_with fail
  refine (alive23_any w3).mono ?_
  rintro e w4 ⟨rfl, hb4⟩
  have h23 := Bel.call HB3.out hb4
  have t2 := BytesAt.below HT2.out h23
  have t3 := BytesAt.below HT3.out h23
  have t4 := BytesAt.below HT4.out hb4
  have t5 := BytesAt.below HT5.out hb4
  have s1 := run_string_at (P := Try.prog) t2 25 5 9 Try.underlying25 Try.underlying5 Try.underlying9
  have s2 := run_string_at (P := Try.prog) t3 25 5 9 Try.underlying25 Try.underlying5 Try.underlying9
  have s3 := run_string_at (P := Try.prog) t4 25 5 9 Try.underlying25 Try.underlying5 Try.underlying9
  have s4 := run_string_at (P := Try.prog) t5 25 5 9 Try.underlying25 Try.underlying5 Try.underlying9
  have hn2 : n2 = X.length ∧ n2 ≤ 9223372036854775807 := by
    obtain ⟨a', c', hv, h1, h2, -⟩ := SliceAt.len t2
    simp only [Value.slice.injEq] at hv
    unfold maxLen at h2
    omega
  have hn3 : n3 = Y.length := (BytesAt.n t3).1
  have hn4 : n4 = X.length := (BytesAt.n t4).1
  have hn5 : n5 = Y.length := (BytesAt.n t5).1
  rw [← hn2.1] at hn4
  rw [← hn3] at hn5
  subst hn4
  subst hn5
  have hh4 : w2.heap.size ≤ w4.heap.size := h23.size
  have HT2b := Lib.hid t2
  have HB24 := Lib.hid h23
  have HB04 := Lib.hid (Bel.call (Bel.call HB1.out HB2.out) h23)
  have HROW4 := Lib.hid (RowsAt.below HROW1.out (Bel.call HB2.out h23))
  have HSZ : Hid (w.heap.size ≤ w1.heap.size ∧ w1.heap.size ≤ w2.heap.size) := Lib.hid ⟨HB1.out.size, HB2.out.size⟩
  have HN2 := Lib.hid hn2.1
  have hn2b := hn2.2
  clear h23 t2 t3 t4 t5 hb4 hn2 hn3 HT2 HT3 HT4 HT5
  cases q
  all_goals
    go_wp2_with fail
    clear s1 s2 s3 s4
    go_loopw [48] (fun i wr => ∃ k : Nat, k ≤ n4 ∧ i = .int .i64 k ∧ Hid (Spoilt w4 wr w1.heap.size w4.heap.size)) (fun i _ => n4 - (intOf i).toNat)
    case atStart => exact ⟨0, Nat.zero_le _, rfl, Lib.hid (Spoilt.refl _ _ _)⟩
    case round =>
      obtain ⟨k, hk, rfl, HS⟩ := hrel
      by_cases hlt : k < n4
      · rcases SliceAt.split HT2b.out with ⟨_, h0⟩ | ⟨b, o, rfl, -, -, hF⟩
        · omega
        have hkx : k < X.length := by have := HN2.out; omega
        have c0 := BytesAt.cell HT2b.out k hkx
        have f0 := HS.out.frz _ _ (SliceAt.free HT2b.out k (by simpa using hkx))
        obtain ⟨m, c1⟩ := HS.out.byte c0
        have hst := HS.out.store (v := 99) ⟨hF.1, Nat.lt_of_lt_of_le hF.2 hh4⟩ c0
        have HST := Lib.hid hst
        have hkz : (0 : Int) ≤ (k : Int) := by omega
        have hkn : (k : Int) < (n4 : Int) := by omega
        clear c0 hst
        go_wp2_with fail
        go_roundw
        case rel => exact ⟨k + 1, by omega, num_eq (by omega), HST⟩
        case measure => simp [intOf]; omega
      · obtain rfl : n4 = k := by omega
        have hbel := HS.out.below
        have g1 : RowsAt (fun b => b < w1.heap.size) wr (.slice a1 n1 c1) l := RowsAt.carry HROW4.out (fun _ _ x => x) (fun b hb _ => hbel.block b hb)
        have g2 : RowsAt (fun b => b < w.heap.size) wr (.slice a n c) l := RowsAt.carry (RowsAt.below HH.out HB04.out) (fun _ _ x => x) (fun b hb _ => hbel.block b (by have := HSZ.out; omega))
        have hcall := sameAll_any _ _ wr (.slice a1 n1 c1) (.slice a n c) l l g1 g2 (by have := HN.out; omega)
        rw [decide_eq_true rfl] at hcall
        have hbw : Below w.heap.size w wr := by
          have h1 : Below w.heap.size w4 wr := hbel.mono HSZ.out.1
          exact HB04.out.trans h1
        have HCALL := Lib.hid hcall
        have HBW := Lib.hid hbw
        clear hcall g1 g2 hbel hbw
        go_wp2_with fail
        refine HCALL.out.mono ?_
        rintro e w5 ⟨rfl, hq5⟩
        have HB5 := Lib.hid (Bel.call HBW.out (bel_drewN hq5))
        clear hq5
        go_wp2_with fail
        go_ret
        exact ⟨rfl, HB5.out⟩
end Go.Proofs.Ytndkkgkcbbmnpaa
