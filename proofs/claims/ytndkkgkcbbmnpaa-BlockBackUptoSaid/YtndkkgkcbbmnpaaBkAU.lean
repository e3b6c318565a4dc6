/-
  What is written of a block, and of a header, is read as it was, and what is read is written as it was: the statement BlockBack, where what the call reads is of bulk at most 1048576.
-/
import Derived.Test.YtndkkgkcbbmnpaaBkAT
namespace Go.Proofs.Ytndkkgkcbbmnpaa.blockBack
open Go.ChangeShapes Go.WideShapes Go.ChangeAt Go.RowKit Go.Pg

theorem own : ownKnob Try.prog.godebug = none := by kernel_rfl
theorem laidOut : laidOutB Try.prog = true := by kernel_rfl

set_option maxRecDepth 100000 in
theorem contract (H : Type) (enc : TypeId × Value → H) (W : World) (base : Nat) (args : Array Value) (ds gs : List (DataW H)) (before : List MemPlace)
    (hval : ∀ (j : Nat) t v, Try.f9.params[j]? = some t → args[j]? = some v → Value.okWide Try.prog W .any base t v)
    (hW : DataW.Whole enc Try.prog Try.f9.params.toList Rows.blockBackSpec.vars false W args.toList ds gs before) (hk : Rows.uptoSmall H (ds ++ gs) = true) :
    Calls Try.prog 9 args W fun e W' => ∃ v, e = .returned v ∧ Rows.blockBackSpec.post enc Try.prog Try.f9 false true false false W args v W' := by
  have hW' := hW
  obtain ⟨p, q, hA0, hV, rfl, hfz, hnd⟩ := hW
  have hA : DataW.TrodAll enc Try.prog W 0 (fun _ => true) true Try.f9.params.toList args.toList ds p := hA0
  rw [Try.params9] at hA hval
  obtain ⟨v0, vs0, d0, ds0, p0, q0, hargs, rfl, rfl, h0, r0⟩ := trodAll_cons hA
  obtain ⟨v1, vs1, d1, ds1, p1, q1, rfl, rfl, rfl, h1, r1⟩ := trodAll_cons r0
  obtain ⟨v2, vs2, d2, ds2, p2, q2, rfl, rfl, rfl, h2, r2⟩ := trodAll_cons r1
  obtain ⟨rfl, rfl, rfl⟩ := trodAll_nil r2
  obtain rfl : args = #[v0, v1, v2] := by cases args; simp_all
  obtain ⟨rfl, rfl⟩ := trodVars_none hV
  obtain ⟨x0, xa0, xc0, xo0, rfl, xr0, xb0⟩ := open_block (hval 0 40 v0 rfl rfl) h0 (fun b o h => hfz b o (by simp [h]))
  obtain ⟨y1, yo1, rfl⟩ := open_header (hval 1 47 v1 rfl rfl) h1
  obtain ⟨fuel2, tb2⟩ := h2
  obtain ⟨a3, n3, c3, rfl⟩ := okWide_slice Try.underlying25 (hval 2 25 v2 rfl rfl)
  obtain ⟨B2, a4, c4, e4, hB2, bB2⟩ := open_bytes Try.underlying25 Try.underlying5 (by kernel_rfl) tb2 (fun b o h => hfz b o (by simp [h]))
  simp only [Value.slice.injEq] at e4
  obtain ⟨rfl, rfl, rfl⟩ := e4
  have bB2' : B2.length + 1 ≤ Rows.uptoBulk d2 := bB2
  have hb := bulk_bound hk
  simp only [List.append_nil, Rows.uptoBulkAll] at hb
  refine (bback_walk _ W x0 xo0 xa0 xc0 xr0 (by show rowsSum _ ≤ _; omega) y1 yo1 _ _ _ B2 hB2 (by omega)).mono fun e W' ⟨he, hbel⟩ => ?_
  exact ⟨_, he, law_done (tb := 4) laidOut (by rw [Try.params9]; intro t ht; simp at ht; rcases ht with rfl | rfl | rfl <;> exact ⟨by kernel_rfl, of_decide_eq_true (by kernel_rfl)⟩) Try.underlying4 (by kernel_rfl) rfl hW' rfl hbel⟩

set_option maxRecDepth 100000 in
theorem lifted (os : Os) (started : os.Started) (H : Type) (enc : TypeId × Value → H) (F : Stop.Interp) :
    ReturnsInHanded {} Try.checked os 9 .any ((Rows.OpenSpec.upto Rows.blockBackSpec).pre6 enc Try.prog Try.f9 Rows.blockBackUptoRow.domain false) (((Rows.OpenSpec.upto Rows.blockBackSpec).at F).post enc Try.prog Try.f9 false true false false) := by
  refine returnsInHanded_of_cond (C := Try.checked) (s := Rows.OpenSpec.upto Rows.blockBackSpec) (k := Rows.uptoSmall) rfl own started (by kernel_rfl) Try.func9
    (OpenSpec.witness (enc := enc) (C := Try.checked) (s := Rows.OpenSpec.upto Rows.blockBackSpec) (k := Rows.uptoSmall) rfl false ⟨#[], #[.agg (blkCells (List.replicate 32 0) 0 0 (.slice none 0 0)), .agg (hdrCells ⟨List.replicate 32 0, 0, 0, 0, List.replicate 32 0, List.replicate 32 0, List.replicate 32 0⟩), .slice none 0 0], []⟩ 8 (by kernel_rfl) (by kernel_rfl) (by kernel_rfl)
      (x := ([.agg [.agg (List.replicate 32 (.lit (.int .u8 0))), .lit (.int .u64 0), .lit (.int .u64 0), .nil], .agg [.agg (List.replicate 32 (.lit (.int .u8 0))), .lit (.int .u64 0), .lit (.int .u64 0), .lit (.int .u64 0), .agg (List.replicate 32 (.lit (.int .u8 0))), .agg (List.replicate 32 (.lit (.int .u8 0))), .agg (List.replicate 32 (.lit (.int .u8 0)))], .nil], [], [])) (by kernel_rfl) rfl (by kernel_rfl)) ?_
  intro W base args ds gs before hval hW _ hk _
  exact contract H enc W base args ds gs before hval hW hk

theorem proved : Rows.BlockBackUptoSaid :=
  OpenClaim.holds_of_cond 9 Try.f9 rfl rfl rfl rfl rfl rfl rfl ⟨rfl, rfl, rfl, rfl, rfl⟩ rfl rfl rfl rfl rfl (by kernel_rfl) Try.func9 (by kernel_rfl)
    (of_decide_eq_true (by kernel_rfl)) (by unfold Func.isWrapper; first | (rw [if_pos (by decide +kernel)]; kernel_rfl) | (rw [if_neg (by decide +kernel)]; exact ⟨rfl, rfl⟩))
    (fun os started H enc _ F => lifted os started H enc F)
#print axioms proved
end Go.Proofs.Ytndkkgkcbbmnpaa.blockBack
