/-
  Every Clash tells the first text that is unlike an earlier one of its digest, or that there is none: the statement ExtractClash, of every list of byte strings, however long.
-/
import Derived.Test.YtndkkgkcbbmnpaaQnAK
namespace Go.Proofs.Ytndkkgkcbbmnpaa.extractClash
open Go.ChangeShapes Go.WideShapes Go.ChangeAt Go.RowKit Go.Pg

theorem own : ownKnob Try.prog.godebug = none := by kernel_rfl
theorem laidOut : laidOutB Try.prog = true := by kernel_rfl

set_option maxRecDepth 100000 in
theorem contract (H : Type) (enc : TypeId × Value → H) (W : World) (base : Nat) (args : Array Value) (ds gs : List (DataW H)) (before : List MemPlace)
    (hval : ∀ (j : Nat) t v, Try.f10.params[j]? = some t → args[j]? = some v → Value.okWide Try.prog W .any base t v)
    (hW : DataW.Whole enc Try.prog Try.f10.params.toList Rows.extractClashSpec.vars false W args.toList ds gs before) 
    (hz : (DataW.weightsEach Try.prog (Try.f10.params.toList ++ Rows.extractClashSpec.plain.varTypes Try.prog) (ds ++ gs)).all (· ≤ reachBytes) = true) :
    Calls Try.prog 10 args W fun e W' => ∃ v, e = .returned v ∧ Rows.extractClashSpec.post enc Try.prog Try.f10 false true false false W args v W' := by
  have hW' := hW
  obtain ⟨p, q, hA0, hV, rfl, hfz, hnd⟩ := hW
  have hA : DataW.TrodAll enc Try.prog W 0 (fun _ => true) true Try.f10.params.toList args.toList ds p := hA0
  rw [Try.params10] at hA hval
  obtain ⟨v0, vs0, d0, ds0, p0, q0, hargs, rfl, rfl, h0, r0⟩ := trodAll_cons hA
  obtain ⟨rfl, rfl, rfl⟩ := trodAll_nil r0
  obtain rfl : args = #[v0] := by cases args; simp_all
  obtain ⟨rfl, rfl⟩ := trodVars_none hV
  obtain ⟨fuel0, tr0⟩ := h0
  obtain ⟨ra0, rn0, rc0, rfl⟩ := okWide_slice Try.underlying22 (hval 0 22 v0 rfl rfl)
  have hzw : ∀ n ∈ d0.weights Try.prog 22, n ≤ reachBytes := fun n hn => by
    have h1 := List.all_eq_true.1 hz _ (DataW.weights_mem_each (j := 0) (t := 22) rfl rfl n hn)
    simpa using h1
  obtain ⟨L0, la0, lc0, el0, hL0, bL0, bX0⟩ := open_rows_reach Try.underlying22 Try.underlying25 Try.underlying5 (by kernel_rfl) (by kernel_rfl) (by kernel_rfl) (by kernel_rfl) tr0 (fun b o h => hfz b o (by simp [h])) hzw
  simp only [Value.slice.injEq] at el0
  obtain ⟨rfl, rfl, rfl⟩ := el0
  refine (clash_walk _ W _ _ _ L0 hL0 (by omega) bX0).mono fun e W' ⟨he, hbel⟩ => ?_
  exact ⟨_, he, law_done (tb := 4) laidOut (by rw [Try.params10]; intro t ht; simp at ht; subst ht; exact ⟨by kernel_rfl, of_decide_eq_true (by kernel_rfl)⟩) Try.underlying4 (by kernel_rfl) rfl hW' rfl hbel⟩

set_option maxRecDepth 100000 in
theorem lifted (os : Os) (started : os.Started) (H : Type) (enc : TypeId × Value → H) :
    ReturnsInHanded {} Try.checked os 10 .any (Rows.extractClashSpec.pre6 enc Try.prog Try.f10 Rows.extractClashRow.domain false) (Rows.extractClashSpec.post enc Try.prog Try.f10 false true false false) := by
  refine returnsInHanded_of_change_sized (C := Try.checked) own started (by kernel_rfl) Try.func10
    (ChangeSpec.witness6 (enc := enc) (C := Try.checked) false ⟨#[], #[.slice none 0 0], []⟩ 8 (by kernel_rfl) (by kernel_rfl) (by kernel_rfl) (by kernel_rfl)) ?_
  intro W base args ds gs before hval hW _ hz _
  exact contract H enc W base args ds gs before hval hW hz

theorem proved : Rows.ExtractClashSaid :=
  OpenClaim.holds_of_wide 10 Try.f10 rfl rfl rfl rfl rfl rfl rfl ⟨rfl, rfl, rfl, rfl, rfl⟩ rfl rfl rfl rfl rfl (by kernel_rfl) Try.func10 (by kernel_rfl)
    (of_decide_eq_true (by kernel_rfl)) (by unfold Func.isWrapper; first | (rw [if_pos (by decide +kernel)]; kernel_rfl) | (rw [if_neg (by decide +kernel)]; exact ⟨rfl, rfl⟩))
    (fun os started H enc _ => lifted os started H enc)
#print axioms proved
end Go.Proofs.Ytndkkgkcbbmnpaa.extractClash
