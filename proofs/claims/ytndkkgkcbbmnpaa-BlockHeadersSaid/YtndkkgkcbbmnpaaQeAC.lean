/-
  Every header's bytes and name; every text of bytes is read as its header, or refused: the statement BlockHeaders, of every header and every text of bytes, however long.
-/
import Derived.Test.YtndkkgkcbbmnpaaQeAB
namespace Go.Proofs.Ytndkkgkcbbmnpaa.blockHeaders
open Go.ChangeShapes Go.WideShapes Go.ChangeAt Go.RowKit Go.Pg

theorem own : ownKnob Try.prog.godebug = none := by kernel_rfl
theorem laidOut : laidOutB Try.prog = true := by kernel_rfl

set_option maxRecDepth 100000 in
theorem contract (H : Type) (enc : TypeId × Value → H) (W : World) (base : Nat) (args : Array Value) (ds gs : List (DataW H)) (before : List MemPlace)
    (hval : ∀ (j : Nat) t v, Try.f8.params[j]? = some t → args[j]? = some v → Value.okWide Try.prog W .any base t v)
    (hW : DataW.Whole enc Try.prog Try.f8.params.toList Rows.blockHeadersSpec.vars false W args.toList ds gs before) 
    (hz : (DataW.weightsEach Try.prog (Try.f8.params.toList ++ Rows.blockHeadersSpec.plain.varTypes Try.prog) (ds ++ gs)).all (· ≤ reachBytes) = true) :
    Calls Try.prog 8 args W fun e W' => ∃ v, e = .returned v ∧ Rows.blockHeadersSpec.post enc Try.prog Try.f8 false true false false W args v W' := by
  have hW' := hW
  obtain ⟨p, q, hA0, hV, rfl, hfz, hnd⟩ := hW
  have hA : DataW.TrodAll enc Try.prog W 0 (fun _ => true) true Try.f8.params.toList args.toList ds p := hA0
  rw [Try.params8] at hA hval
  obtain ⟨v0, vs0, d0, ds0, p0, q0, hargs, rfl, rfl, h0, r0⟩ := trodAll_cons hA
  obtain ⟨v1, vs1, d1, ds1, p1, q1, rfl, rfl, rfl, h1, r1⟩ := trodAll_cons r0
  obtain ⟨rfl, rfl, rfl⟩ := trodAll_nil r1
  obtain rfl : args = #[v0, v1] := by cases args; simp_all
  obtain ⟨rfl, rfl⟩ := trodVars_none hV
  obtain ⟨h, ho, rfl⟩ := open_header (hval 0 47 v0 rfl rfl) h0
  obtain ⟨fuel, tb⟩ := h1
  have hv1 := hval 1 25 v1 rfl rfl
  obtain ⟨a3, n3, c3, rfl⟩ := okWide_slice Try.underlying25 hv1
  obtain ⟨B, a4, c4, e4, hB, bB⟩ := open_bytes_read Try.underlying25 Try.underlying5 (by kernel_rfl) tb (fun b o h => hfz b o (by simp [h]))
  simp only [Value.slice.injEq] at e4
  obtain ⟨rfl, rfl, rfl⟩ := e4
  have hlen := bytes_reach (n := B.length) hz (j := 1) (t := 25) rfl rfl Try.underlying25 (by kernel_rfl) (bB.imp (fun h => by rw [h]; rfl) id)
  refine (headers_walk _ W h ho _ _ _ B hB hlen).mono fun e W' ⟨he, hbel⟩ => ?_
  exact ⟨_, he, law_done (tb := 4) laidOut (by rw [Try.params8]; intro t ht; simp at ht; rcases ht with rfl | rfl <;> exact ⟨by kernel_rfl, of_decide_eq_true (by kernel_rfl)⟩) Try.underlying4 (by kernel_rfl) rfl hW' rfl hbel⟩

set_option maxRecDepth 100000 in
theorem lifted (os : Os) (started : os.Started) (H : Type) (enc : TypeId × Value → H) :
    ReturnsInHanded {} Try.checked os 8 .any (Rows.blockHeadersSpec.pre6 enc Try.prog Try.f8 Rows.blockHeadersRow.domain false) (Rows.blockHeadersSpec.post enc Try.prog Try.f8 false true false false) := by
  refine returnsInHanded_of_change_sized (C := Try.checked) own started (by kernel_rfl) Try.func8
    (ChangeSpec.witness6 (enc := enc) (C := Try.checked) false ⟨#[], #[.agg (hdrCells ⟨List.replicate 32 0, 0, 0, 0, List.replicate 32 0, List.replicate 32 0, List.replicate 32 0⟩), .slice none 0 0], []⟩ 8 (by kernel_rfl) (by kernel_rfl) (by kernel_rfl) (by kernel_rfl)) ?_
  intro W base args ds gs before hval hW _ hz _
  exact contract H enc W base args ds gs before hval hW hz

theorem proved : Rows.BlockHeadersSaid :=
  OpenClaim.holds_of_wide 8 Try.f8 rfl rfl rfl rfl rfl rfl rfl ⟨rfl, rfl, rfl, rfl, rfl⟩ rfl rfl rfl rfl rfl (by kernel_rfl) Try.func8 (by kernel_rfl)
    (of_decide_eq_true (by kernel_rfl)) (by unfold Func.isWrapper; first | (rw [if_pos (by decide +kernel)]; kernel_rfl) | (rw [if_neg (by decide +kernel)]; exact ⟨rfl, rfl⟩))
    (fun os started H enc _ => lifted os started H enc)
#print axioms proved
end Go.Proofs.Ytndkkgkcbbmnpaa.blockHeaders
