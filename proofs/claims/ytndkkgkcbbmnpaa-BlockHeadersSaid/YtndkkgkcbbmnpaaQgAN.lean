/-
  What the laws of blocks ask besides the contracts: a long row's load in a region that draws; equality of headers; the values of the fixed examples.
  The frame of a law's proof: how arguments open (bytes, rows of bytes), what the bound on their bulk gives, that arguments read behind the call as before.
  How an argument that is a header, or a block, opens.
  Contract of block.Decode.
-/
import Derived.Test.YtndkkgkcbbmnpaaQgAM
import Derived.Test.YtndkkgkcbbmnpaaRows
import Derived.ProofKit
import Derived.OpenShut
import Derived.JoinedCond
import Derived.ChangeSame
import Derived.Carry
import Derived.Deep.Matrix
import Derived.Lib.SmallJoins
namespace Go.Pg
open Go.RowKit
section
variable {P : Program}
theorem yieldsIf_load_row {ops : Array Oper} {S : World → Prop} {op : Oper} {a : Act} (hw : Region.wanted op (yielded ops a.tmps) = true) (ty : TypeId) (x : Operand) (ho : op.op = .load ty x)
    (g : Nat) (hx : a.eval x = .pointer (some ⟨g, 0, none⟩)) (cs : Array Value) (t : TypeId) (d : TypeDesc) (hS : ∀ w, S w → w.heap[g]? = some (.cells cs t (0, 0)))
    (hu : P.underlying ty = some d) (hd : (match d with | .struct _ | .array _ _ => true | _ => false) = true) (hi : (P.info? ty).map (·.size) = some cs.size) : YieldsIf P ops S op (.agg cs) a :=
  .inl ⟨hw, fun w hw' => by
    unfold execOp
    simp only [ho, hx, Instr.loadAt, Instr.sureAddr, Sem.run_bind, Sem.run_pure, Result.andThen_ok, run_loadVar_row w g t ty cs (0, 0) d (hS w hw') hu (by cases d <;> exact hd) hi]⟩
theorem yieldsIf_eql_agg {ops : Array Oper} {S : World → Prop} {op : Oper} {a : Act} (hw : Region.wanted op (yielded ops a.tmps) = true) (t : TypeId) (x y : Operand) (t2 : TypeId) (ho : op.op = .binOp .eql t x y t2)
    (xs ys : Array Value) (hx : a.eval x = .agg xs) (hy : a.eval y = .agg ys) (hg : P.eqGuardType P.depth t = false) (b : Bool) (h : ∀ W : World, (Op.equalIn 10000 t (.agg xs) (.agg ys)).run P W = .ok b W) : YieldsIf P ops S op (.bool b) a :=
  .inl ⟨hw, fun w _ => by
    unfold execOp
    simp only [ho, hx, hy, Sem.run_bind, run_eqGuard_agg w .eql t x y xs ys hg, run_eql_struct, h, Result.andThen_ok, Sem.run_pure]⟩
theorem yieldsIf_neq_agg {ops : Array Oper} {S : World → Prop} {op : Oper} {a : Act} (hw : Region.wanted op (yielded ops a.tmps) = true) (t : TypeId) (x y : Operand) (t2 : TypeId) (ho : op.op = .binOp .neq t x y t2)
    (xs ys : Array Value) (hx : a.eval x = .agg xs) (hy : a.eval y = .agg ys) (hg : P.eqGuardType P.depth t = false) (b : Bool) (h : ∀ W : World, (Op.equalIn 10000 t (.agg xs) (.agg ys)).run P W = .ok b W) : YieldsIf P ops S op (.bool (!b)) a :=
  .inl ⟨hw, fun w _ => by
    unfold execOp
    simp only [ho, hx, hy, Sem.run_bind, run_eqGuard_agg w .neq t x y xs ys hg, run_neq_struct, h, Result.andThen_ok, Sem.run_pure]⟩
theorem extract_mid (pre l post : List Value) : (pre ++ l ++ post).toArray.extract pre.length (pre.length + l.length) = l.toArray := by
  apply Array.ext'
  simp [List.extract_eq_take_drop]
theorem eqFields_self (xs : Array Value) (d : Nat) (fs : List Field) (w : World)
    (h : ∀ f ∈ fs, ∃ v, (∀ W : World, (Go.part f.type xs f.offset).run P W = .ok v W) ∧ (∀ W : World, (Op.equalIn d f.type v v).run P W = .ok true W)) :
    (Op.eqFields d xs xs fs).run P w = .ok true w := by
  induction fs generalizing w with
  | nil => simp [Op.eqFields]
  | cons f fs ih =>
    obtain ⟨v, h1, h2⟩ := h f (by simp)
    have ih' := ih w (fun f hf => h f (by simp [hf]))
    simp only [Op.eqFields, Sem.run_ite, Sem.run_bind, h1, h2, Result.andThen_ok, ih', Bool.not_true, Bool.false_eq_true, if_false]
    split <;> rfl
end
end Go.Pg
namespace Go.Proofs.Ytndkkgkcbbmnpaa
open Go.RowKit Go.Pg
theorem partDig (pre : List Value) (p : List UInt8) (post : List Value) (hp : p.length = 32) (off : Nat) (ho : pre.length = off) (W : World) :
    (Go.part 37 (pre ++ cellsL p ++ post).toArray off).run Try.prog W = .ok (.agg (cellsL p).toArray) W := by
  have hs : (sizeOf 37).run Try.prog W = .ok 32 W := by
    have := infoDig
    cases h : Try.prog.info? 37 with
    | none => rw [h] at this; cases this
    | some i => rw [h] at this; simp only [Option.map_some, Option.some.injEq] at this; simp [sizeOf, typeInfo, h, this]
  have hx := extract_mid pre (cellsL p) post
  rw [cellsL_length, hp, ho] at hx
  simp only [Go.part, isAgg, Sem.run_bind, run_underlying underlyingDig, Sem.run_pure, Result.andThen_ok, if_true, hs, hx]
theorem partInt (pre : List Value) (v : Value) (post : List Value) (off : Nat) (ho : pre.length = off) (W : World) :
    (Go.part 38 (pre ++ v :: post).toArray off).run Try.prog W = .ok v W := by
  have hx : (pre ++ v :: post).toArray[off]? = some v := by rw [List.getElem?_toArray, ← ho, List.getElem?_append_right (Nat.le_refl _), Nat.sub_self]; rfl
  simp only [Go.part, isAgg, Sem.run_bind, run_underlying Try.underlying38, Sem.run_pure, Result.andThen_ok, Bool.false_eq_true, if_false, hx]
theorem digSelf (p : List UInt8) (hp : p.length = 32) (W : World) : (Op.equalIn 9999 37 (.agg (cellsL p).toArray) (.agg (cellsL p).toArray)).run Try.prog W = .ok true W := by
  obtain ⟨i0, hi, hz0, hz1, hz2⟩ := info_parts infoU8
  have h := run_equalIn_bytes (P := Try.prog) W 9997 37 5 32 underlyingDig Try.underlying5 (fun w => by simp [sizeOf, typeInfo, hi, hz1]) p p hp hp
  rw [beq_self_eq_true] at h
  exact h
theorem intSelf (n : Int) (W : World) : (Op.equalIn 9999 38 (.int .u64 n) (.int .u64 n)).run Try.prog W = .ok true W := by
  rw [run_equalIn_int W 9998 38 .u64 .u64 n n Try.underlying38, beq_self_eq_true]
theorem hdrFields : (Try.prog.fieldsOf 47).toList.map (fun f => (f.type, f.offset)) = [(37, 0), (38, 32), (38, 33), (38, 34), (37, 35), (37, 67), (37, 99)] := by kernel_rfl
theorem hdrEq (h : Hdr) (ho : h.ok) (W : World) : (Op.equalIn 10000 47 (.agg (hdrCells h)) (.agg (hdrCells h))).run Try.prog W = .ok true W := by
  have hu : Try.prog.underlying 47 = some (.struct (Try.prog.fieldsOf 47)) := by kernel_rfl
  rw [show (10000 : Nat) = 9999 + 1 from rfl, run_equalIn_agg W 9999 47 _ _ hu (by kernel_rfl)]
  refine eqFields_self _ _ _ _ fun f hf => ?_
  have hm : (f.type, f.offset) ∈ (Try.prog.fieldsOf 47).toList.map (fun f => (f.type, f.offset)) := List.mem_map.2 ⟨f, hf, rfl⟩
  rw [hdrFields] at hm
  obtain ⟨p, nn, bb, gg, tx, st, rc⟩ := h
  obtain ⟨o1, o2, o3, o4, -, -, -⟩ := ho
  simp only at o1 o2 o3 o4
  have l1 : (cellsL p).length = 32 := by rw [cellsL_length, o1]
  have l2 : (cellsL tx).length = 32 := by rw [cellsL_length, o2]
  have l3 : (cellsL st).length = 32 := by rw [cellsL_length, o3]
  have l4 : (cellsL rc).length = 32 := by rw [cellsL_length, o4]
  have e0 : hdrCells ⟨p, nn, bb, gg, tx, st, rc⟩ = ([] ++ cellsL p ++ ([Value.int .u64 (nn : Int), Value.int .u64 (bb : Int), Value.int .u64 (gg : Int)] ++ cellsL tx ++ cellsL st ++ cellsL rc)).toArray := by simp [hdrCells]
  have e1 : hdrCells ⟨p, nn, bb, gg, tx, st, rc⟩ = (cellsL p ++ Value.int .u64 (nn : Int) :: ([Value.int .u64 (bb : Int), Value.int .u64 (gg : Int)] ++ cellsL tx ++ cellsL st ++ cellsL rc)).toArray := by simp [hdrCells]
  have e2 : hdrCells ⟨p, nn, bb, gg, tx, st, rc⟩ = ((cellsL p ++ [Value.int .u64 (nn : Int)]) ++ Value.int .u64 (bb : Int) :: ([Value.int .u64 (gg : Int)] ++ cellsL tx ++ cellsL st ++ cellsL rc)).toArray := by simp [hdrCells]
  have e3 : hdrCells ⟨p, nn, bb, gg, tx, st, rc⟩ = ((cellsL p ++ [Value.int .u64 (nn : Int), Value.int .u64 (bb : Int)]) ++ Value.int .u64 (gg : Int) :: (cellsL tx ++ cellsL st ++ cellsL rc)).toArray := by simp [hdrCells]
  have e4 : hdrCells ⟨p, nn, bb, gg, tx, st, rc⟩ = ((cellsL p ++ [Value.int .u64 (nn : Int), Value.int .u64 (bb : Int), Value.int .u64 (gg : Int)]) ++ cellsL tx ++ (cellsL st ++ cellsL rc)).toArray := by simp [hdrCells]
  have e5 : hdrCells ⟨p, nn, bb, gg, tx, st, rc⟩ = ((cellsL p ++ [Value.int .u64 (nn : Int), Value.int .u64 (bb : Int), Value.int .u64 (gg : Int)] ++ cellsL tx) ++ cellsL st ++ cellsL rc).toArray := by simp [hdrCells]
  have e6 : hdrCells ⟨p, nn, bb, gg, tx, st, rc⟩ = ((cellsL p ++ [Value.int .u64 (nn : Int), Value.int .u64 (bb : Int), Value.int .u64 (gg : Int)] ++ cellsL tx ++ cellsL st) ++ cellsL rc ++ []).toArray := by simp [hdrCells]
  simp only [List.mem_cons, Prod.mk.injEq, List.not_mem_nil, or_false] at hm
  rcases hm with ⟨h1, h2⟩ | ⟨h1, h2⟩ | ⟨h1, h2⟩ | ⟨h1, h2⟩ | ⟨h1, h2⟩ | ⟨h1, h2⟩ | ⟨h1, h2⟩
  all_goals rw [h1, h2]
  · exact ⟨_, fun W => by rw [e0]; exact partDig _ _ _ o1 _ rfl W, digSelf _ o1⟩
  · exact ⟨_, fun W => by rw [e1]; exact partInt _ _ _ _ (by simp [l1]) W, intSelf _⟩
  · exact ⟨_, fun W => by rw [e2]; exact partInt _ _ _ _ (by simp [l1]) W, intSelf _⟩
  · exact ⟨_, fun W => by rw [e3]; exact partInt _ _ _ _ (by simp [l1]) W, intSelf _⟩
  · exact ⟨_, fun W => by rw [e4]; exact partDig _ _ _ o2 _ (by simp [l1]) W, digSelf _ o2⟩
  · exact ⟨_, fun W => by rw [e5]; exact partDig _ _ _ o3 _ (by simp [l1, l2]) W, digSelf _ o3⟩
  · exact ⟨_, fun W => by rw [e6]; exact partDig _ _ _ o4 _ (by simp [l1, l2, l3]) W, digSelf _ o4⟩
/-- the header of the example -/
def hdr5 : Hdr := ⟨List.replicate 32 0, 5, 0, 0, List.replicate 32 0, List.replicate 32 0, List.replicate 32 0⟩
theorem hdr5_ok : hdr5.ok := ⟨rfl, rfl, rfl, rfl, by decide, by decide, by decide⟩
theorem builtHdr5 : Try.prog.built 47 [(1, .int .u64 5)] = some (hdrCells hdr5) := by kernel_rfl
/-- the block of the example -/
def blk1 : Blk := ⟨List.replicate 32 0, 1, 200, []⟩
theorem blk1_ok : blk1.ok := ⟨rfl, by decide, by decide⟩
theorem builtBlk1 : Try.prog.built 40 [(1, .int .u64 1), (2, .int .u64 200)] = some (blkCells blk1.p blk1.nn blk1.bb (.slice none 0 0)) := by kernel_rfl
theorem number_1 : number 1 = 1 := by rw [number_pos (by decide), show 1 / 256 = 0 from rfl, number_zero]
theorem number_200 : number 200 = 1 := by rw [number_pos (by decide), show 200 / 256 = 0 from rfl, number_zero]
theorem wordB_1 : wordB 1 = [1] := by unfold wordB; rw [number_1]; rfl
theorem wordB_200 : wordB 200 = [200] := by unfold wordB; rw [number_200]; rfl
theorem blk1_item : blk1.item = .list [.text (List.replicate 32 0), .text [1], .text [200], .list []] := by
  simp [Blk.item, blk1, blkI, wordB_1, wordB_200, textsI]
theorem blk1_fits : It.fits 8 blk1.item := by
  rw [blk1_item]
  simp [It.fits, It.wholes, It.whole, sz, plainB]
theorem blk1_enc : ∃ B, blk1.enc = (B, 0) ∧ B.length = 38 := by
  refine ⟨blk1.item.enc, blk_enc_of blk1 _ blk1_fits rfl, ?_⟩
  rw [It.enc_length, blk1_item]
  simp [It.whole, It.wholes, sz, plainB]
end Go.Proofs.Ytndkkgkcbbmnpaa
namespace Go.Proofs.Ytndkkgkcbbmnpaa
open Go.ChangeShapes Go.WideShapes Go.ChangeAt Go.RowKit Go.Pg

/-! ## What the bound gives -/
theorem bulk_one {H : Type} (d : DataW H) : 1 ≤ Rows.uptoBulk d := by
  cases d with
  | lit l => cases l <;> simp [Rows.uptoBulk]
  | nil => simp [Rows.uptoBulk]
  | ptr d => simp [Rows.uptoBulk]
  | slice elems spare => simp [Rows.uptoBulk]
  | agg parts => simp [Rows.uptoBulk]
  | iface t d => simp [Rows.uptoBulk]
  | map entries => simp [Rows.uptoBulk]
  | held h => simp [Rows.uptoBulk]
theorem bulk_len {H : Type} (l : List (DataW H)) : l.length ≤ Rows.uptoBulkAll l := by
  induction l with
  | nil => simp [Rows.uptoBulkAll]
  | cons x r ih => have := bulk_one x; simp only [Rows.uptoBulkAll, List.length_cons]; omega
theorem bulk_map {H α : Type} (g : α → DataW H) (f : α → Nat) (l : List α) (h : ∀ r, r ∈ l → f r ≤ Rows.uptoBulk (g r)) : (l.map f).sum ≤ Rows.uptoBulkAll (l.map g) := by
  induction l with
  | nil => simp
  | cons x r ih =>
    have h1 := h x (List.mem_cons_self ..)
    have h2 := ih (fun y hy => h y (List.mem_cons_of_mem _ hy))
    simp only [List.map_cons, List.sum_cons, Rows.uptoBulkAll]; omega
theorem bulk_bound {H : Type} {l : List (DataW H)} (hk : Rows.uptoSmall H l = true) : Rows.uptoBulkAll l ≤ 1048576 := of_decide_eq_true hk
/-- how much rows of bytes take, each with its own place -/
def rowsSum (l : List (List UInt8)) : Nat := (l.map fun x => x.length + 1).sum
theorem rowsSum_len (l : List (List UInt8)) : l.length ≤ rowsSum l := by
  unfold rowsSum
  induction l with
  | nil => simp
  | cons x r ih => simp only [List.map_cons, List.sum_cons, List.length_cons]; omega
theorem rowsSum_mem (l : List (List UInt8)) (x : List UInt8) (h : x ∈ l) : x.length ≤ rowsSum l := by
  unfold rowsSum
  induction l with
  | nil => cases h
  | cons y r ih =>
    simp only [List.map_cons, List.sum_cons]
    rcases List.mem_cons.1 h with rfl | h
    · omega
    · have := ih h; omega

/-! ## How arguments open -/
section
variable {H : Type} {enc : TypeId × Value → H} {P : Program} {w : World} {held : Bool}
theorem byte_of_wf {n : Int} (h : (Lit.int .u8 n).wf = true) : ((UInt8.ofNat n.toNat).toNat : Int) = n := by
  have h1 : 0 ≤ n ∧ n ≤ 255 := by simpa [Lit.wf, IntKind.min, IntKind.max, IntKind.signed, IntKind.bits] using h
  rw [UInt8.toNat_ofNat']
  omega
theorem cell_spot {a : Addr} {v : Value} (h : w.cell? a = some v) : a = ⟨a.block, a.off, none⟩ := by
  unfold World.cell? at h
  split at h
  · split at h
    · cases h
    · rename_i hs
      obtain ⟨b, o, s⟩ := a
      cases s with
      | none => rfl
      | some x => simp at hs
  · cases h
theorem add_at (b o k : Nat) : (⟨b, o, none⟩ : Addr).add k = ⟨b, o + k, none⟩ := by unfold Addr.add; split <;> simp_all
theorem add_zero' (a : Addr) : a.add 0 = a := by unfold Addr.add; rw [if_pos rfl]
/-- cells of bytes, as a slice of them -/
theorem bytes_at {A : Option Addr} {L C : Nat} {Z : List Int} (hLC : L ≤ C) (hC : C ≤ maxLen) (hZ : Z.length = C) (hwf : ∀ n ∈ Z, (Lit.int .u8 n).wf = true) (hA : A = none → C = 0)
    (hc : ∀ a, A = some a → ∀ c, c < C → w.cell? (a.add c) = some (.int .u8 (Z.getD c 0))) (hfz : ∀ a, A = some a → ∀ c, c < C → w.frozen? ⟨a.block, a.off + c, none⟩ = false) :
    BytesAt (fun b => b < w.heap.size) w (.slice A L C) ((Z.take L).map fun n => UInt8.ofNat n.toNat) := by
  have hlen : ((Z.take L).map fun n => UInt8.ofNat n.toNat).length = L := by rw [List.length_map, List.length_take]; omega
  refine ⟨A, C, by rw [hlen], by omega, hC, hA, fun hp => ?_, fun b o j ha hj => by subst ha; exact hfz _ rfl j (by rw [hlen] at hj; omega)⟩
  cases A with
  | none => have := hA rfl; omega
  | some a =>
    have h0 := hc a rfl 0 (by omega)
    rw [add_zero'] at h0
    have hs := cell_spot h0
    refine ⟨a.block, a.off, by rw [← hs], cell_lt (by rw [← hs]; exact h0), fun i x hx => ?_⟩
    rw [List.getElem?_map, Option.map_eq_some_iff] at hx
    obtain ⟨n, hn, rfl⟩ := hx
    rw [List.getElem?_take] at hn
    split at hn
    · rename_i hi
      have hcell := hc a rfl i (by omega)
      rw [hs, add_at] at hcell
      have hg : Z.getD i 0 = n := by rw [List.getD_eq_getElem?_getD, hn]; rfl
      refine ⟨[.int .u8 ((UInt8.ofNat n.toNat).toNat : Int)], rfl, rfl, fun j u hu => ?_⟩
      match j, hu with
      | 0, hu =>
        have hw := byte_of_wf (hwf n (List.mem_of_getElem? hn))
        simp only [List.getElem?_cons_zero, Option.some.injEq] at hu
        subst hu
        rw [hw, ← hg]
        simpa using hcell
    · cases hn
/-- an argument that is a slice of bytes -/
theorem open_bytes {t e : TypeId} {fuel : Nat} {v : Value} {x : DataW H × List MemPlace} (ht : P.underlying t = some (.slice e)) (he : P.underlying e = some (.int .u8)) (hc : P.cellsOf e = 1)
    (h : DataW.trod enc P w 0 (fun _ => true) held fuel t [v] = some x) (hfz : ∀ b o, MemPlace.cell b o ∈ x.2 → w.frozen? ⟨b, o, none⟩ = false) :
    ∃ bs a c, v = .slice a bs.length c ∧ BytesAt (fun b => b < w.heap.size) w v bs ∧ bs.length + 1 ≤ Rows.uptoBulk x.1 := by
  rcases open_ints ht he hc h with ⟨hv, rfl⟩ | ⟨a, len, cap, zs, hv, -, hl, hm, hz, rfl, hcell, hwf⟩
  · simp only [List.cons.injEq, and_true] at hv
    subst hv
    exact ⟨[], none, 0, rfl, BytesAt.nil _ _, by simp [Rows.uptoBulk]⟩
  · simp only [List.cons.injEq, and_true] at hv
    subst hv
    simp only [if_true] at hz
    have hb := bytes_at (w := w) (A := some a) (L := len) (C := cap) (Z := zs) hl hm hz hwf (fun h => by cases h) (fun a' ha c hc => by cases ha; exact hcell c (by omega)) (fun a' ha c hc => by cases ha; exact hfz _ _ (List.mem_map.2 ⟨c, List.mem_range.2 (by omega), rfl⟩))
    have hlen : ((zs.take len).map fun n => UInt8.ofNat n.toNat).length = len := by rw [List.length_map, List.length_take]; omega
    refine ⟨_, some a, cap, by rw [hlen], hb, ?_⟩
    have h1 := bulk_len (H := H) (lits .u8 (zs.take len))
    have h2 : (lits (H := H) .u8 (zs.take len)).length = len := by simp [lits]; omega
    simp only [Rows.uptoBulk]; omega
/-- an argument that is a slice of slices of bytes -/
theorem open_rows {t e q : TypeId} {fuel : Nat} {v : Value} {x : DataW H × List MemPlace} (ht : P.underlying t = some (.slice e)) (he : P.underlying e = some (.slice q)) (hq : P.underlying q = some (.int .u8))
    (ce : P.cellsOf e = 1) (cq : P.cellsOf q = 1) (h : DataW.trod enc P w 0 (fun _ => true) held fuel t [v] = some x) (hfz : ∀ b o, MemPlace.cell b o ∈ x.2 → w.frozen? ⟨b, o, none⟩ = false) :
    ∃ l a c, v = .slice a l.length c ∧ RowsAt (fun b => b < w.heap.size) w v l ∧ rowsSum l + 1 ≤ Rows.uptoBulk x.1 := by
  rcases Deep.open_int_rows ht he hq ce cq h with ⟨hv, rfl⟩ | ⟨a, len, cap, A, L, C, Z, hv, -, hl, hm, rfl, hr⟩
  · simp only [List.cons.injEq, and_true] at hv
    subst hv
    exact ⟨[], none, 0, rfl, SliceAt.nil _ _ _ _, by simp [Rows.uptoBulk, rowsSum]⟩
  · simp only [List.cons.injEq, and_true] at hv
    subst hv
    have hlen : ((List.range len).map fun r => ((Z r).take (L r)).map fun n => UInt8.ofNat n.toNat).length = len := by simp
    have hrl : ∀ r, r < cap → (((Z r).take (L r)).map fun n => UInt8.ofNat n.toNat).length = L r := fun r hr' => by
      obtain ⟨-, h1, -, h2, -⟩ := hr r hr'
      rw [List.length_map, List.length_take]; omega
    refine ⟨(List.range len).map fun r => ((Z r).take (L r)).map fun n => UInt8.ofNat n.toNat, some a, cap, by rw [hlen], ?_, ?_⟩
    · refine ⟨some a, cap, by rw [hlen], by omega, hm, (fun h => by cases h), fun hp => ?_, fun b o j ha hj => ?_⟩
      rotate_left
      · simp only [Option.some.injEq] at ha
        subst ha
        exact hfz _ _ (List.mem_append_left _ (List.mem_map.2 ⟨j, List.mem_range.2 (by rw [hlen] at hj; omega), rfl⟩))
      have h0 := (hr 0 (by omega)).1
      rw [add_zero'] at h0
      have hs := cell_spot h0
      refine ⟨a.block, a.off, by rw [← hs], cell_lt (by rw [← hs]; exact h0), fun i y hy => ?_⟩
      rw [List.getElem?_map, Option.map_eq_some_iff] at hy
      obtain ⟨r, hr1, rfl⟩ := hy
      obtain ⟨hi, rfl⟩ := List.getElem?_eq_some_iff.1 hr1
      simp only [List.getElem_range, List.length_range] at hi ⊢
      obtain ⟨g1, g2, g3, g4, g5, g6, g7⟩ := hr i (by omega)
      rw [hs, add_at] at g1
      refine ⟨[.slice (A i) (L i) (C i)], rfl, ⟨_, rfl, bytes_at g2 g3 g4 g5 g6 (fun a' ha c hc => (g7 a' ha).2 c hc) (fun a' ha c hc => hfz _ _ (List.mem_append_right _ (List.mem_flatMap.2 ⟨i, List.mem_range.2 (by omega), by unfold Deep.intRowPlaces; rw [ha]; exact List.mem_map.2 ⟨c, List.mem_range.2 (by omega), rfl⟩⟩)))⟩, fun j u hu => ?_⟩
      match j, hu with
      | 0, hu => simp at hu; subst hu; simpa using g1
    · simp only [Rows.uptoBulk]
      have h1 := bulk_map (H := H) (fun r => Deep.intRow .u8 (A r) (L r) (Z r)) (fun r => (((Z r).take (L r)).map fun n => UInt8.ofNat n.toNat).length + 1) (List.range len) (fun r hr' => by
        have hrc : r < cap := by have := List.mem_range.1 hr'; omega
        rw [hrl r hrc]
        obtain ⟨-, g2, -, g4, -, g6, -⟩ := hr r hrc
        unfold Deep.intRow
        cases hA : A r with
        | none => have := g6 hA; simp only [Rows.uptoBulk]; omega
        | some a' =>
          simp only [Rows.uptoBulk]
          have h1 := bulk_len (H := H) (lits .u8 ((Z r).take (L r)))
          have h2 : (lits (H := H) .u8 ((Z r).take (L r))).length = L r := by simp [lits]; omega
          omega)
      have h2 : rowsSum ((List.range len).map fun r => ((Z r).take (L r)).map fun n => UInt8.ofNat n.toNat) = ((List.range len).map fun r => (((Z r).take (L r)).map fun n => UInt8.ofNat n.toNat).length + 1).sum := by
        unfold rowsSum; rw [List.map_map]; rfl
      rw [h2]
      omega
end

/-! ## The end of a law -/
section
variable {H : Type} {enc : TypeId × Value → H} {P : Program}
theorem args_stay (hl : laidOutB P = true) {W W' : World} (hb : Below W.heap.size W W') {sp : Nat → Bool} : ∀ {ts : List TypeId} {vs : List Value} {ds : List (DataW H)} {ps : List MemPlace},
    (∀ t ∈ ts, P.readableRec t = true ∧ t < P.types.size) → DataW.TrodAll enc P W 0 (fun _ => true) true ts vs ds ps → (∀ p ∈ ps, p.block < W.heap.size) → (∀ p ∈ ps, sp p.block = true) → DataW.TrodAll enc P W' 0 sp true ts vs ds ps
  | [], vs, ds, ps, _, h, _, _ => by
    obtain ⟨rfl, rfl, rfl⟩ := trodAll_nil h
    exact trodAll_mk0
  | t :: ts, vs, ds, ps, ht, h, hlt, hs => by
    obtain ⟨v, vs1, d, ds1, a, b, rfl, rfl, rfl, h1, h2⟩ := trodAll_cons h
    obtain ⟨r1, r2⟩ := ht t (List.mem_cons_self ..)
    refine trodAll_cons_mk (WideElems.Trod_stays hl r1 r2 h1 (fun x hx => hb.same (hlt x (List.mem_append_left _ hx))) (fun x hx => hs x (List.mem_append_left _ hx))) ?_
    exact args_stay hl hb (fun t' ht' => ht t' (List.mem_cons_of_mem _ ht')) h2 (fun x hx => hlt x (List.mem_append_right _ hx)) (fun x hx => hs x (List.mem_append_right _ hx))
/-- the law has told true, and nothing of what came in has turned -/
theorem law_done {f : Func} {s : ChangeSpec} {apart fresh handsOn again : Bool} {W W' : World} {args : Array Value} {ds gs : List (DataW H)} {before : List MemPlace} {tb : TypeId}
    (hl : laidOutB P = true) (hts : ∀ t ∈ f.params.toList, P.readableRec t = true ∧ t < P.types.size) (htb : P.underlying tb = some .bool) (hres : f.resultTypes = #[tb]) (hvs : s.vars = [])
    (hW : DataW.Whole enc P f.params.toList s.vars apart W args.toList ds gs before) (hfn : s.fn H (ds ++ gs) = { results := [.lit (.bool true)], args := ds }) (hb : Below W.heap.size W W') :
    s.post enc P f apart fresh handsOn again W args (.bool true) W' := by
  have hW' := hW
  obtain ⟨p, q, hA, hV, rfl, hfz, hnd⟩ := hW
  rw [hvs] at hV
  obtain ⟨rfl, rfl⟩ := trodVars_none hV
  have hlt : ∀ x ∈ p ++ [], x.block < W.heap.size := fun x hx => hW'.lt x hx
  have hold : ∀ x ∈ p ++ [], (fun b => decide (b < W.heap.size)) x.block = true := fun x hx => by simpa using hlt x hx
  have hargs : ∀ sp : Nat → Bool, (∀ x ∈ p ++ [], sp x.block = true) → DataW.TrodAll enc P W' 0 sp true f.params.toList args.toList (s.fn H (ds ++ [])).args p := fun sp hsp => by
    rw [hfn]
    exact args_stay hl hb hts hA (fun x hx => hlt x (by simpa using hx)) (fun x hx => hsp x (by simpa using hx))
  have hres' : ∀ (b : Nat) (sp : Nat → Bool) (hd : Bool), DataW.TrodAll enc P W' b sp hd f.resultTypes.toList ((Value.bool true).resultList f.resultTypes.size) (s.fn H (ds ++ [])).results [] := fun b sp hd => by
    rw [hres, hfn]
    exact trodAll_cons_mk (shut_bool htb _) trodAll_mk0
  have hvars : ∀ sp : Nat → Bool, (∀ x ∈ p ++ [], sp x.block = true) → DataW.TrodVars enc P W' sp s.vars (s.fn H (ds ++ [])).vars [] := fun sp _ => by
    rw [hfn, hvs]; rfl
  refine ⟨ds, [], p ++ [], [], p, [], hW', hres' _ _ _, hargs _ hold, hvars _ hold, World.keptBut_mono (fun x hx => ⟨hx, ?_⟩) (hb.frame (· ∈ p ++ [])), fun _ => ?_⟩
  · exact Or.inr (by simpa using hx)
  · refine ⟨ok_one hres rfl (okWide_bool_mk htb _), _, _, ([] ++ p) ++ [], ⟨[] ++ p, [], trodAll_append (hargs _ (fun _ _ => rfl)) (hres' _ _ _), hvars _ (fun _ _ => rfl), rfl, ?_, ?_⟩, ?_⟩
    · intro b off hp
      have hin : MemPlace.cell b off ∈ p ++ [] := by simpa using hp
      rw [hb.frozen (hlt _ hin)]
      exact hfz b off hin
    · intro ha
      simpa using hnd ha
    · intro x hx _
      simpa using hx
end
end Go.Proofs.Ytndkkgkcbbmnpaa
namespace Go.Proofs.Ytndkkgkcbbmnpaa
open Go.ChangeShapes Go.WideShapes Go.ChangeAt Go.RowKit Go.Pg

section
variable {H : Type} {enc : TypeId × Value → H} {P : Program} {w : World} {base : Nat} {sp : Nat → Bool} {held : Bool}
theorem open_digest {t e : TypeId} {fuel : Nat} {cs : List Value} {x : DataW H × List MemPlace} (ht : P.underlying t = some (.array 32 e)) (he : P.underlying e = some (.int .u8)) (hc : P.cellsOf e = 1) (h32 : P.cellsOf t = 32)
    (h : DataW.trod enc P w base sp held fuel t cs = some x) : ∃ l : List UInt8, l.length = 32 ∧ cs = cellsL l := by
  obtain ⟨xs, m, rfl, rfl, hl, hxs, hi⟩ := DataW.trod_array ht h
  rw [h32] at hl
  have hget : ∀ i, i < 32 → ∃ b : UInt8, cs[i]? = some (.int .u8 (b.toNat : Int)) := fun i hlt => by
    have h1 := hi i hlt
    rw [hc, Nat.mul_one] at h1
    have hx : i < xs.length := by omega
    rw [List.getElem?_eq_getElem hx] at h1
    obtain ⟨n, hn, -, hwf⟩ := DataW.trod_int he h1
    obtain ⟨h0, h255⟩ := bounds_u8 hwf
    refine ⟨UInt8.ofNat n.toNat, ?_⟩
    have h2 := congrArg (fun l : List Value => l[0]?) hn
    simp only [List.getElem?_take, List.getElem?_drop, Nat.add_zero, Nat.lt_one_iff, if_true] at h2
    rw [h2]
    simp only [List.getElem?_cons_zero, Option.some.injEq, Value.int.injEq, true_and, UInt8.toNat_ofNat']
    omega
  refine ⟨cs.map fun v => match v with | .int _ n => UInt8.ofNat n.toNat | _ => 0, by simpa using hl, ?_⟩
  unfold cellsL
  refine List.ext_getElem? fun i => ?_
  rcases Nat.lt_or_ge i 32 with hlt | hge
  · obtain ⟨b, hb⟩ := hget i hlt
    rw [List.getElem?_map, List.getElem?_map, hb]
    simp
  · rw [List.getElem?_eq_none (by omega), List.getElem?_eq_none (by simp; omega)]
theorem open_word {t : TypeId} {fuel : Nat} {cs : List Value} {x : DataW H × List MemPlace} (ht : P.underlying t = some (.int .u64))
    (h : DataW.trod enc P w base sp held fuel t cs = some x) : ∃ n : Nat, (n : Int) < 18446744073709551616 ∧ cs = [.int .u64 (n : Int)] := by
  obtain ⟨n, rfl, -, hwf⟩ := DataW.trod_int ht h
  obtain ⟨h0, h1⟩ := bounds_u64 hwf
  exact ⟨n.toNat, by omega, by rw [Int.toNat_of_nonneg h0]⟩
end
theorem fieldAt {P : Program} {t : TypeId} {i : Nat} {u : TypeId} {o : Nat} (h : ((P.fieldsOf t)[i]?).map (fun f => (f.type, f.offset)) = some (u, o)) : ∃ f, (P.fieldsOf t)[i]? = some f ∧ f.type = u ∧ f.offset = o := by
  cases hf : (P.fieldsOf t)[i]? with
  | none => simp [hf] at h
  | some f => simp [hf] at h; exact ⟨f, rfl, h.1, h.2⟩
theorem cut_at (l : List Value) (a b : Nat) : l.drop a = (l.drop a).take b ++ l.drop (a + b) := by rw [← List.drop_drop]; exact (List.take_append_drop ..).symm

section
variable {H : Type} {enc : TypeId × Value → H} {w W : World} {base b0 : Nat} {sp : Nat → Bool} {held : Bool} {r : Reach}
set_option maxRecDepth 100000 in
theorem open_header {v : Value} {d : DataW H} {p : List MemPlace} (hv : Value.okWide Try.prog W r b0 47 v) (h : DataW.Trod enc Try.prog w base sp held 47 v d p) : ∃ x : Hdr, x.ok ∧ v = .agg (hdrCells x) := by
  have hu : Try.prog.underlying 47 = some (.struct (Try.prog.fieldsOf 47)) := by kernel_rfl
  obtain ⟨cs, rfl, hsz⟩ := okWide_struct hu hv
  obtain ⟨fuel, hf⟩ := h
  obtain ⟨xs, n, -, -, hl, hxl, hi⟩ := DataW.trod_struct hu hf
  have hn : xs.length = 7 := by rw [hxl]; kernel_rfl
  have hl' : cs.toList.length = 131 := by rw [show cs.toList = (Value.agg cs).cells.toList from rfl, hl]; kernel_rfl
  have c1 : Try.prog.cellsOf 5 = 1 := by kernel_rfl
  have c32 : Try.prog.cellsOf 37 = 32 := by kernel_rfl
  have c64 : Try.prog.cellsOf 38 = 1 := by kernel_rfl
  have key : ∀ (i : Nat) (u : TypeId) (o : Nat), ((Try.prog.fieldsOf 47)[i]?).map (fun f => (f.type, f.offset)) = some (u, o) → i < 7 → ∃ y, DataW.trod enc Try.prog w base sp held n u ((cs.toList.drop o).take (Try.prog.cellsOf u)) = some y := fun i u o hio hlt => by
    obtain ⟨f, hf1, rfl, rfl⟩ := fieldAt hio
    have := hi i f hf1
    rw [List.getElem?_eq_getElem (by omega)] at this
    exact ⟨_, this⟩
  obtain ⟨y0, k0⟩ := key 0 37 0 (by kernel_rfl) (by decide)
  obtain ⟨y1, k1⟩ := key 1 38 32 (by kernel_rfl) (by decide)
  obtain ⟨y2, k2⟩ := key 2 38 33 (by kernel_rfl) (by decide)
  obtain ⟨y3, k3⟩ := key 3 38 34 (by kernel_rfl) (by decide)
  obtain ⟨y4, k4⟩ := key 4 37 35 (by kernel_rfl) (by decide)
  obtain ⟨y5, k5⟩ := key 5 37 67 (by kernel_rfl) (by decide)
  obtain ⟨y6, k6⟩ := key 6 37 99 (by kernel_rfl) (by decide)
  obtain ⟨l0, n0, e0⟩ := open_digest underlyingDig Try.underlying5 c1 c32 k0
  obtain ⟨l1, n1, e1⟩ := open_word Try.underlying38 k1
  obtain ⟨l2, n2, e2⟩ := open_word Try.underlying38 k2
  obtain ⟨l3, n3, e3⟩ := open_word Try.underlying38 k3
  obtain ⟨l4, n4, e4⟩ := open_digest underlyingDig Try.underlying5 c1 c32 k4
  obtain ⟨l5, n5, e5⟩ := open_digest underlyingDig Try.underlying5 c1 c32 k5
  obtain ⟨l6, n6, e6⟩ := open_digest underlyingDig Try.underlying5 c1 c32 k6
  rw [c32] at e0 e4 e5 e6
  rw [c64] at e1 e2 e3
  refine ⟨⟨l0, l1, l2, l3, l4, l5, l6⟩, ⟨n0, n4, n5, n6, n1, n2, n3⟩, ?_⟩
  unfold hdrCells
  refine congrArg Value.agg (Array.ext' ?_)
  have hd : cs.toList.drop 131 = [] := List.drop_eq_nil_of_le (by omega)
  have a0 := cut_at cs.toList 0 32
  have a1 := cut_at cs.toList 32 1
  have a2 := cut_at cs.toList 33 1
  have a3 := cut_at cs.toList 34 1
  have a4 := cut_at cs.toList 35 32
  have a5 := cut_at cs.toList 67 32
  have a6 := cut_at cs.toList 99 32
  simp only [Nat.reduceAdd] at a0 a1 a2 a3 a4 a5 a6
  rw [hd, List.append_nil, e6] at a6
  rw [a6, e5] at a5
  rw [a5, e4] at a4
  rw [a4, e3] at a3
  rw [a3, e2] at a2
  rw [a2, e1] at a1
  rw [a1, e0, List.drop_zero] at a0
  rw [a0]
  simp

set_option maxRecDepth 100000 in
theorem open_block {v : Value} {d : DataW H} {p : List MemPlace} (hv : Value.okWide Try.prog W r b0 40 v) (h : DataW.Trod enc Try.prog w 0 (fun _ => true) held 40 v d p) (hfz : ∀ b o, MemPlace.cell b o ∈ p → w.frozen? ⟨b, o, none⟩ = false) :
    ∃ (x : Blk) (a : Option Addr) (c : Nat), x.ok ∧ v = .agg (blkCells x.p x.nn x.bb (.slice a x.T.length c)) ∧ RowsAt (fun b => b < w.heap.size) w (.slice a x.T.length c) x.T ∧ rowsSum x.T + 1 ≤ Rows.uptoBulk d := by
  have hu : Try.prog.underlying 40 = some (.struct (Try.prog.fieldsOf 40)) := by kernel_rfl
  obtain ⟨cs, rfl, hsz⟩ := okWide_struct hu hv
  obtain ⟨fuel, hf⟩ := h
  obtain ⟨xs, n, -, he, hl, hxl, hi⟩ := DataW.trod_struct hu hf
  have hn : xs.length = 4 := by rw [hxl]; kernel_rfl
  have hl' : cs.toList.length = 35 := by rw [show cs.toList = (Value.agg cs).cells.toList from rfl, hl]; kernel_rfl
  have c1 : Try.prog.cellsOf 5 = 1 := by kernel_rfl
  have c32 : Try.prog.cellsOf 37 = 32 := by kernel_rfl
  have c64 : Try.prog.cellsOf 38 = 1 := by kernel_rfl
  have cT : Try.prog.cellsOf 22 = 1 := by kernel_rfl
  have key : ∀ (i : Nat) (u : TypeId) (o : Nat), ((Try.prog.fieldsOf 40)[i]?).map (fun f => (f.type, f.offset)) = some (u, o) → i < 4 → ∃ y, xs[i]? = some y ∧ DataW.trod enc Try.prog w 0 (fun _ => true) held n u ((cs.toList.drop o).take (Try.prog.cellsOf u)) = some y := fun i u o hio hlt => by
    obtain ⟨f, hf1, rfl, rfl⟩ := fieldAt hio
    have := hi i f hf1
    rw [List.getElem?_eq_getElem (by omega)] at this
    exact ⟨_, List.getElem?_eq_getElem (by omega), this⟩
  obtain ⟨y0, -, k0⟩ := key 0 37 0 (by kernel_rfl) (by decide)
  obtain ⟨y1, -, k1⟩ := key 1 38 32 (by kernel_rfl) (by decide)
  obtain ⟨y2, -, k2⟩ := key 2 38 33 (by kernel_rfl) (by decide)
  obtain ⟨y3, x3, k3⟩ := key 3 22 34 (by kernel_rfl) (by decide)
  obtain ⟨l0, n0, e0⟩ := open_digest underlyingDig Try.underlying5 c1 c32 k0
  obtain ⟨l1, n1, e1⟩ := open_word Try.underlying38 k1
  obtain ⟨l2, n2, e2⟩ := open_word Try.underlying38 k2
  rw [c32] at e0
  rw [c64] at e1 e2
  rw [cT] at k3
  have hc : ∃ vT, (cs.toList.drop 34).take 1 = [vT] := by
    have : ((cs.toList.drop 34).take 1).length = 1 := by rw [List.length_take, List.length_drop, hl']; decide
    exact List.length_eq_one_iff.1 this
  obtain ⟨vT, e3⟩ := hc
  rw [e3] at k3
  simp only [Prod.mk.injEq] at he
  obtain ⟨rfl, rfl⟩ := he
  have hm : y3 ∈ xs := List.mem_of_getElem? x3
  obtain ⟨T, a, c, rfl, hT, bT⟩ := open_rows Try.underlying22 Try.underlying25 Try.underlying5 (by kernel_rfl) (by kernel_rfl) k3 (fun b o h => hfz b o (List.mem_flatMap.2 ⟨y3, hm, h⟩))
  refine ⟨⟨l0, l1, l2, T⟩, a, c, ⟨n0, n1, n2⟩, ?_, hT, ?_⟩
  · unfold blkCells
    refine congrArg Value.agg (Array.ext' ?_)
    have hd : cs.toList.drop 35 = [] := List.drop_eq_nil_of_le (by omega)
    have a0 := cut_at cs.toList 0 32
    have a1 := cut_at cs.toList 32 1
    have a2 := cut_at cs.toList 33 1
    have a3 := cut_at cs.toList 34 1
    simp only [Nat.reduceAdd] at a0 a1 a2 a3
    rw [hd, List.append_nil, e3] at a3
    rw [a3, e2] at a2
    rw [a2, e1] at a1
    rw [a1, e0, List.drop_zero] at a0
    rw [a0]
    simp
  · have hb : ∀ l : List (DataW H × List MemPlace), y3 ∈ l → Rows.uptoBulk y3.1 ≤ Rows.uptoBulkAll (l.map (·.1)) := by
      intro l
      induction l with
      | nil => intro h; cases h
      | cons z l ih =>
        intro h
        simp only [List.map_cons, Rows.uptoBulkAll]
        rcases List.mem_cons.1 h with rfl | h
        · omega
        · have := ih h; omega
    have := hb xs hm
    simp only [Rows.uptoBulk]
    omega
end
end Go.Proofs.Ytndkkgkcbbmnpaa
namespace Go.Proofs.Ytndkkgkcbbmnpaa
open Go.RowKit Go.Pg

set_option maxRecDepth 100000 in
set_option maxHeartbeats 4000000 in
theorem bdec_any (F : Nat → Prop) (w : World) (a : Option Addr) (n c : Nat) (bs : List UInt8) (h : BytesAt F w (.slice a n c) bs) (hn : n ≤ 140737488351232) :
    Calls Try.prog 23 #[.slice a n c] w (BlkD w (blkDecode bs)) := by
  have hnl := (BytesAt.n h).1
  obtain ⟨ZR, hZR⟩ : ∃ ZR : Array Value, ZR = #[.int .u8 0, .int .u8 0, .int .u8 0, .int .u8 0, .int .u8 0, .int .u8 0, .int .u8 0, .int .u8 0, .int .u8 0, .int .u8 0, .int .u8 0, .int .u8 0, .int .u8 0, .int .u8 0, .int .u8 0, .int .u8 0, .int .u8 0, .int .u8 0, .int .u8 0, .int .u8 0, .int .u8 0, .int .u8 0, .int .u8 0, .int .u8 0, .int .u8 0, .int .u8 0, .int .u8 0, .int .u8 0, .int .u8 0, .int .u8 0, .int .u8 0, .int .u8 0, .int .u64 0, .int .u64 0, .slice none 0 0] := ⟨_, rfl⟩
  have hZR2 : ZR = blkCells (List.replicate 32 0) 0 0 (.slice none 0 0) := by rw [hZR]; rfl
  obtain ⟨Wz, hWz⟩ : ∃ W : World, W = w.alloc (.cells ZR 40) := ⟨_, rfl⟩
  have hbz : Below w.heap.size w Wz := by rw [hWz]; exact Bel.alloc (Bel.refl w) _
  have hrz : Wz.heap[w.heap.size]? = some (.cells ZR 40 (0, 0)) := by rw [hWz]; exact heap_alloc_new w _
  have hzs : Wz.heap.size = w.heap.size + 1 := by rw [hWz]; simp
  have hcall := bread_any _ Wz a n c 4 bs (BytesAt.below h (by rw [hWz]; exact Bel.alloc (Bel.refl w) _)) (by omega)
  have hlen4 := rOpen_len bs 4
  have hsm4 := rOpen_small bs 4
  obtain ⟨O, hO⟩ : ∃ O, O = rOpen bs 4 := ⟨_, rfl⟩
  rw [← hO] at hcall hlen4 hsm4
  have hres : blkDecode bs = if O.2 = true ∧ (O.1.getD 3 (.text [])).isList = true ∧ (rBlk O.1).2 = true ∧ flat (O.1.getD 3 (.text [])).items = true then (⟨(rBlk O.1).1.1, (rBlk O.1).1.2.1, (rBlk O.1).1.2.2, (O.1.getD 3 (.text [])).items.map It.bytes⟩, 0) else (blk0, 190) := by
    unfold blkDecode; rw [hO]
  obtain ⟨X, hX⟩ : ∃ X, X = blkDecode bs := ⟨_, rfl⟩
  rw [← hX]
  rw [← hX] at hres
  obtain ⟨l0, k0⟩ := O
  simp only at hres hcall hlen4 hsm4
  obtain ⟨fs, hu⟩ := underlyingBlk
  have HU := Lib.hid hu
  have HC := Lib.hid hcall
  have HRES := Lib.hid hres
  have HZR := Lib.hid hZR
  have HZR2 := Lib.hid hZR2
  have HWZ := Lib.hid hWz
  have HBZ := Lib.hid hbz
  have HRZ := Lib.hid hrz
  have HLEN := Lib.hid hlen4
  have HSM := Lib.hid hsm4
  have HNL := Lib.hid hnl
  clear hu hcall hres hX hO hZR hZR2 hWz hbz hrz h hlen4 hsm4 hnl
  go_enter Try.func23, Try.ntmps23
  go_wp2_with fail
  rw [← HZR.out, ← HWZ.out]
  refine HC.out.mono ?_
  rintro e w1 ⟨rb, rfl, hrb, hr1, hb1⟩
  have hk1 := (hb1.block _ (by omega)).trans HRZ.out
  have hbl1 := Bel.call HBZ.out hb1
  obtain ⟨a1, n1, c1, hit, hk⟩ := id hr1
  simp only at hit hk
  obtain ⟨q0, q1⟩ := cells2 hk
  have hiz : (Try.prog.info? 40).map (·.size) = some (ZR).size := by rw [HZR.out]; kernel_rfl
  have hoz : (ZR).all (·.oneCell') = true := by rw [HZR.out]; kernel_rfl
  have HIZ := Lib.hid hiz
  have HB0 : Hid (Try.prog.built 40 [] = some ZR) := Lib.hid (by rw [HZR2.out]; exact builtBlk [])
  have HOZ := Lib.hid hoz
  have hbad : ∀ W : World, Below w.heap.size w W → W.heap[w.heap.size]? = some (.cells ZR 40 (0, 0)) → X = (blk0, 190) →
      (W.setRow w.heap.size ZR).heap[w.heap.size]? = some (.cells ZR 40 (0, 0)) ∧ BlkD w X (.returned (.tuple #[.agg ZR, .int .i64 190])) (W.setRow w.heap.size ZR) := by
    intro W hb hk hX
    refine ⟨setRow_heap W _ _ _ _ _ hk, ?_⟩
    rw [hX, HZR2.out]
    exact ⟨none, 0, 0, rfl, SliceAt.nil _ _ _ _, below_setRow hb (Nat.le_refl _) _⟩
  have HBAD := Lib.hid hbad
  have HK1 := Lib.hid hk1
  have HBL1 := Lib.hid hbl1
  have HR1 := Lib.hid hr1
  have HK := Lib.hid hk
  clear hiz hoz hbad hk1 hbl1 hr1 hk HC hb1
  cases k0 with
  | false =>
    have hX : X = (blk0, 190) := by rw [HRES.out, if_neg]; rintro ⟨x, -⟩; cases x
    have HX := Lib.hid (HBAD.out w1 HBL1.out HK1.out hX)
    clear hX hit
    go_wp2_with ((with_reducible refine wpL_store_row 40 (.tmp 2) (.tmp 24) w.heap.size ZR 40 ZR ?_ ⟨HK1.out, HIZ.out, rfl, HOZ.out⟩ ?_); (exact ⟨rfl, rfl, rfl, by rw [HZR.out]; rfl⟩))
    refine bodyPost_ret (v := .tuple #[.agg ZR, .int .i64 190]) (results_cell_row_tmp rfl _ _ w.heap.size 40 ZR (0, 0) (.struct fs) rfl HX.out.1 HU.out rfl HIZ.out _ rfl) rfl ?_
    exact HX.out.2
  | true =>
    have hl4 := HLEN.out rfl
    rcases SliceAt.split hit with ⟨h0, -⟩ | ⟨b, o, rfl, hn1, -, hfb⟩
    · rw [h0] at hl4; cases hl4
    obtain ⟨x1, y1, z1, x2, y2, z2, g0, -, g2, git⟩ := ItemsAt.cell hit 3 (by omega)
    obtain ⟨I3, hI3⟩ : ∃ I, I = l0[3]'(by omega) := ⟨_, rfl⟩
    have hgd : l0.getD 3 (.text []) = I3 := by rw [hI3, List.getD_eq_getElem?_getD, List.getElem?_eq_getElem (by omega)]; rfl
    have hsm3 := HSM.out rfl I3 (by rw [hI3]; exact List.getElem_mem _)
    rw [← hI3] at g0 git
    rw [hgd] at HRES
    have d0 : w1.cell? ⟨b, o + 9, none⟩ = some (.bool I3.isList) := g0
    have d2 : w1.cell? ⟨b, o + 9 + 2, none⟩ = some (.slice x2 y2 z2) := g2
    have hn4 : n1 = 4 := by rw [hn1]; exact hl4
    clear g0 g2 hI3 hgd hl4 hn1
    subst hn4
    obtain ⟨-, _, _, _, _, _, _, -, e2', -, hy2⟩ := ItemAt.form git
    simp only [Value.slice.injEq] at e2'
    obtain ⟨rfl, rfl, rfl⟩ := e2'
    have hits := ItemAt.items (d := 7) git
    obtain ⟨il, hil⟩ : ∃ il, il = I3.isList := ⟨_, rfl⟩
    obtain ⟨L, hL⟩ : ∃ L, L = I3.items := ⟨_, rfl⟩
    rw [← hil] at d0 HRES
    rw [← hL] at hits hy2 HRES hsm3
    have hLn : L.length ≤ 16777215 := hsm3
    have HITS := Lib.hid hits
    have HY2 := Lib.hid hy2
    clear hit git hil hL hits hy2 hsm3
    cases il with
    | false =>
      have hX : X = (blk0, 190) := by rw [HRES.out, if_neg]; rintro ⟨-, x, -⟩; cases x
      have HX := Lib.hid (HBAD.out w1 HBL1.out HK1.out hX)
      clear hX
      go_wp2_with ((with_reducible refine wpL_store_row 40 (.tmp 2) (.tmp 24) w.heap.size ZR 40 ZR ?_ ⟨HK1.out, HIZ.out, rfl, HOZ.out⟩ ?_); (exact ⟨rfl, rfl, rfl, by rw [HZR.out]; rfl⟩))
      refine bodyPost_ret (v := .tuple #[.agg ZR, .int .i64 190]) (results_cell_row_tmp rfl _ _ w.heap.size 40 ZR (0, 0) (.struct fs) rfl HX.out.1 HU.out rfl HIZ.out _ rfl) rfl ?_
      exact HX.out.2
    | true =>
      obtain ⟨p, l1, k1, h1⟩ : ∃ b l k, rDig l0 true = (b, l, k) := ⟨_, _, _, rfl⟩
      obtain ⟨nn, l2, k2, h2⟩ : ∃ b l k, rWord l1 k1 = (b, l, k) := ⟨_, _, _, rfl⟩
      obtain ⟨bb, l3, k3, h3⟩ : ∃ b l k, rWord l2 k2 = (b, l, k) := ⟨_, _, _, rfl⟩
      have hB : rBlk l0 = ((p, nn, bb), k3) := by unfold rBlk; simp only [h1, h2, h3]
      have hp : p.length = 32 := by have := (rBlk_ok l0).1; rw [hB] at this; exact this
      have hX : X = if k3 = true ∧ flat L = true then (⟨p, nn, bb, L.map It.bytes⟩, 0) else (blk0, 190) := by rw [HRES.out, hB]; simp
      obtain ⟨W1, hW1⟩ : ∃ W : World, W = w1.alloc (.cells #[.slice x2 y2 z2, .bool true] 78) := ⟨_, rfl⟩
      have hsw1 : W1.heap.size = w1.heap.size + 1 := by rw [hW1]; simp
      have hbw1 : Below w1.heap.size w1 W1 := by rw [hW1]; exact Bel.alloc (Bel.refl w1) _
      have htb : W1.heap[w1.heap.size]? = some (.cells #[.slice x2 y2 z2, .bool true] 78 (0, 0)) := by rw [hW1]; exact heap_alloc_new w1 _
      have hrbw : rb < w1.heap.size := (Array.getElem?_eq_some_iff.1 HK.out).1
      have hwlt : w.heap.size < w1.heap.size := (Array.getElem?_eq_some_iff.1 HK1.out).1
      have HCH1 : Hid (Chg (fun k => k = rb) W1 W1) := Lib.hid (Chg.refl _ _)
      have hr1' : RdrAt (fun b => (Wz.heap.size ≤ b ∧ b ≠ rb) ∧ b < w1.heap.size) W1 8 rb (l0, true) := by
        obtain ⟨a', n', c', hit', hk'⟩ := HR1.out
        exact ⟨a', n', c', ItemsAt.carry hit' (fun b hlt x => ⟨x, hlt⟩) (fun b _ hlt => hbw1.block b hlt), (hbw1.block _ hrbw).trans hk'⟩
      have HR1' := Lib.hid hr1'
      have HX := Lib.hid hX
      have HP := Lib.hid hp
      have H1 := Lib.hid h1
      have H2 := Lib.hid h2
      have H3 := Lib.hid h3
      have HW1 := Lib.hid hW1
      have HBW1 := Lib.hid hbw1
      have HTB := Lib.hid htb
      have HSW1 := Lib.hid hsw1
      clear hB hX hp h1 h2 h3 hW1 hbw1 htb hr1' hsw1
      have hc1 := brdig_any (fun b => (Wz.heap.size ≤ b ∧ b ≠ rb) ∧ b < w1.heap.size) W1 7 rb l0 true HR1'.out (fun x => x.1.2 rfl)
      rw [H1.out] at hc1
      have HC1 := Lib.hid hc1
      clear hc1
      go_wp2_with fail
      rw [← HW1.out]
      refine HC1.out.mono ?_
      rintro e w2 ⟨rfl, hr2, hch2⟩
      simp only at hr2 ⊢
      have HR2 := Lib.hid hr2
      have HCH2 := Lib.hid (HCH1.out.trans hch2 (fun _ _ x => x))
      clear hr2 hch2 HC1
      have hc2 := brword_any (fun b => (Wz.heap.size ≤ b ∧ b ≠ rb) ∧ b < w1.heap.size) w2 7 rb l1 k1 HR2.out (fun x => x.1.2 rfl)
      rw [H2.out] at hc2
      have HC2 := Lib.hid hc2
      clear hc2
      go_wp2_with fail
      refine HC2.out.mono ?_
      rintro e w3 ⟨rfl, hr3, hch3⟩
      simp only at hr3 ⊢
      have HR3 := Lib.hid hr3
      have HCH3 := Lib.hid (HCH2.out.trans hch3 (fun _ _ x => x))
      clear hr3 hch3 HC2
      have hc3 := brword_any (fun b => (Wz.heap.size ≤ b ∧ b ≠ rb) ∧ b < w1.heap.size) w3 7 rb l2 k2 HR3.out (fun x => x.1.2 rfl)
      rw [H3.out] at hc3
      have HC3 := Lib.hid hc3
      clear hc3
      go_wp2_with fail
      refine HC3.out.mono ?_
      rintro e w4 ⟨rfl, hr4, hch4⟩
      simp only at hr4 ⊢
      have hch := HCH3.out.trans hch4 (fun _ _ x => x)
      obtain ⟨a4, n4, c4, -, hk4⟩ := hr4
      simp only at hk4
      have hbu := builtBlkOf p nn bb HP.out
      have HBU := Lib.hid hbu
      obtain ⟨W4, hW4⟩ : ∃ W : World, W = (w4.alloc (.cells ZR 40)).setRow w4.heap.size (blkCells p nn bb (.slice none 0 0)) := ⟨_, rfl⟩
      have hk40 : W4.heap[w4.heap.size]? = some (.cells (blkCells p nn bb (.slice none 0 0)) 40 (0, 0)) := by rw [hW4]; exact setRow_heap _ _ _ _ _ _ (heap_alloc_new w4 _)
      have ho4 : ∀ k, k < w4.heap.size → W4.heap[k]? = w4.heap[k]? := fun k hk => by rw [hW4, setRow_other _ _ _ _ (by omega), Below.heap_alloc _ _ _ hk]
      have hs4 := hch.size
      have hsw1 := HSW1.out
      have hsW4 : W4.heap.size = w4.heap.size + 1 := by rw [hW4]; simp [World.setRow]
      have hb14 : Below w.heap.size w w4 := (HBL1.out.trans (HBW1.out.mono (by omega))).trans (hch.toBelowAt (by omega) (fun k hk e => by omega))
      have hb4 : Below w.heap.size w W4 := by rw [hW4]; exact below_setRow (hb14.alloc hb14.size _) (by omega) _
      have hold : ∀ k, k < w1.heap.size → k ≠ rb → W4.heap[k]? = w1.heap[k]? := fun k hk hn => by
        rw [ho4 k (by omega), hch.block k (by omega) hn, HBW1.out.block k hk]
      have hst : TxSt (fun b => (Wz.heap.size ≤ b ∧ b ≠ rb) ∧ b < w1.heap.size) w ZR (w4.heap.size + 1) rb w1.heap.size w4.heap.size (.slice a4 n4 c4) k3 p nn bb L W4 L true [] (.slice none 0 0) := by
        refine ⟨hb4, ?_, (ho4 _ (by omega)).trans hk4, ⟨x2, y2, z2, ?_, ?_⟩, hk40, OwnList.nil, TxData.start L, fun b hb => ?_, ?_, HP.out, by omega⟩
        · rw [hold _ hwlt (by omega)]; exact HK1.out
        · exact ItemsAt.carry HITS.out (fun b hlt x => ⟨x, hlt⟩) (fun b hb hlt => hold b hlt hb.2)
        · rw [ho4 _ (by omega), hch.block _ (by omega) (by omega)]; exact HTB.out
        · obtain ⟨⟨u1, u2⟩, u3⟩ := hb; refine ⟨?_, ?_, ?_, ?_, u2⟩ <;> omega
        · refine ⟨?_, ?_, ?_, ?_, ?_, ?_, ?_, ?_, ?_⟩ <;> omega
      have hoc := blkCells_one p nn bb none 0 0
      have hsh : (blkCells p nn bb (.slice none 0 0)).size = (ZR).size := by rw [blkCells_size _ _ _ _ HP.out, HZR.out]; rfl
      have HA4 := Lib.hid (heap_alloc_new w4 (.cells ZR 40))
      have HST := Lib.hid hst
      have HOC := Lib.hid hoc
      have HSH := Lib.hid hsh
      have HIH := Lib.hid (show (Try.prog.info? 40).map (·.size) = some (blkCells p nn bb (.slice none 0 0)).size by rw [blkCells_size _ _ _ _ HP.out]; exact infoBlk)
      have HW4 := Lib.hid hW4
      clear hch hk4 hch4 hbu hW4 hk40 ho4 hs4 hsw1 hsW4 hb14 hb4 hold hst hoc hsh q0 q1 d0 d2 HC3
      go_wp2_with (first
        | (refine wpList_build_to rfl 40 #[(0, .tmp 35), (1, .tmp 37), (2, .tmp 39)] rfl _ (by kernel_rfl) (blkCells p nn bb (.slice none 0 0)) HBU.out ?_)
        | (rw [← HZR.out]; (with_reducible refine wpL_store_row 40 (.tmp 6) (.tmp 40) w4.heap.size (blkCells p nn bb (.slice none 0 0)) 40 ZR ?_ ⟨HA4.out, HIH.out, HSH.out.symm, HOC.out⟩ ?_); (exact ⟨rfl, rfl, rfl, rfl⟩); rw [← HW4.out]))
      have HST2 : ∃ G : Nat → Prop, Hid (TxSt G w ZR (w4.heap.size + 1) rb w1.heap.size w4.heap.size (.slice a4 n4 c4) k3 p nn bb L W4 L true [] (.slice none 0 0)) := ⟨_, HST⟩
      obtain ⟨G, HST'⟩ := HST2
      obtain ⟨i0r, hi, hz0, hz1, hz2⟩ := info_parts infoRow
      clear HST HCH1 HCH2 HCH3 HR1' HR2 HR3 HR1 HTB HA4 HBU
      simp only [Act.put]
      go_loopg [] (L.length + 1) (fun gk wr => ∃ (rem : List It) (ok : Bool) (T : List (List UInt8)) (av : Option Addr) (m cv : Nat), Hid (TxSt G w ZR (w4.heap.size + 1) rb w1.heap.size w4.heap.size (.slice a4 n4 c4) k3 p nn bb L wr rem ok T (.slice av m cv)) ∧ Hid (m = T.length) ∧ Hid (rem.length + ok.toNat ≤ gk))
      case atStart => exact ⟨L, true, [], none, 0, 0, HST', Lib.hid rfl, Lib.hid (Nat.le_refl _)⟩
      case round =>
        obtain ⟨rem, ok, T, av, m, cv, HS, HM, HG⟩ := hrel
        obtain ⟨ar, nr, cr, hits, htk⟩ := id HS.out.tx
        simp only at hits htk
        have hnr : nr = rem.length := by
          obtain ⟨a', c', hv, -⟩ := SliceAt.len hits
          simp only [Value.slice.injEq] at hv
          exact hv.2.1
        obtain ⟨q0, q1⟩ := cells2 htk
        obtain ⟨s0, s1⟩ := cells2 HS.out.rd
        have hexit : ok = false ∨ k3 = false ∨ flat L = false → X = (blk0, 190) := by
          intro hc
          rw [HX.out, if_neg]
          rintro ⟨h1, h2⟩
          rcases hc with hc | hc | hc
          · have := (HS.out.data.bad hc).1; rw [this] at h2; cases h2
          · rw [hc] at h1; cases h1
          · rw [hc] at h2; cases h2
        have HEXIT := Lib.hid hexit
        have hsum := HS.out.data.sum
        have HSUM := Lib.hid hsum
        have hml : m ≤ L.length := by
          have h1 := HM.out
          have h2 : 1 ≤ rem.length + ok.toNat := by
            cases ok with
            | true => simp
            | false => have := (HS.out.data.bad rfl).2; have := List.length_pos_iff.2 this; omega
          omega
        clear hexit hsum hits htk
        rcases rem with - | ⟨y, rs⟩
        · obtain ⟨rfl, hf, hT⟩ := HS.out.data.all
          have HF := Lib.hid hf
          have HT := Lib.hid hT
          simp only [List.length_nil] at hnr
          subst hnr
          clear hf hT
          cases k3 with
          | false =>
            have HXX := Lib.hid (HBAD.out wr HS.out.bel HS.out.zero (HEXIT.out (.inr (.inl rfl))))
            repeat (first
                | ((with_reducible refine wpL_build_to 40 #[] [] ZR ?_ HB0.out ?_); (exact ⟨rfl, rfl, by simp⟩))
                | ((with_reducible refine wpL_store_row 40 (.tmp 2) (.tmp 72) w.heap.size ZR 40 ZR ?_ ⟨HS.out.zero, HIZ.out, rfl, HOZ.out⟩ ?_); (exact ⟨rfl, rfl, rfl, rfl⟩))
                | go_values | go_skip | go_guarded | go_step | go_upon)
            refine bodyPost_ret (v := .tuple #[.agg ZR, .int .i64 190]) (results_cell_row_tmp rfl _ _ w.heap.size 40 ZR (0, 0) (.struct fs) rfl HXX.out.1 HU.out rfl HIZ.out _ rfl) rfl ?_
            exact HXX.out.2
          | true =>
            have HXX : Hid (X = (⟨p, nn, bb, T⟩, 0)) := Lib.hid (by rw [HX.out, if_pos ⟨rfl, HF.out⟩, HT.out])
            obtain ⟨BC, hBC⟩ : ∃ BC, BC = blkCells p nn bb (.slice av m cv) := ⟨_, rfl⟩
            have hbox := HS.out.box
            rw [← hBC] at hbox
            have HBX := Lib.hid hbox
            have HBS := Lib.hid (show (Try.prog.info? 40).map (·.size) = some BC.size by rw [hBC, blkCells_size _ _ _ _ HP.out]; exact infoBlk)
            have HBO := Lib.hid (show BC.all (·.oneCell') = true by rw [hBC]; exact blkCells_one _ _ _ _ _ _)
            have HBZ2 := Lib.hid (show ZR.size = BC.size by rw [hBC, blkCells_size _ _ _ _ HP.out, HZR.out]; rfl)
            have HBC := Lib.hid hBC
            clear hBC hbox
            repeat (first
              | ((with_reducible refine wpL_load_row 40 (.tmp 6) w4.heap.size BC 40 (.struct fs) ?_ ⟨HBX.out, HU.out, rfl, HBS.out⟩ ?_); (exact ⟨rfl, rfl, rfl⟩))
              | ((with_reducible refine wpL_store_row 40 (.tmp 2) (.tmp 73) w.heap.size BC 40 ZR ?_ ⟨HS.out.zero, HBS.out, HBZ2.out, HBO.out⟩ ?_); (exact ⟨rfl, rfl, rfl, rfl⟩))
              | go_values | go_skip | go_guarded | go_step | go_upon)
            refine bodyPost_ret (v := .tuple #[.agg BC, .int .i64 0]) (results_cell_row_tmp rfl _ _ w.heap.size 40 BC (0, 0) (.struct fs) rfl (setRow_heap wr _ _ _ _ _ HS.out.zero) HU.out rfl HBS.out _ rfl) rfl ?_
            rw [HXX.out, HBC.out]
            obtain ⟨u1, u2, u3, -⟩ := HS.out.place
            have hrow : RowsAt (fun b => w.heap.size < b) wr (.slice av m cv) T := HS.out.own.at carriedRow (fun b hb _ => (HS.out.foot b hb).1) (fun b hb _ => by show w.heap.size < b; omega) (by decide)
            exact ⟨av, m, cv, rfl, RowsAt.carry hrow (fun b _ hb => Nat.le_of_lt hb) (fun b hb _ => setRow_other _ _ _ _ (by have : w.heap.size < b := hb; omega)), below_setRow HS.out.bel (Nat.le_refl _) _⟩
        · have hnr0 : 0 < nr := by rw [hnr]; simp
          have HNR := Lib.hid hnr
          clear hnr
          cases ok with
          | false =>
            have HXX := Lib.hid (HBAD.out wr HS.out.bel HS.out.zero (HEXIT.out (.inl rfl)))
            cases k3
            all_goals
              repeat (first
                | ((with_reducible refine wpL_build_to 40 #[] [] ZR ?_ HB0.out ?_); (exact ⟨rfl, rfl, by simp⟩))
                | ((with_reducible refine wpL_store_row 40 (.tmp 2) (.tmp 72) w.heap.size ZR 40 ZR ?_ ⟨HS.out.zero, HIZ.out, rfl, HOZ.out⟩ ?_); (exact ⟨rfl, rfl, rfl, rfl⟩))
                | go_values | go_skip | go_guarded | go_step | go_upon)
              refine bodyPost_ret (v := .tuple #[.agg ZR, .int .i64 190]) (results_cell_row_tmp rfl _ _ w.heap.size 40 ZR (0, 0) (.struct fs) rfl HXX.out.1 HU.out rfl HIZ.out _ rfl) rfl ?_
              exact HXX.out.2
          | true =>
            have htx : RdrAt G wr.drew 7 w1.heap.size (y :: rs, true) := HS.out.tx.carry (fun _ _ _ => rfl) rfl
            have hcl := brtext_any G wr.drew 6 w1.heap.size (y :: rs) true htx (fun hb => (HS.out.foot _ hb).2.2.1 rfl)
            have HCL := Lib.hid hcl
            have hle : (T.length + 1) * 24 ≤ 140737488355328 := by have := HM.out; omega
            have g34 := (blk_facts HP.out HS.out.box).2.2.2
            obtain ⟨t3, hrt⟩ : ∃ t3, t3 = rText (y :: rs) true := ⟨_, rfl⟩
            rw [← hrt] at HCL
            have hpush := fun (w5 : World) (a : Option Addr) (n c : Nat) => HS.out.push (List.cons_ne_nil y rs) (w5 := w5) (a := a) (n := n) (c := c)
            rw [← hrt] at hpush
            have HPUSH := Lib.hid hpush
            clear htx hcl hrt hpush
            go_wp2_with fail
            go_region_law (first | (go_simp; go_at_call 58; refine HCL.out.mono ?_; rintro e5 w5 ⟨a5, n5, c5, rfl, k1, k2, k3'⟩; obtain ⟨R, j1, j2, j3, j4, j5, j6⟩ := HPUSH.out w5 a5 n5 c5 k1 k2 k3'; have HR1 := Lib.hid j1; have HRO := Lib.hid j2; have HRS := Lib.hid j3; have HRN := Lib.hid j6; have e34 := (blk_facts HP.out j5).2.2.2; have e35 := (blk_facts HP.out ((Below.heap_alloc w5 (.cells #[.slice a5 n5 c5] 25) _ (by omega)).trans j5)).2.2.2; clear k1 k2 k3' j1 j2 j3 j5 j6) | (refine step_append_at rfl (.tmp 54) (.tmp 57) 22 rfl (w4.heap.size + 1) 25 i0r (.slice none 0 0) 1 24 underlyingRows hi hz0 hz1 hz2 rfl (by decide) (by decide) HR1.out (.slice av m cv) T (by simp [Act.eval]) HRO.out (.slice (some ⟨w5.heap.size, 0, none⟩) 1 1) [t3.1] (fun _ => True) (by simp [Act.eval]) HRS.out Nat.one_pos hle (by simp; omega) (m + 1) (by have := HM.out; simp; omega) ?_; intro g cap W2 ho hg hm; obtain ⟨n1, n2⟩ := HRN.out g cap (m + 1) W2 ho hg hm; have m34 := (blk_facts HP.out n1).2.2.2; have fr := frozen_of_row W2 w4.heap.size 34 _ _ n1; have HN := Lib.hid n2; clear n1 n2 ho hg hm))
            all_goals
              go_wp2_with fail
              have hlt' : t3.2.1.length + t3.2.2.toNat ≤ gk - 1 ∧ gk - 1 < gk := by
                have h1 := HN.out.data.sum
                have h2 := HSUM.out
                have h3 := HG.out
                simp only [List.length_append, List.length_cons, List.length_nil, Bool.toNat_true] at h1 h2 h3
                omega
              have HLT := Lib.hid hlt'
              go_roundg (gk - 1)
              case rel => exact ⟨_, _, _, _, _, _, HN, Lib.hid (by simp; exact HM.out), Lib.hid HLT.out.1⟩
              case measure => exact HLT.out.2
end Go.Proofs.Ytndkkgkcbbmnpaa
