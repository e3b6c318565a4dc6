/-
  What the laws of blocks ask besides the contracts: a long row's load in a region that draws; equality of headers; the values of the fixed examples.
  Contract of block.Decode.
  Contract of pergolalaw19.alive: the fixed examples.
-/
import Derived.Test.YtndkkgkcbbmnpaaHdAM
namespace Go.Pg
open Go.RowKit
section
variable {P : Program}
theorem yieldsIf_load_row {ops : Array Oper} {S : World → Prop} {op : Oper} {a : Act} (hw : Region.wanted op (yielded ops a.tmps) = true) (ty : TypeId) (x : Operand) (ho : op.op = .load ty x)
    (g : Nat) (hx : a.eval x = .pointer (some ⟨g, 0, none⟩)) (cs : Array Value) (t : TypeId) (d : TypeDesc) (hS : ∀ w, S w → w.heap[g]? = some (.cells cs t (0, 0)))
    (hu : P.underlying ty = some d) (hd : (match d with | .struct _ | .array _ _ => true | _ => false) = true) (hi : (P.info? ty).map (·.size) = some cs.size) : YieldsIf P ops S op (.agg cs) a :=
  .inl ⟨hw, fun w hw' => by
    unfold execOp
    simp only [ho, hx, Instr.loadAt, Instr.sureAddr, Sem.run_bind, Sem.run_pure, Result.andThen_ok, run_loadVar_row w g t ty cs (0, 0) d (hS w hw') hu (by cases d <;> exact hd) hi]⟩
theorem yieldsIf_eql_agg {ops : Array Oper} {S : World → Prop} {op : Oper} {a : Act} (hw : Region.wanted op (yielded ops a.tmps) = true) (t : TypeId) (x y : Operand) (t2 : TypeId) (ho : op.op = .binOp .eql t x y t2)
    (xs ys : Array Value) (hx : a.eval x = .agg xs) (hy : a.eval y = .agg ys) (hg : P.eqGuardType P.depth t = false) (b : Bool) (h : ∀ W : World, (Op.equalIn 10000 t (.agg xs) (.agg ys)).run P W = .ok b W) : YieldsIf P ops S op (.bool b) a :=
  .inl ⟨hw, fun w _ => by
    unfold execOp
    simp only [ho, hx, hy, Sem.run_bind, run_eqGuard_agg w .eql t x y xs ys hg, run_eql_struct, h, Result.andThen_ok, Sem.run_pure]⟩
theorem yieldsIf_neq_agg {ops : Array Oper} {S : World → Prop} {op : Oper} {a : Act} (hw : Region.wanted op (yielded ops a.tmps) = true) (t : TypeId) (x y : Operand) (t2 : TypeId) (ho : op.op = .binOp .neq t x y t2)
    (xs ys : Array Value) (hx : a.eval x = .agg xs) (hy : a.eval y = .agg ys) (hg : P.eqGuardType P.depth t = false) (b : Bool) (h : ∀ W : World, (Op.equalIn 10000 t (.agg xs) (.agg ys)).run P W = .ok b W) : YieldsIf P ops S op (.bool (!b)) a :=
  .inl ⟨hw, fun w _ => by
    unfold execOp
    simp only [ho, hx, hy, Sem.run_bind, run_eqGuard_agg w .neq t x y xs ys hg, run_neq_struct, h, Result.andThen_ok, Sem.run_pure]⟩
theorem extract_mid (pre l post : List Value) : (pre ++ l ++ post).toArray.extract pre.length (pre.length + l.length) = l.toArray := by
  apply Array.ext'
  simp [List.extract_eq_take_drop]
theorem eqFields_self (xs : Array Value) (d : Nat) (fs : List Field) (w : World)
    (h : ∀ f ∈ fs, ∃ v, (∀ W : World, (Go.part f.type xs f.offset).run P W = .ok v W) ∧ (∀ W : World, (Op.equalIn d f.type v v).run P W = .ok true W)) :
    (Op.eqFields d xs xs fs).run P w = .ok true w := by
  induction fs generalizing w with
  | nil => simp [Op.eqFields]
  | cons f fs ih =>
    obtain ⟨v, h1, h2⟩ := h f (by simp)
    have ih' := ih w (fun f hf => h f (by simp [hf]))
    simp only [Op.eqFields, Sem.run_ite, Sem.run_bind, h1, h2, Result.andThen_ok, ih', Bool.not_true, Bool.false_eq_true, if_false]
    split <;> rfl
end
end Go.Pg
namespace Go.Proofs.Ytndkkgkcbbmnpaa
open Go.RowKit Go.Pg
theorem partDig (pre : List Value) (p : List UInt8) (post : List Value) (hp : p.length = 32) (off : Nat) (ho : pre.length = off) (W : World) :
    (Go.part 37 (pre ++ cellsL p ++ post).toArray off).run Try.prog W = .ok (.agg (cellsL p).toArray) W := by
  have hs : (sizeOf 37).run Try.prog W = .ok 32 W := by
    have := infoDig
    cases h : Try.prog.info? 37 with
    | none => rw [h] at this; cases this
    | some i => rw [h] at this; simp only [Option.map_some, Option.some.injEq] at this; simp [sizeOf, typeInfo, h, this]
  have hx := extract_mid pre (cellsL p) post
  rw [cellsL_length, hp, ho] at hx
  simp only [Go.part, isAgg, Sem.run_bind, run_underlying underlyingDig, Sem.run_pure, Result.andThen_ok, if_true, hs, hx]
theorem partInt (pre : List Value) (v : Value) (post : List Value) (off : Nat) (ho : pre.length = off) (W : World) :
    (Go.part 38 (pre ++ v :: post).toArray off).run Try.prog W = .ok v W := by
  have hx : (pre ++ v :: post).toArray[off]? = some v := by rw [List.getElem?_toArray, ← ho, List.getElem?_append_right (Nat.le_refl _), Nat.sub_self]; rfl
  simp only [Go.part, isAgg, Sem.run_bind, run_underlying Try.underlying38, Sem.run_pure, Result.andThen_ok, Bool.false_eq_true, if_false, hx]
theorem digSelf (p : List UInt8) (hp : p.length = 32) (W : World) : (Op.equalIn 9999 37 (.agg (cellsL p).toArray) (.agg (cellsL p).toArray)).run Try.prog W = .ok true W := by
  obtain ⟨i0, hi, hz0, hz1, hz2⟩ := info_parts infoU8
  have h := run_equalIn_bytes (P := Try.prog) W 9997 37 5 32 underlyingDig Try.underlying5 (fun w => by simp [sizeOf, typeInfo, hi, hz1]) p p hp hp
  rw [beq_self_eq_true] at h
  exact h
theorem intSelf (n : Int) (W : World) : (Op.equalIn 9999 38 (.int .u64 n) (.int .u64 n)).run Try.prog W = .ok true W := by
  rw [run_equalIn_int W 9998 38 .u64 .u64 n n Try.underlying38, beq_self_eq_true]
theorem hdrFields : (Try.prog.fieldsOf 47).toList.map (fun f => (f.type, f.offset)) = [(37, 0), (38, 32), (38, 33), (38, 34), (37, 35), (37, 67), (37, 99)] := by kernel_rfl
theorem hdrEq (h : Hdr) (ho : h.ok) (W : World) : (Op.equalIn 10000 47 (.agg (hdrCells h)) (.agg (hdrCells h))).run Try.prog W = .ok true W := by
  have hu : Try.prog.underlying 47 = some (.struct (Try.prog.fieldsOf 47)) := by kernel_rfl
  rw [show (10000 : Nat) = 9999 + 1 from rfl, run_equalIn_agg W 9999 47 _ _ hu (by kernel_rfl)]
  refine eqFields_self _ _ _ _ fun f hf => ?_
  have hm : (f.type, f.offset) ∈ (Try.prog.fieldsOf 47).toList.map (fun f => (f.type, f.offset)) := List.mem_map.2 ⟨f, hf, rfl⟩
  rw [hdrFields] at hm
  obtain ⟨p, nn, bb, gg, tx, st, rc⟩ := h
  obtain ⟨o1, o2, o3, o4, -, -, -⟩ := ho
  simp only at o1 o2 o3 o4
  have l1 : (cellsL p).length = 32 := by rw [cellsL_length, o1]
  have l2 : (cellsL tx).length = 32 := by rw [cellsL_length, o2]
  have l3 : (cellsL st).length = 32 := by rw [cellsL_length, o3]
  have l4 : (cellsL rc).length = 32 := by rw [cellsL_length, o4]
  have e0 : hdrCells ⟨p, nn, bb, gg, tx, st, rc⟩ = ([] ++ cellsL p ++ ([Value.int .u64 (nn : Int), Value.int .u64 (bb : Int), Value.int .u64 (gg : Int)] ++ cellsL tx ++ cellsL st ++ cellsL rc)).toArray := by simp [hdrCells]
  have e1 : hdrCells ⟨p, nn, bb, gg, tx, st, rc⟩ = (cellsL p ++ Value.int .u64 (nn : Int) :: ([Value.int .u64 (bb : Int), Value.int .u64 (gg : Int)] ++ cellsL tx ++ cellsL st ++ cellsL rc)).toArray := by simp [hdrCells]
  have e2 : hdrCells ⟨p, nn, bb, gg, tx, st, rc⟩ = ((cellsL p ++ [Value.int .u64 (nn : Int)]) ++ Value.int .u64 (bb : Int) :: ([Value.int .u64 (gg : Int)] ++ cellsL tx ++ cellsL st ++ cellsL rc)).toArray := by simp [hdrCells]
  have e3 : hdrCells ⟨p, nn, bb, gg, tx, st, rc⟩ = ((cellsL p ++ [Value.int .u64 (nn : Int), Value.int .u64 (bb : Int)]) ++ Value.int .u64 (gg : Int) :: (cellsL tx ++ cellsL st ++ cellsL rc)).toArray := by simp [hdrCells]
  have e4 : hdrCells ⟨p, nn, bb, gg, tx, st, rc⟩ = ((cellsL p ++ [Value.int .u64 (nn : Int), Value.int .u64 (bb : Int), Value.int .u64 (gg : Int)]) ++ cellsL tx ++ (cellsL st ++ cellsL rc)).toArray := by simp [hdrCells]
  have e5 : hdrCells ⟨p, nn, bb, gg, tx, st, rc⟩ = ((cellsL p ++ [Value.int .u64 (nn : Int), Value.int .u64 (bb : Int), Value.int .u64 (gg : Int)] ++ cellsL tx) ++ cellsL st ++ cellsL rc).toArray := by simp [hdrCells]
  have e6 : hdrCells ⟨p, nn, bb, gg, tx, st, rc⟩ = ((cellsL p ++ [Value.int .u64 (nn : Int), Value.int .u64 (bb : Int), Value.int .u64 (gg : Int)] ++ cellsL tx ++ cellsL st) ++ cellsL rc ++ []).toArray := by simp [hdrCells]
  simp only [List.mem_cons, Prod.mk.injEq, List.not_mem_nil, or_false] at hm
  rcases hm with ⟨h1, h2⟩ | ⟨h1, h2⟩ | ⟨h1, h2⟩ | ⟨h1, h2⟩ | ⟨h1, h2⟩ | ⟨h1, h2⟩ | ⟨h1, h2⟩
  all_goals rw [h1, h2]
  · exact ⟨_, fun W => by rw [e0]; exact partDig _ _ _ o1 _ rfl W, digSelf _ o1⟩
  · exact ⟨_, fun W => by rw [e1]; exact partInt _ _ _ _ (by simp [l1]) W, intSelf _⟩
  · exact ⟨_, fun W => by rw [e2]; exact partInt _ _ _ _ (by simp [l1]) W, intSelf _⟩
  · exact ⟨_, fun W => by rw [e3]; exact partInt _ _ _ _ (by simp [l1]) W, intSelf _⟩
  · exact ⟨_, fun W => by rw [e4]; exact partDig _ _ _ o2 _ (by simp [l1]) W, digSelf _ o2⟩
  · exact ⟨_, fun W => by rw [e5]; exact partDig _ _ _ o3 _ (by simp [l1, l2]) W, digSelf _ o3⟩
  · exact ⟨_, fun W => by rw [e6]; exact partDig _ _ _ o4 _ (by simp [l1, l2, l3]) W, digSelf _ o4⟩
/-- the header of the example -/
def hdr5 : Hdr := ⟨List.replicate 32 0, 5, 0, 0, List.replicate 32 0, List.replicate 32 0, List.replicate 32 0⟩
theorem hdr5_ok : hdr5.ok := ⟨rfl, rfl, rfl, rfl, by decide, by decide, by decide⟩
theorem builtHdr5 : Try.prog.built 47 [(1, .int .u64 5)] = some (hdrCells hdr5) := by kernel_rfl
/-- the block of the example -/
def blk1 : Blk := ⟨List.replicate 32 0, 1, 200, []⟩
theorem blk1_ok : blk1.ok := ⟨rfl, by decide, by decide⟩
theorem builtBlk1 : Try.prog.built 40 [(1, .int .u64 1), (2, .int .u64 200)] = some (blkCells blk1.p blk1.nn blk1.bb (.slice none 0 0)) := by kernel_rfl
theorem number_1 : number 1 = 1 := by rw [number_pos (by decide), show 1 / 256 = 0 from rfl, number_zero]
theorem number_200 : number 200 = 1 := by rw [number_pos (by decide), show 200 / 256 = 0 from rfl, number_zero]
theorem wordB_1 : wordB 1 = [1] := by unfold wordB; rw [number_1]; rfl
theorem wordB_200 : wordB 200 = [200] := by unfold wordB; rw [number_200]; rfl
theorem blk1_item : blk1.item = .list [.text (List.replicate 32 0), .text [1], .text [200], .list []] := by
  simp [Blk.item, blk1, blkI, wordB_1, wordB_200, textsI]
theorem blk1_fits : It.fits 8 blk1.item := by
  rw [blk1_item]
  simp [It.fits, It.wholes, It.whole, sz, plainB]
theorem blk1_enc : ∃ B, blk1.enc = (B, 0) ∧ B.length = 38 := by
  refine ⟨blk1.item.enc, blk_enc_of blk1 _ blk1_fits rfl, ?_⟩
  rw [It.enc_length, blk1_item]
  simp [It.whole, It.wholes, sz, plainB]
end Go.Proofs.Ytndkkgkcbbmnpaa
namespace Go.Proofs.Ytndkkgkcbbmnpaa
open Go.RowKit Go.Pg

set_option maxRecDepth 100000 in
set_option maxHeartbeats 4000000 in
theorem bdec_any (F : Nat → Prop) (w : World) (a : Option Addr) (n c : Nat) (bs : List UInt8) (h : BytesAt F w (.slice a n c) bs) (hn : n ≤ 1099511627776) :
    Calls Try.prog 23 #[.slice a n c] w (BlkD w (blkDecode bs)) := by
  have hnl := (BytesAt.n h).1
  obtain ⟨ZR, hZR⟩ : ∃ ZR : Array Value, ZR = #[.int .u8 0, .int .u8 0, .int .u8 0, .int .u8 0, .int .u8 0, .int .u8 0, .int .u8 0, .int .u8 0, .int .u8 0, .int .u8 0, .int .u8 0, .int .u8 0, .int .u8 0, .int .u8 0, .int .u8 0, .int .u8 0, .int .u8 0, .int .u8 0, .int .u8 0, .int .u8 0, .int .u8 0, .int .u8 0, .int .u8 0, .int .u8 0, .int .u8 0, .int .u8 0, .int .u8 0, .int .u8 0, .int .u8 0, .int .u8 0, .int .u8 0, .int .u8 0, .int .u64 0, .int .u64 0, .slice none 0 0] := ⟨_, rfl⟩
  have hZR2 : ZR = blkCells (List.replicate 32 0) 0 0 (.slice none 0 0) := by rw [hZR]; rfl
  obtain ⟨Wz, hWz⟩ : ∃ W : World, W = w.alloc (.cells ZR 40) := ⟨_, rfl⟩
  have hbz : Below w.heap.size w Wz := by rw [hWz]; exact Bel.alloc (Bel.refl w) _
  have hrz : Wz.heap[w.heap.size]? = some (.cells ZR 40 (0, 0)) := by rw [hWz]; exact heap_alloc_new w _
  have hzs : Wz.heap.size = w.heap.size + 1 := by rw [hWz]; simp
  have hcall := bread_any _ Wz a n c 4 bs (BytesAt.below h (by rw [hWz]; exact Bel.alloc (Bel.refl w) _)) (by omega)
  have hlen4 := rOpen_len bs 4
  have hsm4 := rOpen_small bs 4
  obtain ⟨O, hO⟩ : ∃ O, O = rOpen bs 4 := ⟨_, rfl⟩
  rw [← hO] at hcall hlen4 hsm4
  have hres : blkDecode bs = if O.2 = true ∧ (O.1.getD 3 (.text [])).isList = true ∧ (rBlk O.1).2 = true ∧ flat (O.1.getD 3 (.text [])).items = true then (⟨(rBlk O.1).1.1, (rBlk O.1).1.2.1, (rBlk O.1).1.2.2, (O.1.getD 3 (.text [])).items.map It.bytes⟩, 0) else (blk0, 190) := by
    unfold blkDecode; rw [hO]
  obtain ⟨X, hX⟩ : ∃ X, X = blkDecode bs := ⟨_, rfl⟩
  rw [← hX]
  rw [← hX] at hres
  obtain ⟨l0, k0⟩ := O
  simp only at hres hcall hlen4 hsm4
  obtain ⟨fs, hu⟩ := underlyingBlk
  have HU := Lib.hid hu
  have HC := Lib.hid hcall
  have HRES := Lib.hid hres
  have HZR := Lib.hid hZR
  have HZR2 := Lib.hid hZR2
  have HWZ := Lib.hid hWz
  have HBZ := Lib.hid hbz
  have HRZ := Lib.hid hrz
  have HLEN := Lib.hid hlen4
  have HSM := Lib.hid hsm4
  have HNL := Lib.hid hnl
  clear hu hcall hres hX hO hZR hZR2 hWz hbz hrz h hlen4 hsm4 hnl
  go_enter Try.func23, Try.ntmps23
  go_wp2_with fail
  rw [← HZR.out, ← HWZ.out]
  refine HC.out.mono ?_
  rintro e w1 ⟨rb, rfl, hrb, hr1, hb1⟩
  have hk1 := (hb1.block _ (by omega)).trans HRZ.out
  have hbl1 := Bel.call HBZ.out hb1
  obtain ⟨a1, n1, c1, hit, hk⟩ := id hr1
  simp only at hit hk
  obtain ⟨q0, q1⟩ := cells2 hk
  have hiz : (Try.prog.info? 40).map (·.size) = some (ZR).size := by rw [HZR.out]; kernel_rfl
  have hoz : (ZR).all (·.oneCell') = true := by rw [HZR.out]; kernel_rfl
  have HIZ := Lib.hid hiz
  have HB0 : Hid (Try.prog.built 40 [] = some ZR) := Lib.hid (by rw [HZR2.out]; exact builtBlk [])
  have HOZ := Lib.hid hoz
  have hbad : ∀ W : World, Below w.heap.size w W → W.heap[w.heap.size]? = some (.cells ZR 40 (0, 0)) → X = (blk0, 190) →
      (W.setRow w.heap.size ZR).heap[w.heap.size]? = some (.cells ZR 40 (0, 0)) ∧ BlkD w X (.returned (.tuple #[.agg ZR, .int .i64 190])) (W.setRow w.heap.size ZR) := by
    intro W hb hk hX
    refine ⟨setRow_heap W _ _ _ _ _ hk, ?_⟩
    rw [hX, HZR2.out]
    exact ⟨none, 0, 0, rfl, SliceAt.nil _ _ _ _, below_setRow hb (Nat.le_refl _) _⟩
  have HBAD := Lib.hid hbad
  have HK1 := Lib.hid hk1
  have HBL1 := Lib.hid hbl1
  have HR1 := Lib.hid hr1
  have HK := Lib.hid hk
  clear hiz hoz hbad hk1 hbl1 hr1 hk HC hb1
  cases k0 with
  | false =>
    have hX : X = (blk0, 190) := by rw [HRES.out, if_neg]; rintro ⟨x, -⟩; cases x
    have HX := Lib.hid (HBAD.out w1 HBL1.out HK1.out hX)
    clear hX hit
    go_wp2_with ((with_reducible refine wpL_store_row 40 (.tmp 2) (.tmp 24) w.heap.size ZR 40 ZR ?_ ⟨HK1.out, HIZ.out, rfl, HOZ.out⟩ ?_); (exact ⟨rfl, rfl, rfl, by rw [HZR.out]; rfl⟩))
    refine bodyPost_ret (v := .tuple #[.agg ZR, .int .i64 190]) (results_cell_row_tmp rfl _ _ w.heap.size 40 ZR (0, 0) (.struct fs) rfl HX.out.1 HU.out rfl HIZ.out _ rfl) rfl ?_
    exact HX.out.2
  | true =>
    have hl4 := HLEN.out rfl
    rcases SliceAt.split hit with ⟨h0, -⟩ | ⟨b, o, rfl, hn1, -, hfb⟩
    · rw [h0] at hl4; cases hl4
    obtain ⟨x1, y1, z1, x2, y2, z2, g0, -, g2, git⟩ := ItemsAt.cell hit 3 (by omega)
    obtain ⟨I3, hI3⟩ : ∃ I, I = l0[3]'(by omega) := ⟨_, rfl⟩
    have hgd : l0.getD 3 (.text []) = I3 := by rw [hI3, List.getD_eq_getElem?_getD, List.getElem?_eq_getElem (by omega)]; rfl
    have hsm3 := HSM.out rfl I3 (by rw [hI3]; exact List.getElem_mem _)
    rw [← hI3] at g0 git
    rw [hgd] at HRES
    have d0 : w1.cell? ⟨b, o + 9, none⟩ = some (.bool I3.isList) := g0
    have d2 : w1.cell? ⟨b, o + 9 + 2, none⟩ = some (.slice x2 y2 z2) := g2
    have hn4 : n1 = 4 := by rw [hn1]; exact hl4
    clear g0 g2 hI3 hgd hl4 hn1
    subst hn4
    obtain ⟨-, _, _, _, _, _, _, -, e2', -, hy2⟩ := ItemAt.form git
    simp only [Value.slice.injEq] at e2'
    obtain ⟨rfl, rfl, rfl⟩ := e2'
    have hits := ItemAt.items (d := 7) git
    obtain ⟨il, hil⟩ : ∃ il, il = I3.isList := ⟨_, rfl⟩
    obtain ⟨L, hL⟩ : ∃ L, L = I3.items := ⟨_, rfl⟩
    rw [← hil] at d0 HRES
    rw [← hL] at hits hy2 HRES hsm3
    have hLn : L.length ≤ n := by rw [HNL.out]; exact hsm3
    have HITS := Lib.hid hits
    have HY2 := Lib.hid hy2
    clear hit git hil hL hits hy2 hsm3
    cases il with
    | false =>
      have hX : X = (blk0, 190) := by rw [HRES.out, if_neg]; rintro ⟨-, x, -⟩; cases x
      have HX := Lib.hid (HBAD.out w1 HBL1.out HK1.out hX)
      clear hX
      go_wp2_with ((with_reducible refine wpL_store_row 40 (.tmp 2) (.tmp 24) w.heap.size ZR 40 ZR ?_ ⟨HK1.out, HIZ.out, rfl, HOZ.out⟩ ?_); (exact ⟨rfl, rfl, rfl, by rw [HZR.out]; rfl⟩))
      refine bodyPost_ret (v := .tuple #[.agg ZR, .int .i64 190]) (results_cell_row_tmp rfl _ _ w.heap.size 40 ZR (0, 0) (.struct fs) rfl HX.out.1 HU.out rfl HIZ.out _ rfl) rfl ?_
      exact HX.out.2
    | true =>
      obtain ⟨p, l1, k1, h1⟩ : ∃ b l k, rDig l0 true = (b, l, k) := ⟨_, _, _, rfl⟩
      obtain ⟨nn, l2, k2, h2⟩ : ∃ b l k, rWord l1 k1 = (b, l, k) := ⟨_, _, _, rfl⟩
      obtain ⟨bb, l3, k3, h3⟩ : ∃ b l k, rWord l2 k2 = (b, l, k) := ⟨_, _, _, rfl⟩
      have hB : rBlk l0 = ((p, nn, bb), k3) := by unfold rBlk; simp only [h1, h2, h3]
      have hp : p.length = 32 := by have := (rBlk_ok l0).1; rw [hB] at this; exact this
      have hX : X = if k3 = true ∧ flat L = true then (⟨p, nn, bb, L.map It.bytes⟩, 0) else (blk0, 190) := by rw [HRES.out, hB]; simp
      obtain ⟨W1, hW1⟩ : ∃ W : World, W = w1.alloc (.cells #[.slice x2 y2 z2, .bool true] 78) := ⟨_, rfl⟩
      have hsw1 : W1.heap.size = w1.heap.size + 1 := by rw [hW1]; simp
      have hbw1 : Below w1.heap.size w1 W1 := by rw [hW1]; exact Bel.alloc (Bel.refl w1) _
      have htb : W1.heap[w1.heap.size]? = some (.cells #[.slice x2 y2 z2, .bool true] 78 (0, 0)) := by rw [hW1]; exact heap_alloc_new w1 _
      have hrbw : rb < w1.heap.size := (Array.getElem?_eq_some_iff.1 HK.out).1
      have hwlt : w.heap.size < w1.heap.size := (Array.getElem?_eq_some_iff.1 HK1.out).1
      have HCH1 : Hid (Chg (fun k => k = rb) W1 W1) := Lib.hid (Chg.refl _ _)
      have hr1' : RdrAt (fun b => (Wz.heap.size ≤ b ∧ b ≠ rb) ∧ b < w1.heap.size) W1 8 rb (l0, true) := by
        obtain ⟨a', n', c', hit', hk'⟩ := HR1.out
        exact ⟨a', n', c', ItemsAt.carry hit' (fun b hlt x => ⟨x, hlt⟩) (fun b _ hlt => hbw1.block b hlt), (hbw1.block _ hrbw).trans hk'⟩
      have HR1' := Lib.hid hr1'
      have HX := Lib.hid hX
      have HP := Lib.hid hp
      have H1 := Lib.hid h1
      have H2 := Lib.hid h2
      have H3 := Lib.hid h3
      have HW1 := Lib.hid hW1
      have HBW1 := Lib.hid hbw1
      have HTB := Lib.hid htb
      have HSW1 := Lib.hid hsw1
      clear hB hX hp h1 h2 h3 hW1 hbw1 htb hr1' hsw1
      have hc1 := brdig_any (fun b => (Wz.heap.size ≤ b ∧ b ≠ rb) ∧ b < w1.heap.size) W1 7 rb l0 true HR1'.out (fun x => x.1.2 rfl)
      rw [H1.out] at hc1
      have HC1 := Lib.hid hc1
      clear hc1
      go_wp2_with fail
      rw [← HW1.out]
      refine HC1.out.mono ?_
      rintro e w2 ⟨rfl, hr2, hch2⟩
      simp only at hr2 ⊢
      have HR2 := Lib.hid hr2
      have HCH2 := Lib.hid (HCH1.out.trans hch2 (fun _ _ x => x))
      clear hr2 hch2 HC1
      have hc2 := brword_any (fun b => (Wz.heap.size ≤ b ∧ b ≠ rb) ∧ b < w1.heap.size) w2 7 rb l1 k1 HR2.out (fun x => x.1.2 rfl)
      rw [H2.out] at hc2
      have HC2 := Lib.hid hc2
      clear hc2
      go_wp2_with fail
      refine HC2.out.mono ?_
      rintro e w3 ⟨rfl, hr3, hch3⟩
      simp only at hr3 ⊢
      have HR3 := Lib.hid hr3
      have HCH3 := Lib.hid (HCH2.out.trans hch3 (fun _ _ x => x))
      clear hr3 hch3 HC2
      have hc3 := brword_any (fun b => (Wz.heap.size ≤ b ∧ b ≠ rb) ∧ b < w1.heap.size) w3 7 rb l2 k2 HR3.out (fun x => x.1.2 rfl)
      rw [H3.out] at hc3
      have HC3 := Lib.hid hc3
      clear hc3
      go_wp2_with fail
      refine HC3.out.mono ?_
      rintro e w4 ⟨rfl, hr4, hch4⟩
      simp only at hr4 ⊢
      have hch := HCH3.out.trans hch4 (fun _ _ x => x)
      obtain ⟨a4, n4, c4, -, hk4⟩ := hr4
      simp only at hk4
      have hbu := builtBlkOf p nn bb HP.out
      have HBU := Lib.hid hbu
      obtain ⟨W4, hW4⟩ : ∃ W : World, W = (w4.alloc (.cells ZR 40)).setRow w4.heap.size (blkCells p nn bb (.slice none 0 0)) := ⟨_, rfl⟩
      have hk40 : W4.heap[w4.heap.size]? = some (.cells (blkCells p nn bb (.slice none 0 0)) 40 (0, 0)) := by rw [hW4]; exact setRow_heap _ _ _ _ _ _ (heap_alloc_new w4 _)
      have ho4 : ∀ k, k < w4.heap.size → W4.heap[k]? = w4.heap[k]? := fun k hk => by rw [hW4, setRow_other _ _ _ _ (by omega), Below.heap_alloc _ _ _ hk]
      have hs4 := hch.size
      have hsw1 := HSW1.out
      have hsW4 : W4.heap.size = w4.heap.size + 1 := by rw [hW4]; simp [World.setRow]
      have hb14 : Below w.heap.size w w4 := (HBL1.out.trans (HBW1.out.mono (by omega))).trans (hch.toBelowAt (by omega) (fun k hk e => by omega))
      have hb4 : Below w.heap.size w W4 := by rw [hW4]; exact below_setRow (hb14.alloc hb14.size _) (by omega) _
      have hold : ∀ k, k < w1.heap.size → k ≠ rb → W4.heap[k]? = w1.heap[k]? := fun k hk hn => by
        rw [ho4 k (by omega), hch.block k (by omega) hn, HBW1.out.block k hk]
      have hst : TxSt (fun b => (Wz.heap.size ≤ b ∧ b ≠ rb) ∧ b < w1.heap.size) w ZR (w4.heap.size + 1) rb w1.heap.size w4.heap.size (.slice a4 n4 c4) k3 p nn bb L W4 L true [] (.slice none 0 0) := by
        refine ⟨hb4, ?_, (ho4 _ (by omega)).trans hk4, ⟨x2, y2, z2, ?_, ?_⟩, hk40, OwnList.nil, TxData.start L, fun b hb => ?_, ?_, HP.out, by omega⟩
        · rw [hold _ hwlt (by omega)]; exact HK1.out
        · exact ItemsAt.carry HITS.out (fun b hlt x => ⟨x, hlt⟩) (fun b hb hlt => hold b hlt hb.2)
        · rw [ho4 _ (by omega), hch.block _ (by omega) (by omega)]; exact HTB.out
        · obtain ⟨⟨u1, u2⟩, u3⟩ := hb; refine ⟨?_, ?_, ?_, ?_, u2⟩ <;> omega
        · refine ⟨?_, ?_, ?_, ?_, ?_, ?_, ?_, ?_, ?_⟩ <;> omega
      have hoc := blkCells_one p nn bb none 0 0
      have hsh : (blkCells p nn bb (.slice none 0 0)).size = (ZR).size := by rw [blkCells_size _ _ _ _ HP.out, HZR.out]; rfl
      have HA4 := Lib.hid (heap_alloc_new w4 (.cells ZR 40))
      have HST := Lib.hid hst
      have HOC := Lib.hid hoc
      have HSH := Lib.hid hsh
      have HIH := Lib.hid (show (Try.prog.info? 40).map (·.size) = some (blkCells p nn bb (.slice none 0 0)).size by rw [blkCells_size _ _ _ _ HP.out]; exact infoBlk)
      have HW4 := Lib.hid hW4
      clear hch hk4 hch4 hbu hW4 hk40 ho4 hs4 hsw1 hsW4 hb14 hb4 hold hst hoc hsh q0 q1 d0 d2 HC3
      go_wp2_with (first
        | (refine wpList_build_to rfl 40 #[(0, .tmp 35), (1, .tmp 37), (2, .tmp 39)] rfl _ (by kernel_rfl) (blkCells p nn bb (.slice none 0 0)) HBU.out ?_)
        | (rw [← HZR.out]; (with_reducible refine wpL_store_row 40 (.tmp 6) (.tmp 40) w4.heap.size (blkCells p nn bb (.slice none 0 0)) 40 ZR ?_ ⟨HA4.out, HIH.out, HSH.out.symm, HOC.out⟩ ?_); (exact ⟨rfl, rfl, rfl, rfl⟩); rw [← HW4.out]))
      have HST2 : ∃ G : Nat → Prop, Hid (TxSt G w ZR (w4.heap.size + 1) rb w1.heap.size w4.heap.size (.slice a4 n4 c4) k3 p nn bb L W4 L true [] (.slice none 0 0)) := ⟨_, HST⟩
      obtain ⟨G, HST'⟩ := HST2
      obtain ⟨i0r, hi, hz0, hz1, hz2⟩ := info_parts infoRow
      clear HST HCH1 HCH2 HCH3 HR1' HR2 HR3 HR1 HTB HA4 HBU
      simp only [Act.put]
      go_loopg [] (L.length + 1) (fun gk wr => ∃ (rem : List It) (ok : Bool) (T : List (List UInt8)) (av : Option Addr) (m cv : Nat), Hid (TxSt G w ZR (w4.heap.size + 1) rb w1.heap.size w4.heap.size (.slice a4 n4 c4) k3 p nn bb L wr rem ok T (.slice av m cv)) ∧ Hid (m = T.length) ∧ Hid (rem.length + ok.toNat ≤ gk))
      case atStart => exact ⟨L, true, [], none, 0, 0, HST', Lib.hid rfl, Lib.hid (Nat.le_refl _)⟩
      case round =>
        obtain ⟨rem, ok, T, av, m, cv, HS, HM, HG⟩ := hrel
        obtain ⟨ar, nr, cr, hits, htk⟩ := id HS.out.tx
        simp only at hits htk
        have hnr : nr = rem.length := by
          obtain ⟨a', c', hv, -⟩ := SliceAt.len hits
          simp only [Value.slice.injEq] at hv
          exact hv.2.1
        obtain ⟨q0, q1⟩ := cells2 htk
        obtain ⟨s0, s1⟩ := cells2 HS.out.rd
        have hexit : ok = false ∨ k3 = false ∨ flat L = false → X = (blk0, 190) := by
          intro hc
          rw [HX.out, if_neg]
          rintro ⟨h1, h2⟩
          rcases hc with hc | hc | hc
          · have := (HS.out.data.bad hc).1; rw [this] at h2; cases h2
          · rw [hc] at h1; cases h1
          · rw [hc] at h2; cases h2
        have HEXIT := Lib.hid hexit
        have hsum := HS.out.data.sum
        have HSUM := Lib.hid hsum
        have hml : m ≤ L.length := by
          have h1 := HM.out
          have h2 : 1 ≤ rem.length + ok.toNat := by
            cases ok with
            | true => simp
            | false => have := (HS.out.data.bad rfl).2; have := List.length_pos_iff.2 this; omega
          omega
        clear hexit hsum hits htk
        rcases rem with - | ⟨y, rs⟩
        · obtain ⟨rfl, hf, hT⟩ := HS.out.data.all
          have HF := Lib.hid hf
          have HT := Lib.hid hT
          simp only [List.length_nil] at hnr
          subst hnr
          clear hf hT
          cases k3 with
          | false =>
            have HXX := Lib.hid (HBAD.out wr HS.out.bel HS.out.zero (HEXIT.out (.inr (.inl rfl))))
            repeat (first
                | ((with_reducible refine wpL_build_to 40 #[] [] ZR ?_ HB0.out ?_); (exact ⟨rfl, rfl, by simp⟩))
                | ((with_reducible refine wpL_store_row 40 (.tmp 2) (.tmp 72) w.heap.size ZR 40 ZR ?_ ⟨HS.out.zero, HIZ.out, rfl, HOZ.out⟩ ?_); (exact ⟨rfl, rfl, rfl, rfl⟩))
                | go_values | go_skip | go_guarded | go_step | go_upon)
            refine bodyPost_ret (v := .tuple #[.agg ZR, .int .i64 190]) (results_cell_row_tmp rfl _ _ w.heap.size 40 ZR (0, 0) (.struct fs) rfl HXX.out.1 HU.out rfl HIZ.out _ rfl) rfl ?_
            exact HXX.out.2
          | true =>
            have HXX : Hid (X = (⟨p, nn, bb, T⟩, 0)) := Lib.hid (by rw [HX.out, if_pos ⟨rfl, HF.out⟩, HT.out])
            obtain ⟨BC, hBC⟩ : ∃ BC, BC = blkCells p nn bb (.slice av m cv) := ⟨_, rfl⟩
            have hbox := HS.out.box
            rw [← hBC] at hbox
            have HBX := Lib.hid hbox
            have HBS := Lib.hid (show (Try.prog.info? 40).map (·.size) = some BC.size by rw [hBC, blkCells_size _ _ _ _ HP.out]; exact infoBlk)
            have HBO := Lib.hid (show BC.all (·.oneCell') = true by rw [hBC]; exact blkCells_one _ _ _ _ _ _)
            have HBZ2 := Lib.hid (show ZR.size = BC.size by rw [hBC, blkCells_size _ _ _ _ HP.out, HZR.out]; rfl)
            have HBC := Lib.hid hBC
            clear hBC hbox
            repeat (first
              | ((with_reducible refine wpL_load_row 40 (.tmp 6) w4.heap.size BC 40 (.struct fs) ?_ ⟨HBX.out, HU.out, rfl, HBS.out⟩ ?_); (exact ⟨rfl, rfl, rfl⟩))
              | ((with_reducible refine wpL_store_row 40 (.tmp 2) (.tmp 73) w.heap.size BC 40 ZR ?_ ⟨HS.out.zero, HBS.out, HBZ2.out, HBO.out⟩ ?_); (exact ⟨rfl, rfl, rfl, rfl⟩))
              | go_values | go_skip | go_guarded | go_step | go_upon)
            refine bodyPost_ret (v := .tuple #[.agg BC, .int .i64 0]) (results_cell_row_tmp rfl _ _ w.heap.size 40 BC (0, 0) (.struct fs) rfl (setRow_heap wr _ _ _ _ _ HS.out.zero) HU.out rfl HBS.out _ rfl) rfl ?_
            rw [HXX.out, HBC.out]
            obtain ⟨u1, u2, u3, -⟩ := HS.out.place
            have hrow : RowsAt (fun b => w.heap.size < b) wr (.slice av m cv) T := HS.out.own.at carriedRow (fun b hb _ => (HS.out.foot b hb).1) (fun b hb _ => by show w.heap.size < b; omega) (by decide)
            exact ⟨av, m, cv, rfl, RowsAt.carry hrow (fun b _ hb => Nat.le_of_lt hb) (fun b hb _ => setRow_other _ _ _ _ (by have : w.heap.size < b := hb; omega)), below_setRow HS.out.bel (Nat.le_refl _) _⟩
        · have hnr0 : 0 < nr := by rw [hnr]; simp
          have HNR := Lib.hid hnr
          clear hnr
          cases ok with
          | false =>
            have HXX := Lib.hid (HBAD.out wr HS.out.bel HS.out.zero (HEXIT.out (.inl rfl)))
            cases k3
            all_goals
              repeat (first
                | ((with_reducible refine wpL_build_to 40 #[] [] ZR ?_ HB0.out ?_); (exact ⟨rfl, rfl, by simp⟩))
                | ((with_reducible refine wpL_store_row 40 (.tmp 2) (.tmp 72) w.heap.size ZR 40 ZR ?_ ⟨HS.out.zero, HIZ.out, rfl, HOZ.out⟩ ?_); (exact ⟨rfl, rfl, rfl, rfl⟩))
                | go_values | go_skip | go_guarded | go_step | go_upon)
              refine bodyPost_ret (v := .tuple #[.agg ZR, .int .i64 190]) (results_cell_row_tmp rfl _ _ w.heap.size 40 ZR (0, 0) (.struct fs) rfl HXX.out.1 HU.out rfl HIZ.out _ rfl) rfl ?_
              exact HXX.out.2
          | true =>
            have htx : RdrAt G wr.drew 7 w1.heap.size (y :: rs, true) := HS.out.tx.carry (fun _ _ _ => rfl) rfl
            have hcl := brtext_any G wr.drew 6 w1.heap.size (y :: rs) true htx (fun hb => (HS.out.foot _ hb).2.2.1 rfl)
            have HCL := Lib.hid hcl
            have hle : (T.length + 1) * 24 ≤ 140737488355328 := by have := HM.out; omega
            have g34 := (blk_facts HP.out HS.out.box).2.2.2
            obtain ⟨t3, hrt⟩ : ∃ t3, t3 = rText (y :: rs) true := ⟨_, rfl⟩
            rw [← hrt] at HCL
            have hpush := fun (w5 : World) (a : Option Addr) (n c : Nat) => HS.out.push (List.cons_ne_nil y rs) (w5 := w5) (a := a) (n := n) (c := c)
            rw [← hrt] at hpush
            have HPUSH := Lib.hid hpush
            clear htx hcl hrt hpush
            go_wp2_with fail
            go_region_law (first | (go_simp; go_at_call 58; refine HCL.out.mono ?_; rintro e5 w5 ⟨a5, n5, c5, rfl, k1, k2, k3'⟩; obtain ⟨R, j1, j2, j3, j4, j5, j6⟩ := HPUSH.out w5 a5 n5 c5 k1 k2 k3'; have HR1 := Lib.hid j1; have HRO := Lib.hid j2; have HRS := Lib.hid j3; have HRN := Lib.hid j6; have e34 := (blk_facts HP.out j5).2.2.2; have e35 := (blk_facts HP.out ((Below.heap_alloc w5 (.cells #[.slice a5 n5 c5] 25) _ (by omega)).trans j5)).2.2.2; clear k1 k2 k3' j1 j2 j3 j5 j6) | (refine step_append_at rfl (.tmp 54) (.tmp 57) 22 rfl (w4.heap.size + 1) 25 i0r (.slice none 0 0) 1 24 underlyingRows hi hz0 hz1 hz2 rfl (by decide) (by decide) HR1.out (.slice av m cv) T (by simp [Act.eval]) HRO.out (.slice (some ⟨w5.heap.size, 0, none⟩) 1 1) [t3.1] (fun _ => True) (by simp [Act.eval]) HRS.out Nat.one_pos hle (by simp; omega) (m + 1) (by have := HM.out; simp; omega) ?_; intro g cap W2 ho hg hm; obtain ⟨n1, n2⟩ := HRN.out g cap (m + 1) W2 ho hg hm; have m34 := (blk_facts HP.out n1).2.2.2; have fr := frozen_of_row W2 w4.heap.size 34 _ _ n1; have HN := Lib.hid n2; clear n1 n2 ho hg hm))
            all_goals
              go_wp2_with fail
              have hlt' : t3.2.1.length + t3.2.2.toNat ≤ gk - 1 ∧ gk - 1 < gk := by
                have h1 := HN.out.data.sum
                have h2 := HSUM.out
                have h3 := HG.out
                simp only [List.length_append, List.length_cons, List.length_nil, Bool.toNat_true] at h1 h2 h3
                omega
              have HLT := Lib.hid hlt'
              go_roundg (gk - 1)
              case rel => exact ⟨_, _, _, _, _, _, HN, Lib.hid (by simp; exact HM.out), Lib.hid HLT.out.1⟩
              case measure => exact HLT.out.2
end Go.Proofs.Ytndkkgkcbbmnpaa
namespace Go.Proofs.Ytndkkgkcbbmnpaa
open Go.RowKit Go.Pg

set_option maxRecDepth 100000 in
set_option maxHeartbeats 8000000 in
theorem alive19_any (w : World) : Calls Try.prog 21 #[] w fun e w' => e = .returned (.bool true) ∧ Below w.heap.size w w' := by
  obtain ⟨ZR, hZR⟩ : ∃ ZR : Array Value, ZR = #[.int .u8 0, .int .u8 0, .int .u8 0, .int .u8 0, .int .u8 0, .int .u8 0, .int .u8 0, .int .u8 0, .int .u8 0, .int .u8 0, .int .u8 0, .int .u8 0, .int .u8 0, .int .u8 0, .int .u8 0, .int .u8 0, .int .u8 0, .int .u8 0, .int .u8 0, .int .u8 0, .int .u8 0, .int .u8 0, .int .u8 0, .int .u8 0, .int .u8 0, .int .u8 0, .int .u8 0, .int .u8 0, .int .u8 0, .int .u8 0, .int .u8 0, .int .u8 0, .int .u64 0, .int .u64 0, .slice none 0 0] := ⟨_, rfl⟩
  obtain ⟨ZH, hZH⟩ : ∃ ZR : Array Value, ZR = Try.zeroCells47 := ⟨_, rfl⟩
  have hZH2 : ZH.size = 131 := by rw [hZH]; kernel_rfl
  obtain ⟨B1, hB1, hBl⟩ := blk1_enc
  obtain ⟨B5, hB5⟩ : ∃ B, B = hdrBytes hdr5 := ⟨_, rfl⟩
  have hBl5 : B5.length ≤ 162 := by rw [hB5]; exact hdrBytes_le _ hdr5_ok
  have hd1 := blkDecode_back blk1 blk1_ok B1 hB1
  have hd5 := hdrDecode_back hdr5 hdr5_ok
  rw [← hB5] at hd5
  have he1 := fun (W : World) => bencode_any (fun _ => True) W blk1.p blk1.nn blk1.bb (.slice none 0 0) [] blk1_ok.p blk1_ok.nn blk1_ok.bb (SliceAt.nil _ _ _ _) (by simp) (by simp) (by
    have := It.enc_length blk1.item
    have h2 := (blk_of_enc blk1 B1 hB1).2
    rw [← h2, hBl] at this
    show (blkI blk1.p blk1.nn blk1.bb blk1.T).whole ≤ _
    have h3 : blkI blk1.p blk1.nn blk1.bb blk1.T = blk1.item := rfl
    rw [h3]; omega)
  have hb1 : blkEncode blk1.p blk1.nn blk1.bb [] = (B1, 0) := hB1
  rw [hb1] at he1
  have he5 := fun (W : World) => encHdr_any W hdr5 hdr5_ok (by have := hdr_whole hdr5 hdr5_ok; omega)
  rw [← hB5] at he5
  have hn5 := fun (W : World) => bName_any W hdr5 hdr5_ok
  have hr5 := fun (W : World) => rName_any W hdr5 hdr5_ok
  have hbu1 := builtBlk1
  have hbu5 := builtHdr5
  obtain ⟨p1, hp1⟩ : ∃ p, p = blk1.p := ⟨_, rfl⟩
  have hpl : p1.length = 32 := by rw [hp1]; exact blk1_ok.p
  have hnn : blk1.nn = 1 := rfl
  have hbb : blk1.bb = 200 := rfl
  rw [hnn, hbb, ← hp1] at he1 hbu1
  obtain ⟨BC0, hBC0⟩ : ∃ BC, BC = blkCells p1 1 200 (.slice none 0 0) := ⟨_, rfl⟩
  obtain ⟨HC5, hHC5⟩ : ∃ BC, BC = hdrCells hdr5 := ⟨_, rfl⟩
  have hsz5 : HC5.size = 131 := by rw [hHC5]; exact hdrCells_size _ hdr5_ok
  obtain ⟨D5, hD5⟩ : ∃ D, D = digestOf B5 := ⟨_, rfl⟩
  have hDl : D5.length = 32 := by rw [hD5]; exact digestOf_length _
  rw [← hBC0] at he1 hbu1
  rw [← hHC5] at he5 hbu5 hn5 hr5
  rw [← hB5, ← hD5] at hn5 hr5
  have heq : ∀ W : World, (Op.equalIn 10000 37 (.agg (cellsOf D5)) (.agg (cellsOf D5))).run Try.prog W = .ok true W := fun W => by
    have h := digEq D5 D5 hDl hDl W
    rw [decide_eq_true rfl] at h
    exact h
  obtain ⟨fs, hu⟩ := underlyingHdr
  obtain ⟨fb, hub⟩ := underlyingBlk
  have h32 : ∀ W : World, ∀ g, W.heap[g]? = some (.cells HC5 47 (0, 0)) → W.cell? ⟨g, 32, none⟩ = some (.int .u64 5) := fun W g h => by
    rw [hHC5] at h
    exact (hdr_facts hdr5_ok h).2.1
  have HZR := Lib.hid hZR
  have HZH := Lib.hid hZH
  have HE1 := Lib.hid he1
  have HE5 := Lib.hid he5
  have HN5 := Lib.hid hn5
  have HR5 := Lib.hid hr5
  have HBU1 := Lib.hid hbu1
  have HBU5 := Lib.hid hbu5
  have HD1 := Lib.hid hd1
  have HD5 := Lib.hid hd5
  have HEQ := Lib.hid heq
  have HU := Lib.hid hu
  have HUB := Lib.hid hub
  have H32 := Lib.hid h32
  have HBL := Lib.hid hBl
  have HPL := Lib.hid hpl
  have HP1 := Lib.hid hp1
  have HIH := Lib.hid (show (Try.prog.info? 47).map (·.size) = some HC5.size by rw [hsz5]; exact infoHdr)
  have HSH := Lib.hid (show ZH.size = HC5.size by rw [hsz5, hZH2])
  have HOH := Lib.hid (show HC5.all (·.oneCell') = true by rw [hHC5]; exact hdrCells_one _)
  have HHC5 := Lib.hid hHC5
  clear hZR hZH hZH2 he1 he5 hn5 hr5 hbu1 hbu5 hd1 hd5 heq hu hub h32 hBl hb1 hB1 hB5 hBC0 hHC5 hsz5 hD5 hDl hpl hp1 hnn hbb
  go_enter Try.func21, Try.ntmps21
  go_wp2_with ((with_reducible refine wpL_build_to 40 #[(1, .const (.int .u64 1)), (2, .const (.int .u64 200))] [(1, .int .u64 1), (2, .int .u64 200)] BC0 ?_ HBU1.out ?_); (exact ⟨rfl, rfl, by kernel_rfl⟩))
  refine (HE1.out _).mono ?_
  rintro e w1 ⟨v1, rfl, ho1, hb1⟩
  obtain ⟨a1, c1, rfl, -, -, -⟩ := ho1.len
  try simp only at ho1 ⊢
  have hat1 := ho1.at (F := fun _ => True) (fun _ _ _ _ => trivial) (by decide)
  have hBl := HBL.out
  rw [hBl] at hat1 ⊢
  have hdec := bdec_any _ w1 a1 38 c1 B1 hat1 (by omega)
  rw [HD1.out] at hdec
  have HDEC := Lib.hid hdec
  have HB1 := Lib.hid hb1
  clear ho1 hat1 hBl hdec hb1
  go_wp2_with fail
  refine HDEC.out.mono ?_
  rintro e w2 ⟨a2, n2, c2, rfl, -, hb2⟩
  try simp only
  have hp1 := HP1.out
  obtain ⟨BC1, hBC1⟩ : ∃ BC, BC = blkCells blk1.p blk1.nn blk1.bb (.slice a2 n2 c2) := ⟨_, rfl⟩
  rw [← hBC1]
  have h200 : ∀ W : World, ∀ g, W.heap[g]? = some (.cells BC1 40 (0, 0)) → W.cell? ⟨g, 33, none⟩ = some (.int .u64 200) := fun W g h => by
    rw [hBC1] at h
    exact (blk_facts blk1_ok.p h).2.2.1
  obtain ⟨W3, hW3⟩ : ∃ W : World, W = (w2.alloc (.cells ZR 40)).setRow w2.heap.size BC1 := ⟨_, rfl⟩
  have hz3 : (w2.alloc (.cells ZR 40)).heap[w2.heap.size]? = some (.cells ZR 40 (0, 0)) := heap_alloc_new w2 _
  have hk3 : W3.heap[w2.heap.size]? = some (.cells BC1 40 (0, 0)) := by rw [hW3]; exact setRow_heap _ _ _ _ _ _ hz3
  have hb3 : Below w2.heap.size w2 W3 := by rw [hW3]; exact below_setRow (Bel.alloc (Bel.refl w2) _) (Nat.le_refl _) _
  have hbw3 : Below w.heap.size w W3 := Bel.call (Bel.call HB1.out hb2) hb3
  have HI1 := Lib.hid (show (Try.prog.info? 40).map (·.size) = some BC1.size by rw [hBC1, blkCells_size _ _ _ _ blk1_ok.p]; exact infoBlk)
  have HS1 := Lib.hid (show ZR.size = BC1.size by rw [hBC1, blkCells_size _ _ _ _ blk1_ok.p, HZR.out]; rfl)
  have HO1 := Lib.hid (show BC1.all (·.oneCell') = true by rw [hBC1]; exact blkCells_one _ _ _ _ _ _)
  have HZ3 := Lib.hid hz3
  have HK3 := Lib.hid hk3
  have HBW3 := Lib.hid hbw3
  have HW3 := Lib.hid hW3
  have H200 := Lib.hid h200
  clear hp1 hBC1 h200 hW3 hz3 hk3 hb3 hbw3 hb2
  go_wp2_with (first
    | (rw [← HZR.out]; (with_reducible refine wpL_store_row 40 (.tmp 3) (.tmp 15) w2.heap.size BC1 40 ZR ?_ ⟨HZ3.out, HI1.out, HS1.out, HO1.out⟩ ?_); (exact ⟨rfl, rfl, rfl, rfl⟩); rw [← HW3.out])
    | ((with_reducible refine wpL_build_to 47 #[(1, .const (.int .u64 5))] [(1, .int .u64 5)] HC5 ?_ HBU5.out ?_); (exact ⟨rfl, rfl, by kernel_rfl⟩)))
  refine (HE5.out _).mono ?_
  rintro e w4 ⟨v4, rfl, ho4, hb4⟩
  obtain ⟨a4, c4, rfl, -, -, -⟩ := ho4.len
  have hat4 := ho4.at (F := fun _ => True) (fun _ _ _ _ => trivial) (by decide)
  obtain ⟨m4, hm4⟩ : ∃ m, m = B5.length := ⟨_, rfl⟩
  rw [← hm4] at hat4 ⊢
  have hdec := bhdec_any _ w4 a4 m4 c4 B5 hat4 (by omega)
  rw [HD5.out] at hdec
  try simp only at hdec
  have HDEC5 := Lib.hid hdec
  have HB4 := Lib.hid hb4
  clear ho4 hat4 hm4 hdec hb4
  go_wp2_with fail
  refine HDEC5.out.mono ?_
  rintro e w5 ⟨rfl, hb5⟩
  try simp only
  rw [← HHC5.out]
  obtain ⟨W6, hW6⟩ : ∃ W : World, W = (w5.alloc (.cells ZH 47)).setRow w5.heap.size HC5 := ⟨_, rfl⟩
  have hz6 : (w5.alloc (.cells ZH 47)).heap[w5.heap.size]? = some (.cells ZH 47 (0, 0)) := heap_alloc_new w5 _
  have hk6 : W6.heap[w5.heap.size]? = some (.cells HC5 47 (0, 0)) := by rw [hW6]; exact setRow_heap _ _ _ _ _ _ hz6
  have hb6 : Below w5.heap.size w5 W6 := by rw [hW6]; exact below_setRow (Bel.alloc (Bel.refl w5) _) (Nat.le_refl _) _
  have hb36 : Below W3.heap.size W3 W6 := Bel.call (Bel.call HB4.out hb5) hb6
  have hl3 := (Array.getElem?_eq_some_iff.1 HK3.out).1
  have hk36 := (hb36.block _ hl3).trans HK3.out
  have hbw6 := Bel.call HBW3.out hb36
  have hs6 := (Array.getElem?_eq_some_iff.1 hk6).1
  have hs36 := hb36.size
  obtain ⟨S, hS⟩ : ∃ S : World → Prop, S = fun W => Below W6.heap.size W6 W := ⟨_, rfl⟩
  have hkp : ∀ W : World, Below W6.heap.size W6 W → S W := fun W hW => by rw [hS]; exact hW
  have hrow : ∀ W : World, S W → W.heap[w5.heap.size]? = some (.cells HC5 47 (0, 0)) := fun W hW => by rw [hS] at hW; exact (hW.block _ hs6).trans hk6
  have hc3 : ∀ W : World, S W → W.cell? ⟨w2.heap.size, 33, none⟩ = some (.int .u64 200) := fun W hW => by rw [hS] at hW; exact H200.out W _ ((hW.block _ (by omega)).trans hk36)
  have hc5 : ∀ W : World, S W → W.cell? ⟨w5.heap.size, 32, none⟩ = some (.int .u64 5) := fun W hW => H32.out W _ (hrow W hW)
  have HZ6 := Lib.hid hz6
  have HW6 := Lib.hid hW6
  have HKP := Lib.hid hkp
  have HROW := Lib.hid hrow
  have HC3 := Lib.hid hc3
  have HCC5 := Lib.hid hc5
  have HBW6 := Lib.hid hbw6
  clear hb5 hW6 hz6 hk6 hb6 hb36 hl3 hk36 hbw6 hS hkp hrow hc3 hc5
  go_wp2_with (rw [← HZH.out]; (with_reducible refine wpL_store_row 47 (.tmp 5) (.tmp 21) w5.heap.size HC5 47 ZH ?_ ⟨HZ6.out, HIH.out, HSH.out, HOH.out⟩ ?_); (exact ⟨rfl, rfl, rfl, rfl⟩); rw [← HW6.out])
  refine wp_region_held_drew (S := S) (by kernel_rfl) (HKP.out _ (Bel.drew (Bel.refl W6))) (fun hHeld => ?_)
  refine wpAnyH_take (i := 0) (op_at rfl) (by kernel_rfl) (by kernel_rfl) (by kernel_rfl) (fun _ _ _ h => h) (Or.inl ⟨by rfl, by intro W hSw; go_simp; (try with_reducible rfl)⟩) hHeld ?_
  simp only [Act.put, List.setIfInBounds_toArray, List.set_cons_zero, List.set_cons_succ]
  refine wpAnyH_take (i := 1) (op_at rfl) (by kernel_rfl) (by kernel_rfl) (by kernel_rfl) (fun _ _ _ h => h) (Or.inl ⟨by rfl, by intro W hSw; go_simp; (try with_reducible rfl)⟩) hHeld ?_
  simp only [Act.put, List.setIfInBounds_toArray, List.set_cons_zero, List.set_cons_succ]
  refine wpAnyH_take (i := 2) (op_at rfl) (by kernel_rfl) (by kernel_rfl) (by kernel_rfl) (fun _ _ _ h => h) (Or.inl ⟨by rfl, by intro W hSw; go_simp; (try with_reducible rfl)⟩) hHeld ?_
  simp only [Act.put, List.setIfInBounds_toArray, List.set_cons_zero, List.set_cons_succ]
  refine wpAnyH_take (i := 3) (op_at rfl) (by kernel_rfl) (by kernel_rfl) (by kernel_rfl) (fun _ _ _ h => h) (Or.inl ⟨by rfl, by intro W hSw; go_simp; (try with_reducible rfl)⟩) hHeld ?_
  simp only [Act.put, List.setIfInBounds_toArray, List.set_cons_zero, List.set_cons_succ]
  refine wpAnyH_take (i := 4) (op_at rfl) (by kernel_rfl) (by kernel_rfl) (by kernel_rfl) (fun _ _ _ h => h) (Or.inl ⟨by rfl, by intro W hSw; go_simp; (try with_reducible rfl)⟩) hHeld ?_
  simp only [Act.put, List.setIfInBounds_toArray, List.set_cons_zero, List.set_cons_succ]
  refine wpAnyH_take (i := 5) (op_at rfl) (by kernel_rfl) (by kernel_rfl) (by kernel_rfl) (fun _ _ _ h => h) (Or.inl ⟨by rfl, by intro W hSw; go_simp; (try with_reducible rfl)⟩) hHeld ?_
  simp only [Act.put, List.setIfInBounds_toArray, List.set_cons_zero, List.set_cons_succ]
  refine wpAnyH_take (i := 6) (op_at rfl) (by kernel_rfl) (by kernel_rfl) (by kernel_rfl) (fun _ _ _ h => h) (Or.inl ⟨by rfl, by intro W hSw; go_simp; (try with_reducible rfl)⟩) hHeld ?_
  simp only [Act.put, List.setIfInBounds_toArray, List.set_cons_zero, List.set_cons_succ]
  refine wpAnyH_take (i := 7) (op_at rfl) (by kernel_rfl) (by kernel_rfl) (by kernel_rfl) (fun _ _ _ h => h) (Or.inl ⟨by rfl, by intro W hSw; go_simp; (try with_reducible rfl)⟩) hHeld ?_
  simp only [Act.put, List.setIfInBounds_toArray, List.set_cons_zero, List.set_cons_succ]
  refine wpAnyH_take (i := 8) (op_at rfl) (by kernel_rfl) (by kernel_rfl) (by kernel_rfl) (fun _ _ _ h => h) (Or.inl ⟨by rfl, by intro W hSw; go_simp; (try with_reducible rfl)⟩) hHeld ?_
  simp only [Act.put, List.setIfInBounds_toArray, List.set_cons_zero, List.set_cons_succ]
  refine wpAnyH_take (i := 9) (op_at rfl) (by kernel_rfl) (by kernel_rfl) (by kernel_rfl) (fun _ _ _ h => h) (Or.inl ⟨by rfl, by intro W hSw; go_simp; (try with_reducible rfl)⟩) hHeld ?_
  simp only [Act.put, List.setIfInBounds_toArray, List.set_cons_zero, List.set_cons_succ]
  refine wpAnyH_take (i := 10) (op_at rfl) (by kernel_rfl) (by kernel_rfl) (by kernel_rfl) (fun _ _ _ h => h) (Or.inl ⟨by rfl, by intro W hSw; go_simp; (try with_reducible rfl)⟩) hHeld ?_
  simp only [Act.put, List.setIfInBounds_toArray, List.set_cons_zero, List.set_cons_succ]
  refine wpAnyH_take (i := 11) (op_at rfl) (by kernel_rfl) (by kernel_rfl) (by kernel_rfl) (fun _ _ _ h => h) (Or.inl ⟨by rfl, by intro W hSw; go_simp; (try with_reducible rfl)⟩) hHeld ?_
  simp only [Act.put, List.setIfInBounds_toArray, List.set_cons_zero, List.set_cons_succ]
  refine wpAnyH_take (i := 12) (op_at rfl) (by kernel_rfl) (by kernel_rfl) (by kernel_rfl) (fun _ _ _ h => h) (Or.inl ⟨by rfl, by intro W hSw; go_simp; (try with_reducible rfl)⟩) hHeld ?_
  simp only [Act.put, List.setIfInBounds_toArray, List.set_cons_zero, List.set_cons_succ]
  refine wpAnyH_take (i := 13) (op_at rfl) (by kernel_rfl) (by kernel_rfl) (by kernel_rfl) (fun _ _ _ h => h) (Or.inl ⟨by rfl, by intro W hSw; have hc := HC3.out W hSw; go_simp; (try with_reducible rfl)⟩) hHeld ?_
  simp only [Act.put, List.setIfInBounds_toArray, List.set_cons_zero, List.set_cons_succ]
  refine wpAnyH_take (i := 14) (op_at rfl) (by kernel_rfl) (by kernel_rfl) (by kernel_rfl) (fun _ _ _ h => h) (Or.inl ⟨by rfl, by intro W hSw; go_simp; (try with_reducible rfl)⟩) hHeld ?_
  simp only [Act.put, List.setIfInBounds_toArray, List.set_cons_zero, List.set_cons_succ]
  refine wpAnyH_take (i := 15) (op_at rfl) (by kernel_rfl) (by kernel_rfl) (by kernel_rfl) (fun _ _ _ h => h) (Or.inl ⟨by rfl, by intro W hSw; go_simp; (try with_reducible rfl)⟩) hHeld ?_
  simp only [Act.put, List.setIfInBounds_toArray, List.set_cons_zero, List.set_cons_succ]
  refine wpAnyH_take (i := 16) (op_at rfl) (by kernel_rfl) (by kernel_rfl) (by kernel_rfl) (fun _ _ _ h => h) (Or.inl ⟨by rfl, by intro W hSw; go_simp; (try with_reducible rfl)⟩) hHeld ?_
  simp only [Act.put, List.setIfInBounds_toArray, List.set_cons_zero, List.set_cons_succ]
  refine wpAnyH_take (i := 17) (op_at rfl) (by kernel_rfl) (by kernel_rfl) (by kernel_rfl) (fun _ _ _ h => h) (Or.inl ⟨by rfl, by intro W hSw; go_simp; (try with_reducible rfl)⟩) hHeld ?_
  simp only [Act.put, List.setIfInBounds_toArray, List.set_cons_zero, List.set_cons_succ]
  refine wpAnyH_take (i := 18) (op_at rfl) (by kernel_rfl) (by kernel_rfl) (by kernel_rfl) (fun _ _ _ h => h) (Or.inl ⟨by rfl, by intro W hSw; go_simp; (try with_reducible rfl)⟩) hHeld ?_
  simp only [Act.put, List.setIfInBounds_toArray, List.set_cons_zero, List.set_cons_succ]
  refine wpAnyH_take (i := 19) (op_at rfl) (by kernel_rfl) (by kernel_rfl) (by kernel_rfl) (fun _ _ _ h => h) (Or.inl ⟨by rfl, by intro W hSw; go_simp; (try with_reducible rfl)⟩) hHeld ?_
  simp only [Act.put, List.setIfInBounds_toArray, List.set_cons_zero, List.set_cons_succ]
  refine wpAnyH_take (i := 20) (op_at rfl) (by kernel_rfl) (by kernel_rfl) (by kernel_rfl) (fun _ _ _ h => h) (Or.inl ⟨by rfl, by intro W hSw; go_simp; (try with_reducible rfl)⟩) hHeld ?_
  simp only [Act.put, List.setIfInBounds_toArray, List.set_cons_zero, List.set_cons_succ]
  refine wpAnyH_take (i := 21) (op_at rfl) (by kernel_rfl) (by kernel_rfl) (by kernel_rfl) (fun _ _ _ h => h) (Or.inl ⟨by rfl, by intro W hSw; go_simp; (try with_reducible rfl)⟩) hHeld ?_
  simp only [Act.put, List.setIfInBounds_toArray, List.set_cons_zero, List.set_cons_succ]
  refine wpAnyH_take (i := 22) (op_at rfl) (by kernel_rfl) (by kernel_rfl) (by kernel_rfl) (fun _ _ _ h => h) (Or.inl ⟨by rfl, by intro W hSw; have hc := HCC5.out W hSw; go_simp; (try with_reducible rfl)⟩) hHeld ?_
  simp only [Act.put, List.setIfInBounds_toArray, List.set_cons_zero, List.set_cons_succ]
  refine wpAnyH_take (i := 23) (op_at rfl) (by kernel_rfl) (by kernel_rfl) (by kernel_rfl) (fun _ _ _ h => h) (Or.inl ⟨by rfl, by intro W hSw; go_simp; (try with_reducible rfl)⟩) hHeld ?_
  simp only [Act.put, List.setIfInBounds_toArray, List.set_cons_zero, List.set_cons_succ]
  refine wpAnyH_take (i := 24) (op_at rfl) (by kernel_rfl) (by kernel_rfl) (by kernel_rfl) (fun _ _ _ h => h) (Or.inl ⟨by rfl, by intro W hSw; go_simp; (try with_reducible rfl)⟩) hHeld ?_
  simp only [Act.put, List.setIfInBounds_toArray, List.set_cons_zero, List.set_cons_succ]
  refine wpAnyH_take (i := 25) (op_at rfl) (by kernel_rfl) (by kernel_rfl) (by kernel_rfl) (fun _ _ _ h => h) (Or.inl ⟨by rfl, by intro W hSw; go_simp; (try with_reducible rfl)⟩) hHeld ?_
  simp only [Act.put, List.setIfInBounds_toArray, List.set_cons_zero, List.set_cons_succ]
  refine wpAnyH_take (i := 26) (op_at rfl) (by kernel_rfl) (by kernel_rfl) (by kernel_rfl) (fun _ _ _ h => h) (yieldsIf_load_row (by rfl) 47 (.tmp 5) rfl w5.heap.size rfl HC5 47 (.struct fs) HROW.out HU.out rfl HIH.out) hHeld ?_
  simp only [Act.put, List.setIfInBounds_toArray, List.set_cons_zero, List.set_cons_succ]
  refine wpAnyH_take (i := 28) (op_at rfl) (by kernel_rfl) (by kernel_rfl) (by kernel_rfl) (fun _ _ _ h => h) (yieldsIf_load_row (by rfl) 47 (.tmp 5) rfl w5.heap.size rfl HC5 47 (.struct fs) HROW.out HU.out rfl HIH.out) hHeld ?_
  simp only [Act.put, List.setIfInBounds_toArray, List.set_cons_zero, List.set_cons_succ]
  refine wpAnyH_ready (rs := [27]) (by kernel_rfl) (by simp) (AllReadyH.cons (op_at rfl) (fun K hK => ?_) AllReadyH.nil)
  clear hHeld
  go_simp
  go_at_call 29
  refine (HN5.out _).mono ?_
  rintro e w7 ⟨rfl, hb7⟩
  have hB7 : Below W6.heap.size W6 w7 := Bel.call (Bel.drew (Bel.refl W6)) hb7
  clear hb7
  go_wp2_with fail
  refine hK.out _ _ (HKP.out _ hB7) (fun hHeld => ?_)
  clear hK K
  try simp only [Act.put, List.setIfInBounds_toArray, List.set_cons_zero, List.set_cons_succ]
  refine wpAnyH_ready (rs := [29]) (by kernel_rfl) (by simp) (AllReadyH.cons (op_at rfl) (fun K hK => ?_) AllReadyH.nil)
  clear hHeld
  go_simp
  go_at_call 30
  refine (HR5.out _).mono ?_
  rintro e w8 ⟨rfl, hb8⟩
  have hB8 : Below W6.heap.size W6 w8 := Bel.call hB7 hb8
  clear hb8
  go_wp2_with fail
  refine hK.out _ _ (HKP.out _ hB8) (fun hHeld => ?_)
  clear hK K
  try simp only [Act.put, List.setIfInBounds_toArray, List.set_cons_zero, List.set_cons_succ]
  refine wpAnyH_take (i := 30) (op_at rfl) (by kernel_rfl) (by kernel_rfl) (by kernel_rfl) (fun _ _ _ h => h) (Or.inl ⟨by rfl, by intro W hSw; have hc := HEQ.out W; go_simp; (try with_reducible rfl)⟩) hHeld ?_
  simp only [Act.put, List.setIfInBounds_toArray, List.set_cons_zero, List.set_cons_succ]
  refine wpAnyH_take (i := 31) (op_at rfl) (by kernel_rfl) (by kernel_rfl) (by kernel_rfl) (fun _ _ _ h => h) (Or.inl ⟨by rfl, by intro W hSw; go_simp; (try with_reducible rfl)⟩) hHeld ?_
  simp only [Act.put, List.setIfInBounds_toArray, List.set_cons_zero, List.set_cons_succ]
  refine wpAnyH_take (i := 32) (op_at rfl) (by kernel_rfl) (by kernel_rfl) (by kernel_rfl) (fun _ _ _ h => h) (Or.inl ⟨by rfl, by intro W hSw; go_simp; (try with_reducible rfl)⟩) hHeld ?_
  simp only [Act.put, List.setIfInBounds_toArray, List.set_cons_zero, List.set_cons_succ]
  refine wpAnyH_done (by kernel_rfl) ?_ _
  have HEND := Lib.hid (HBW6.out.trans (hB8.mono (by have := HBW6.out.size; omega)))
  clear hB7 hB8
  go_wp2_with fail
  go_ret
  exact ⟨rfl, HEND.out⟩
end Go.Proofs.Ytndkkgkcbbmnpaa
