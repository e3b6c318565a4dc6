/-
  What is written of a block, and of a header, is read as it was; what is read is written as it was (the statement BlockBack, where what is read is of bulk at most 1048576).
-/
import Derived.Test.YtndkkgkcbbmnpaaBkAS
namespace Go.Pg
open Go.RowKit
section
variable {P : Program}
/-- two structs that are equal are found so, the guard decided -/
theorem wpL_neq_agg_w {ops : Array Oper} {rest : List Oper} {o : Oper} {a : Act} {w : World} {Q : Exit → Act → World → Prop} (t : TypeId) (x y : Operand) (t2 : TypeId) (xs : Array Value)
    (hc : o.op = .binOp .neq t x y t2 ∧ a.eval x = .agg xs ∧ a.eval y = .agg xs ∧ Region.wanted o (yielded ops a.tmps) = true)
    (hf : P.eqGuardType P.depth t = false ∧ ∀ W : World, (Op.equalIn 10000 t (.agg xs) (.agg xs)).run P W = .ok true W)
    (h : wpList P ops Q rest (a.put o.dst (.bool false)) w) : wpList P ops Q (o :: rest) a w :=
  wpList_wanted hc.2.2.2 fun K hK => by
    have := hK _ _ h
    unfold Oper.wp execOp
    simp only [hc.1, hc.2.1, hc.2.2.1, Sem.run_bind, run_eqGuard_agg w .neq t x y xs xs hf.1, run_neq_struct, hf.2, Result.andThen_ok, Sem.run_pure, Bool.not_true]
    exact this
end
end Go.Pg
namespace Go.Proofs.Ytndkkgkcbbmnpaa
open Go.ChangeShapes Go.WideShapes Go.ChangeAt Go.RowKit Go.Pg

set_option maxRecDepth 100000 in
set_option maxHeartbeats 16000000 in
theorem bback_walk (F : Nat → Prop) (w : World) (x : Blk) (ho : x.ok) (a : Option Addr) (c : Nat) (hT : RowsAt F w (.slice a x.T.length c) x.T) (hsum : (x.T.map fun y => y.length + 1).sum ≤ 1048576)
    (h : Hdr) (hh : h.ok) (ab : Option Addr) (nb cb : Nat) (B : List UInt8) (hB : BytesAt F w (.slice ab nb cb) B) (hBl : B.length ≤ 1048576) :
    Calls Try.prog 9 #[.agg (blkCells x.p x.nn x.bb (.slice a x.T.length c)), .agg (hdrCells h), .slice ab nb cb] w fun e w' => e = .returned (.bool true) ∧ Below w.heap.size w w' := by
  have hnb := (BytesAt.n hB).1
  obtain ⟨ZB, hZB⟩ : ∃ ZR : Array Value, ZR = #[.int .u8 0, .int .u8 0, .int .u8 0, .int .u8 0, .int .u8 0, .int .u8 0, .int .u8 0, .int .u8 0, .int .u8 0, .int .u8 0, .int .u8 0, .int .u8 0, .int .u8 0, .int .u8 0, .int .u8 0, .int .u8 0, .int .u8 0, .int .u8 0, .int .u8 0, .int .u8 0, .int .u8 0, .int .u8 0, .int .u8 0, .int .u8 0, .int .u8 0, .int .u8 0, .int .u8 0, .int .u8 0, .int .u8 0, .int .u8 0, .int .u8 0, .int .u8 0, .int .u64 0, .int .u64 0, .slice none 0 0] := ⟨_, rfl⟩
  obtain ⟨ZH, hZH⟩ : ∃ ZR : Array Value, ZR = Try.zeroCells47 := ⟨_, rfl⟩
  have hZH2 : ZH.size = 131 := by rw [hZH]; kernel_rfl
  obtain ⟨fs, hu⟩ := underlyingBlk
  obtain ⟨fh, huh⟩ := underlyingHdr
  have hwh := blk_whole x ho _ rfl hsum
  have hback := fun bs => blkDecode_back x ho bs
  have hTn : x.T.length ≤ 1048576 := by
    have : ∀ l : List (List UInt8), l.length ≤ (l.map fun y => y.length + 1).sum := fun l => by
      induction l with
      | nil => simp
      | cons y r ih => simp only [List.map_cons, List.sum_cons, List.length_cons]; omega
    have := this x.T; omega
  have hTm : ∀ y ∈ x.T, y.length ≤ 70368744177664 := fun y hy => by
    have : ∀ l : List (List UInt8), y ∈ l → y.length ≤ (l.map fun y => y.length + 1).sum := fun l => by
      induction l with
      | nil => intro h; cases h
      | cons z r ih =>
        intro h
        simp only [List.map_cons, List.sum_cons]
        rcases List.mem_cons.1 h with rfl | h
        · omega
        · have := ih h; omega
    have := this x.T hy; omega
  obtain ⟨⟨p, nn, bb, T⟩, rfl⟩ : ∃ y, y = x := ⟨_, rfl⟩
  simp only at hT hsum hwh hTn hTm
  have hpl := ho.p
  have hnnl := ho.nn
  have hbbl := ho.bb
  simp only at hpl hnnl hbbl
  obtain ⟨n, hn⟩ : ∃ n, n = T.length := ⟨_, rfl⟩
  rw [← hn] at hT hTn ⊢
  obtain ⟨BC, hBC⟩ : ∃ C, C = blkCells p nn bb (.slice a n c) := ⟨_, rfl⟩
  obtain ⟨HC, hHC⟩ : ∃ C, C = hdrCells h := ⟨_, rfl⟩
  obtain ⟨Y, hY⟩ : ∃ Y, Y = blkEncode p nn bb T := ⟨_, rfl⟩
  have hYb : Y.2 = 0 → blkDecode Y.1 = (⟨p, nn, bb, T⟩, 0) := fun h0 => hback Y.1 (by show blkEncode p nn bb T = _; rw [← hY, ← h0])
  have hYl : Y.2 = 0 → Y.1.length ≤ 16777215 := fun h0 => by
    have h1 : (⟨p, nn, bb, T⟩ : Blk).enc = (Y.1, 0) := by show blkEncode p nn bb T = _; rw [← hY, ← h0]
    have h2 := (blk_of_enc _ _ h1).2
    have h3 := It.enc_length (⟨p, nn, bb, T⟩ : Blk).item
    rw [← h2] at h3
    rw [h3]; exact hwh
  obtain ⟨X, hX⟩ : ∃ X, X = blkDecode B := ⟨_, rfl⟩
  have hXo : X.1.ok := by rw [hX]; exact blkDecode_ok B
  have hXs := blkDecode_small B X.1 X.2 (by rw [hX])
  have hXe : X.2 = 0 → blkEncode X.1.p X.1.nn X.1.bb X.1.T = (B, 0) := fun h0 => blkDecode_sound B X.1 (by rw [← hX, ← h0])
  have hXm : X.2 = 0 → ∀ y ∈ X.1.T, y.length ≤ 70368744177664 := fun h0 y hy => by
    have h1 := hXs.2 h0
    have h2 : It.wholes (X.1.T.map .text) ≤ (blkI X.1.p X.1.nn X.1.bb X.1.T).whole := by
      have e1 := It.body_le_whole (blkI X.1.p X.1.nn X.1.bb X.1.T)
      have e2 := It.body_eq (blkI X.1.p X.1.nn X.1.bb X.1.T)
      have e3 := whole_le_mem (blkI X.1.p X.1.nn X.1.bb X.1.T).items (textsI X.1.T) (by simp [blkI, It.items])
      have e4 := It.body_le_whole (textsI X.1.T)
      have e5 := It.body_eq (textsI X.1.T)
      rw [textsI_items] at e5
      omega
    have h3 := whole_le_mem (X.1.T.map .text) (.text y) (List.mem_map.2 ⟨y, hy, rfl⟩)
    have h4 : y.length ≤ (It.text y).whole := by
      have := It.body_le_whole (.text y)
      have e : (It.text y).body = y.length := rfl
      omega
    omega
  obtain ⟨⟨p2, nn2, bb2, T2⟩, d2⟩ := X
  simp only at hXo hXs hXe hXm
  have hp2 := hXo.p
  have hnn2 := hXo.nn
  have hbb2 := hXo.bb
  simp only at hp2 hnn2 hbb2
  obtain ⟨V, hV⟩ : ∃ V, V = hdrDecode B := ⟨_, rfl⟩
  have hVo : V.1.ok := by rw [hV]; exact hdrDecode_ok B
  have hVs : V.2 = 0 → hdrBytes V.1 = B := fun h0 => hdrDecode_sound B V.1 (by rw [← hV, ← h0])
  obtain ⟨VH, ve⟩ := V
  simp only at hVo hVs
  obtain ⟨VC, hVC⟩ : ∃ C, C = hdrCells VH := ⟨_, rfl⟩
  obtain ⟨E, hE⟩ : ∃ B, B = hdrBytes h := ⟨_, rfl⟩
  have hEl : E.length ≤ 162 := by rw [hE]; exact hdrBytes_le h hh
  have hEb : hdrDecode E = (h, 0) := by rw [hE]; exact hdrDecode_back h hh
  have he1 := fun (W : World) => encHdr_any W h hh (by have := hdr_whole h hh; omega)
  have he2 := fun (W : World) => encHdr_any W VH hVo (by have := hdr_whole VH hVo; omega)
  rw [← hHC, ← hE] at he1
  rw [← hVC] at he2
  have heh : ∀ W : World, (Op.equalIn 10000 47 (.agg HC) (.agg HC)).run Try.prog W = .ok true W := fun W => by rw [hHC]; exact hdrEq h hh W
  have hsx : VC.size = 131 := by rw [hVC]; exact hdrCells_size _ hVo
  have hsh : HC.size = 131 := by rw [hHC]; exact hdrCells_size _ hh
  have hdH : ∀ (W : World) a m c, BytesAt (fun _ => True) W (.slice a m c) E → m ≤ 162 → Calls Try.prog 25 #[.slice a m c] W fun e w' => e = .returned (.tuple #[.agg HC, .int .i64 0]) ∧ Below W.heap.size W w' := fun W a m c hb hm => by
    have := bhdec_any _ W a m c E hb (by omega)
    rw [hEb] at this
    rw [hHC]; exact this
  have hdV : ∀ (W : World), BytesAt F W (.slice ab nb cb) B → Calls Try.prog 25 #[.slice ab nb cb] W fun e w' => e = .returned (.tuple #[.agg VC, .int .i64 (ve : Int)]) ∧ Below W.heap.size W w' := fun W hb => by
    have := bhdec_any _ W ab nb cb B hb (by omega)
    rw [← hV] at this
    rw [hVC]; exact this
  obtain ⟨W0, hW0⟩ : ∃ W : World, W = (w.alloc (.cells BC 40)).alloc (.cells HC 47) := ⟨_, rfl⟩
  have hb0 : Below w.heap.size w W0 := by rw [hW0]; exact Bel.alloc (Bel.alloc (Bel.refl w) _) _
  have hk0 : W0.heap[w.heap.size]? = some (.cells BC 40 (0, 0)) := by rw [hW0, Below.heap_alloc _ _ _ (by simp)]; exact heap_alloc_new w _
  have hk1 : W0.heap[w.heap.size + 1]? = some (.cells HC 47 (0, 0)) := by rw [hW0]; have := heap_alloc_new (w.alloc (.cells BC 40)) (.cells HC 47); rw [World.size_alloc] at this; exact this
  have hl1 := (Array.getElem?_eq_some_iff.1 hk1).1
  have hkb : ∀ W : World, Below W0.heap.size W0 W → W.heap[w.heap.size]? = some (.cells BC 40 (0, 0)) := fun W hb => (hb.block _ (by omega)).trans hk0
  have hkh : ∀ W : World, Below W0.heap.size W0 W → W.heap[w.heap.size + 1]? = some (.cells HC 47 (0, 0)) := fun W hb => (hb.block _ hl1).trans hk1
  have hEN : ∀ W : World, Below W0.heap.size W0 W → Calls Try.prog 19 #[.agg BC] W (Encd W Y) := fun W hb => by
    rw [hBC, hY]
    exact bencode_any F W p nn bb (.slice a n c) T hpl hnnl hbbl (RowsAt.below (RowsAt.below hT hb0) hb) (by omega) hTm (by omega)
  have hBW : ∀ W : World, Below W0.heap.size W0 W → BytesAt F W (.slice ab nb cb) B := fun W hb => BytesAt.below (BytesAt.below hB hb0) hb
  have hTW : ∀ W : World, Below W0.heap.size W0 W → RowsAt F W (.slice a n c) T := fun W hb => RowsAt.below (RowsAt.below hT hb0) hb
  have hnbl : nb ≤ 1099511627776 := by omega
  have HIBC := Lib.hid (show (Try.prog.info? 40).map (·.size) = some BC.size by rw [hBC, blkCells_size _ _ _ _ hpl]; exact infoBlk)
  have HIVC := Lib.hid (show (Try.prog.info? 47).map (·.size) = some VC.size by rw [hsx]; exact infoHdr)
  have HIHC := Lib.hid (show (Try.prog.info? 47).map (·.size) = some HC.size by rw [hsh]; exact infoHdr)
  have HSHC := Lib.hid (show ZH.size = HC.size by rw [hsh, hZH2])
  have HSVC := Lib.hid (show HC.size = VC.size by rw [hsh, hsx])
  have HOHC := Lib.hid (show HC.all (·.oneCell') = true by rw [hHC]; exact hdrCells_one _)
  have HOVC := Lib.hid (show VC.all (·.oneCell') = true by rw [hVC]; exact hdrCells_one _)
  have HZB := Lib.hid hZB
  have HZH := Lib.hid hZH
  have HU := Lib.hid hu
  have HUH := Lib.hid huh
  have HYB := Lib.hid hYb
  have HYL := Lib.hid hYl
  have HX := Lib.hid hX
  have HXS := Lib.hid hXs
  have HXE := Lib.hid hXe
  have HXM := Lib.hid hXm
  have HP2 := Lib.hid hp2
  have HNN2 := Lib.hid hnn2
  have HBB2 := Lib.hid hbb2
  have HPL := Lib.hid hpl
  have HTN := Lib.hid hTn
  have HVS := Lib.hid hVs
  have HEL := Lib.hid hEl
  have HE1 := Lib.hid he1
  have HE2 := Lib.hid he2
  have HEQ : Hid (Try.prog.eqGuardType Try.prog.depth 47 = false ∧ ∀ W : World, (Op.equalIn 10000 47 (.agg HC) (.agg HC)).run Try.prog W = .ok true W) := Lib.hid ⟨by kernel_rfl, heh⟩
  have HDH := Lib.hid hdH
  have HDV := Lib.hid hdV
  have HW0 := Lib.hid hW0
  have HB0 := Lib.hid hb0
  have HKB := Lib.hid hkb
  have HKH := Lib.hid hkh
  have HEN := Lib.hid hEN
  have HBW := Lib.hid hBW
  have HTW := Lib.hid hTW
  have HEBC := Lib.hid hBC
  have HBL := Lib.hid hBl
  have HNB := Lib.hid hnb
  have HN := Lib.hid hn
  rw [← hHC, ← hBC]
  clear hnb hZB hZH hZH2 hu huh hwh hback hTm hpl hnnl hbbl hBC hHC hY hYb hYl hX hXo hXs hXe hXm hp2 hnn2 hbb2 hV hVo hVs hVC hE hEl hEb he1 he2 heh hsx hsh hdH hdV hW0 hb0 hk0 hk1 hl1 hkb hkh hEN hBW hTW hsum hT hB ho hh hBl hTn hn
  obtain ⟨E1, E2⟩ := Y
  go_enter Try.func9, Try.ntmps9
  go_wp2_with fail
  rw [← HW0.out]
  refine (alive19_any W0).mono ?_
  rintro e w1 ⟨rfl, hb1⟩
  have HB1 := Lib.hid hb1
  clear hb1
  go_wp2_with (first
    | ((with_reducible refine wpL_load_row_w 40 (.tmp 3) w.heap.size BC 40 (.struct fs) ?_ ⟨HKB.out _ HB1.out, HU.out, rfl, HIBC.out⟩ ?_); (exact ⟨rfl, rfl, rfl⟩)))
  refine (HEN.out w1 HB1.out).mono ?_
  rintro e w2 ⟨v1, rfl, ho1, hb2⟩
  obtain ⟨x1, z1, rfl, -, -, -⟩ := ho1.len
  try simp only at ho1 ⊢
  obtain ⟨m1, hm1⟩ : ∃ m, m = E1.length := ⟨_, rfl⟩
  have hat1 := ho1.at (F := fun _ => True) (fun _ _ _ _ => trivial) (by decide)
  rw [← hm1] at hat1 ⊢
  have HAT1 := Lib.hid hat1
  have HM1 := Lib.hid hm1
  have HB2 := Lib.hid (Bel.call HB1.out hb2)
  clear hat1 hm1 ho1 hb2
  by_cases hE2 : E2 = 0
  · subst hE2
    have hdec := bdec_any _ w2 x1 m1 z1 E1 HAT1.out (by have h1 := HYL.out (by first | rfl | trivial); have h2 := HM1.out; (try simp only at h1); omega)
    rw [HYB.out rfl] at hdec
    have HDEC := Lib.hid hdec
    clear hdec
    go_wp2_with fail
    refine HDEC.out.mono ?_
    rintro e w3 ⟨a5, n5, c5, rfl, g1, hb3⟩
    try simp only at g1 ⊢
    obtain ⟨C3, hC3⟩ : ∃ C, C = blkCells p nn bb (.slice a5 n5 c5) := ⟨_, rfl⟩
    rw [← hC3]
    obtain ⟨W3, hW3⟩ : ∃ W : World, W = (w3.alloc (.cells ZB 40)).setRow w3.heap.size C3 := ⟨_, rfl⟩
    have hz3 : (w3.alloc (.cells ZB 40)).heap[w3.heap.size]? = some (.cells ZB 40 (0, 0)) := heap_alloc_new w3 _
    have hk3 : W3.heap[w3.heap.size]? = some (.cells C3 40 (0, 0)) := by rw [hW3]; exact setRow_heap _ _ _ _ _ _ hz3
    have hbx3 : Below w3.heap.size w3 W3 := by rw [hW3]; exact below_setRow (Bel.alloc (Bel.refl w3) _) (Nat.le_refl _) _
    have HZ3 := Lib.hid hz3
    have HIC3 := Lib.hid (show (Try.prog.info? 40).map (·.size) = some C3.size by rw [hC3, blkCells_size _ _ _ _ HPL.out]; exact infoBlk)
    have HOC3 := Lib.hid (show C3.all (·.oneCell') = true by rw [hC3]; exact blkCells_one _ _ _ _ _ _)
    have HSC3 := Lib.hid (show ZB.size = C3.size by rw [hC3, blkCells_size _ _ _ _ HPL.out, HZB.out]; rfl)
    have HEC3 := Lib.hid hC3
    have HW3 := Lib.hid hW3
    have HB3 := Lib.hid (Bel.call (Bel.call HB2.out hb3) hbx3)
    have HK3 := Lib.hid hk3
    have HR3 := Lib.hid (RowsAt.below g1 hbx3)
    clear hz3 hC3 hW3 hk3 hb3 hbx3 g1
    go_wp2_with (first
      | (rw [← HZB.out]; (with_reducible refine wpL_store_row 40 (.tmp 9) (.tmp 29) w3.heap.size C3 40 ZB ?_ ⟨HZ3.out, HIC3.out, HSC3.out, HOC3.out⟩ ?_); (exact ⟨rfl, rfl, rfl, rfl⟩); rw [← HW3.out])
      | ((with_reducible refine wpL_load_row_w 40 (.tmp 3) w.heap.size BC 40 (.struct fs) ?_ ⟨HKB.out _ HB3.out, HU.out, rfl, HIBC.out⟩ ?_); (exact ⟨rfl, rfl, rfl⟩))
      | ((with_reducible refine wpL_load_row_w 40 (.tmp 9) w3.heap.size C3 40 (.struct fs) ?_ ⟨HK3.out, HU.out, rfl, HIC3.out⟩ ?_); (exact ⟨rfl, rfl, rfl⟩)))
    rw [HEBC.out, HEC3.out]
    refine (sameBlk_any _ _ _ p p nn bb nn bb _ _ T T (HTW.out W3 HB3.out) HR3.out HPL.out HPL.out (by have := HTN.out; have := HN.out; omega)).mono ?_
    rintro e w4 ⟨rfl, hb4⟩
    simp only [and_self, decide_true]
    have HB4 := Lib.hid (Bel.call HB3.out hb4)
    clear hb4
    go_wp2_with (first
      | ((with_reducible refine wpL_load_row_w 47 (.tmp 4) (w.heap.size + 1) HC 47 (.struct fh) ?_ ⟨HKH.out _ HB4.out, HUH.out, rfl, HIHC.out⟩ ?_); (exact ⟨rfl, rfl, rfl⟩)))
    refine (HE1.out w4).mono ?_
    rintro e wa ⟨va, rfl, hoa, hba⟩
    obtain ⟨xa, za, rfl, -, -, -⟩ := hoa.len
    obtain ⟨ma, hma⟩ : ∃ m, m = E.length := ⟨_, rfl⟩
    have hata := hoa.at (F := fun _ => True) (fun _ _ _ _ => trivial) (by decide)
    rw [← hma] at hata ⊢
    have HBA := Lib.hid (Bel.call HB4.out hba)
    have HDA := Lib.hid (HDH.out wa xa ma za hata (by have := HEL.out; omega))
    clear hata hma hoa hba
    go_wp2_with fail
    refine HDA.out.mono ?_
    rintro e wb ⟨rfl, hbb⟩
    try simp only
    obtain ⟨Wb, hWb⟩ : ∃ W : World, W = (wb.alloc (.cells ZH 47)).setRow wb.heap.size HC := ⟨_, rfl⟩
    have hzb : (wb.alloc (.cells ZH 47)).heap[wb.heap.size]? = some (.cells ZH 47 (0, 0)) := heap_alloc_new wb _
    have hkb : Wb.heap[wb.heap.size]? = some (.cells HC 47 (0, 0)) := by rw [hWb]; exact setRow_heap _ _ _ _ _ _ hzb
    have hbxb : Below wb.heap.size wb Wb := by rw [hWb]; exact below_setRow (Bel.alloc (Bel.refl wb) _) (Nat.le_refl _) _
    have HZb := Lib.hid hzb
    have HWb := Lib.hid hWb
    have HKb := Lib.hid hkb
    have hbb0 := Bel.call HBA.out hbb
    have hszb := hbb0.size
    have HBb := Lib.hid (Bel.call hbb0 hbxb)
    have hltb := (Array.getElem?_eq_some_iff.1 hkb).1
    have hdec := bdec_any F Wb ab nb cb B (HBW.out Wb HBb.out) hnbl
    rw [← HX.out] at hdec
    have HDB := Lib.hid hdec
    clear hdec hzb hWb hkb hbxb hbb hbb0
    go_wp2_with (first
      | (rw [← HZH.out]; (with_reducible refine wpL_store_row 47 (.tmp 11) (.tmp 43) wb.heap.size HC 47 ZH ?_ ⟨HZb.out, HIHC.out, HSHC.out, HOHC.out⟩ ?_); (exact ⟨rfl, rfl, rfl, rfl⟩); rw [← HWb.out])
      | ((with_reducible refine wpL_load_row_w 47 (.tmp 11) wb.heap.size HC 47 (.struct fh) ?_ ⟨HKb.out, HUH.out, rfl, HIHC.out⟩ ?_); (exact ⟨rfl, rfl, rfl⟩))
      | ((with_reducible refine wpL_load_row_w 47 (.tmp 4) (w.heap.size + 1) HC 47 (.struct fh) ?_ ⟨HKH.out _ HBb.out, HUH.out, rfl, HIHC.out⟩ ?_); (exact ⟨rfl, rfl, rfl⟩))
      | ((with_reducible refine wpL_neq_agg_w 47 (.tmp 48) (.tmp 49) 47 HC ?_ HEQ.out ?_); (exact ⟨rfl, rfl, rfl, rfl⟩)))
    refine HDB.out.mono ?_
    rintro e wc ⟨a7, n7, c7, rfl, g3, hbc⟩
    try simp only at g3 ⊢
    obtain ⟨C7, hC7⟩ : ∃ C, C = blkCells p2 nn2 bb2 (.slice a7 n7 c7) := ⟨_, rfl⟩
    rw [← hC7]
    obtain ⟨Wc, hWc⟩ : ∃ W : World, W = (wc.alloc (.cells ZB 40)).setRow wc.heap.size C7 := ⟨_, rfl⟩
    have hzc : (wc.alloc (.cells ZB 40)).heap[wc.heap.size]? = some (.cells ZB 40 (0, 0)) := heap_alloc_new wc _
    have hkc : Wc.heap[wc.heap.size]? = some (.cells C7 40 (0, 0)) := by rw [hWc]; exact setRow_heap _ _ _ _ _ _ hzc
    have hbxc : Below wc.heap.size wc Wc := by rw [hWc]; exact below_setRow (Bel.alloc (Bel.refl wc) _) (Nat.le_refl _) _
    have hbbc : Below Wb.heap.size Wb Wc := Bel.call hbc hbxc
    have HIC7 := Lib.hid (show (Try.prog.info? 40).map (·.size) = some C7.size by rw [hC7, blkCells_size _ _ _ _ HP2.out]; exact infoBlk)
    have HOC7 := Lib.hid (show C7.all (·.oneCell') = true by rw [hC7]; exact blkCells_one _ _ _ _ _ _)
    have HSC7 := Lib.hid (show ZB.size = C7.size by rw [hC7, blkCells_size _ _ _ _ HP2.out, HZB.out]; rfl)
    have HEC7 := Lib.hid hC7
    have HZc := Lib.hid hzc
    have HWc := Lib.hid hWc
    have HKc := Lib.hid hkc
    have HKbc := Lib.hid ((hbbc.block _ hltb).trans HKb.out)
    have HBc := Lib.hid (Bel.call HBb.out hbbc)
    have HR7 := Lib.hid (RowsAt.below g3 hbxc)
    clear hzc hWc hkc hbxc hbbc hbc hC7 g3
    by_cases hd2 : d2 = 0
    · subst hd2
      have hl2 : T2.length ≤ 1048576 := by have := HXS.out.1; have := HBL.out; omega
      have hen := bencode_any _ Wc p2 nn2 bb2 (.slice a7 n7 c7) T2 HP2.out HNN2.out HBB2.out HR7.out (by omega) (HXM.out rfl) (by have := HXS.out.2 rfl; have := HBL.out; omega)
      rw [HXE.out rfl, ← HEC7.out] at hen
      have HENC := Lib.hid hen
      clear hen hl2
      go_wp2_with (first
        | (rw [← HZB.out]; (with_reducible refine wpL_store_row 40 (.tmp 13) (.tmp 55) wc.heap.size C7 40 ZB ?_ ⟨HZc.out, HIC7.out, HSC7.out, HOC7.out⟩ ?_); (exact ⟨rfl, rfl, rfl, rfl⟩); rw [← HWc.out])
        | ((with_reducible refine wpL_load_row_w 40 (.tmp 13) wc.heap.size C7 40 (.struct fs) ?_ ⟨HKc.out, HU.out, rfl, HIC7.out⟩ ?_); (exact ⟨rfl, rfl, rfl⟩)))
      refine HENC.out.mono ?_
      rintro e wd ⟨vd, rfl, hod, hbd⟩
      obtain ⟨xd, zd, rfl, -, -, -⟩ := hod.len
      try simp only at hod ⊢
      obtain ⟨md, hmd⟩ : ∃ m, m = B.length := ⟨_, rfl⟩
      have hatd := hod.at (F := fun _ => True) (fun _ _ _ _ => trivial) (by decide)
      rw [← hmd] at hatd ⊢
      have hbwd := Bel.call HBc.out hbd
      have s1 := run_string_at (P := Try.prog) hatd 25 5 9 Try.underlying25 Try.underlying5 Try.underlying9
      have s2 := run_string_at (P := Try.prog) (HBW.out wd hbwd) 25 5 9 Try.underlying25 Try.underlying5 Try.underlying9
      have HEND := Lib.hid (Bel.call HB0.out hbwd)
      clear hatd hmd hod hbd hbwd
      go_wp2_with fail
      go_ret
      exact ⟨rfl, HEND.out⟩
    · have hd0 : ((d2 : Nat) : Int) ≠ 0 := by omega
      have hdt : (((d2 : Nat) : Int) == 0) = false := by simp; omega
      have HDW := Lib.hid (HDV.out Wc (HBW.out Wc HBc.out))
      go_wp2_with (first
        | (rw [← HZB.out]; (with_reducible refine wpL_store_row 40 (.tmp 13) (.tmp 55) wc.heap.size C7 40 ZB ?_ ⟨HZc.out, HIC7.out, HSC7.out, HOC7.out⟩ ?_); (exact ⟨rfl, rfl, rfl, rfl⟩); rw [← HWc.out]))
      refine HDW.out.mono ?_
      rintro e we ⟨rfl, hbe⟩
      try simp only
      obtain ⟨We, hWe⟩ : ∃ W : World, W = we.setRow wb.heap.size VC := ⟨_, rfl⟩
      have hltc := (Array.getElem?_eq_some_iff.1 HKbc.out).1
      have hze := (hbe.block _ hltc).trans HKbc.out
      have hke : We.heap[wb.heap.size]? = some (.cells VC 47 (0, 0)) := by rw [hWe]; exact setRow_heap _ _ _ _ _ _ hze
      have hbWe : Below W0.heap.size W0 We := by rw [hWe]; exact below_setRow (Bel.call HBc.out hbe) hszb _
      have hlte := (Array.getElem?_eq_some_iff.1 hke).1
      have hre : ∀ W : World, Below We.heap.size We W → W.heap[wb.heap.size]? = some (.cells VC 47 (0, 0)) := fun W h => (h.block _ hlte).trans hke
      have HRE := Lib.hid hre
      have HZe := Lib.hid hze
      have HWe := Lib.hid hWe
      have HBe := Lib.hid hbWe
      obtain ⟨S, hS⟩ : ∃ S : World → Prop, S = fun W => Below We.heap.size We W := ⟨_, rfl⟩
      have hHd : S We.drew := by rw [hS]; exact Bel.drew (Bel.refl We)
      have HHD := Lib.hid hHd
      have hS' := Lib.hid hS
      clear hze hWe hke hbWe hlte hre hHd hS hbe hltc
      by_cases hve : ve = 0
      · subst hve
        go_wp2_with (first
          | ((with_reducible refine wpL_store_row 47 (.tmp 11) (.tmp 76) wb.heap.size VC 47 HC ?_ ⟨HZe.out, HIVC.out, HSVC.out, HOVC.out⟩ ?_); (exact ⟨rfl, rfl, rfl, rfl⟩); rw [← HWe.out]))
        refine wp_region_held_drew (S := S) (by kernel_rfl) HHD.out (fun hHeld => ?_)
        have hS := hS'.out
        have hBdrew : Below We.heap.size We We.drew := Bel.drew (Bel.refl We)
        refine wpAnyH_take (i := 0) (op_at rfl) (by kernel_rfl) (by kernel_rfl) (by kernel_rfl) (fun _ _ _ h => h) (Or.inl ⟨by rfl, by intro W hSw; go_simp; (try with_reducible rfl)⟩) hHeld ?_
        simp only [Act.put, List.setIfInBounds_toArray, List.set_cons_zero, List.set_cons_succ]
        refine wpAnyH_take (i := 1) (op_at rfl) (by kernel_rfl) (by kernel_rfl) (by kernel_rfl) (fun _ _ _ h => h) (Or.inl ⟨by rfl, by intro W hSw; go_simp; (try with_reducible rfl)⟩) hHeld ?_
        simp only [Act.put, List.setIfInBounds_toArray, List.set_cons_zero, List.set_cons_succ]
        refine wpAnyH_take (i := 2) (op_at rfl) (by kernel_rfl) (by kernel_rfl) (by kernel_rfl) (fun _ _ _ h => h) (Or.inl ⟨by rfl, by intro W hSw; go_simp; (try with_reducible rfl)⟩) hHeld ?_
        simp only [Act.put, List.setIfInBounds_toArray, List.set_cons_zero, List.set_cons_succ]
        refine wpAnyH_take (i := 3) (op_at rfl) (by kernel_rfl) (by kernel_rfl) (by kernel_rfl) (fun _ _ _ h => h) (yieldsIf_load_row (by rfl) 47 (.tmp 11) rfl wb.heap.size rfl VC 47 (.struct fh) (fun W h => HRE.out W (by rw [hS] at h; exact h)) HUH.out rfl HIVC.out) hHeld ?_
        simp only [Act.put, List.setIfInBounds_toArray, List.set_cons_zero, List.set_cons_succ]
        refine wpAnyH_take (i := 6) (op_at rfl) (by kernel_rfl) (by kernel_rfl) (by kernel_rfl) (fun _ _ _ h => h) (Or.inl ⟨by rfl, by intro W hSw; go_simp; (try with_reducible rfl)⟩) hHeld ?_
        simp only [Act.put, List.setIfInBounds_toArray, List.set_cons_zero, List.set_cons_succ]
        refine wpAnyH_take (i := 7) (op_at rfl) (by kernel_rfl) (by kernel_rfl) (by kernel_rfl) (fun _ _ _ h => h) (Or.inl ⟨by rfl, by intro W hSw; have hc := run_string_at (P := Try.prog) (HBW.out W (Bel.call HBe.out (show Below We.heap.size We W by rw [hS] at hSw; exact hSw))) 25 5 9 Try.underlying25 Try.underlying5 Try.underlying9; go_simp; (try with_reducible rfl)⟩) hHeld ?_
        simp only [Act.put, List.setIfInBounds_toArray, List.set_cons_zero, List.set_cons_succ]
        refine wpAnyH_ready (rs := [4]) (by kernel_rfl) (by simp) (AllReadyH.cons (op_at rfl) (fun K hK => ?_) AllReadyH.nil)
        clear hHeld
        go_simp
        go_at_call 27
        refine (HE2.out We.drew).mono ?_
        rintro e w9 ⟨v9, rfl, ho9, hb⟩
        rw [HVS.out (by first | rfl | trivial)] at ho9
        obtain ⟨x9, z9, rfl, -, -, -⟩ := ho9.len
        have hat := ho9.at (F := fun _ => True) (fun _ _ _ _ => trivial) (by decide)
        obtain ⟨m9, hm9⟩ : ∃ m, m = B.length := ⟨_, rfl⟩
        rw [← hm9] at hat ⊢
        have HAT9 := Lib.hid hat
        clear ho9 hat hm9
        have hdw9 : Below We.heap.size We w9 := Bel.call hBdrew hb
        have hsw9 : S w9 := by rw [hS]; exact hdw9
        clear hb
        go_wp2_with fail
        refine hK.out _ _ hsw9 (fun hHeld0 => ?_)
        clear hK K hHeld0 hsw9
        try simp only [Act.put, List.setIfInBounds_toArray, List.set_cons_zero, List.set_cons_succ]
        obtain ⟨S9, hS9⟩ : ∃ S : World → Prop, S = fun W => Below w9.heap.size w9 W := ⟨_, rfl⟩
        refine wpAnyH_under (S' := S9) (fun W h => by rw [hS9] at h; rw [hS]; exact Bel.call hdw9 h) _ _ _ _ ?_
        have hHeld : S9 w9 := by rw [hS9]; exact Bel.refl _
        have hBw9 : Below We.heap.size We w9 := hdw9
        refine wpAnyH_take (i := 5) (op_at rfl) (by kernel_rfl) (by kernel_rfl) (by kernel_rfl) (fun _ _ _ h => h) (Or.inl ⟨by rfl, by intro W hSw; have hc := run_string_at (P := Try.prog) (BytesAt.below HAT9.out (show Below w9.heap.size w9 W by rw [hS9] at hSw; exact hSw)) 25 5 9 Try.underlying25 Try.underlying5 Try.underlying9; go_simp; (try with_reducible rfl)⟩) hHeld ?_
        simp only [Act.put, List.setIfInBounds_toArray, List.set_cons_zero, List.set_cons_succ]
        refine wpAnyH_take (i := 8) (op_at rfl) (by kernel_rfl) (by kernel_rfl) (by kernel_rfl) (fun _ _ _ h => h) (Or.inl ⟨by rfl, by intro W hSw; go_simp; (try with_reducible rfl)⟩) hHeld ?_
        simp only [Act.put, List.setIfInBounds_toArray, List.set_cons_zero, List.set_cons_succ]
        refine wpAnyH_take (i := 9) (op_at rfl) (by kernel_rfl) (by kernel_rfl) (by kernel_rfl) (fun _ _ _ h => h) (Or.inl ⟨by rfl, by intro W hSw; go_simp; (try with_reducible rfl)⟩) hHeld ?_
        simp only [Act.put, List.setIfInBounds_toArray, List.set_cons_zero, List.set_cons_succ]
        refine wpAnyH_take (i := 10) (op_at rfl) (by kernel_rfl) (by kernel_rfl) (by kernel_rfl) (fun _ _ _ h => h) (Or.inl ⟨by rfl, by intro W hSw; go_simp; (try with_reducible rfl)⟩) hHeld ?_
        simp only [Act.put, List.setIfInBounds_toArray, List.set_cons_zero, List.set_cons_succ]
        refine wpAnyH_done (by kernel_rfl) ?_ _
        have HEND := Lib.hid (Bel.call HB0.out (Bel.call HBe.out hBw9))
        clear hBw9 hdw9 hS hS9 hBdrew
        go_wp2_with fail
        go_ret
        exact ⟨rfl, HEND.out⟩
      · have hv0 : ((ve : Nat) : Int) ≠ 0 := by omega
        have hvt : (((ve : Nat) : Int) != 0) = true := by simp; omega
        go_wp2_with (first
          | ((with_reducible refine wpL_store_row 47 (.tmp 11) (.tmp 76) wb.heap.size VC 47 HC ?_ ⟨HZe.out, HIVC.out, HSVC.out, HOVC.out⟩ ?_); (exact ⟨rfl, rfl, rfl, rfl⟩); rw [← HWe.out]))
        refine wp_region_held_drew (S := S) (by kernel_rfl) HHD.out (fun hHeld => ?_)
        have hBdrew : Below We.heap.size We We.drew := Bel.drew (Bel.refl We)
        refine wpAnyH_take (i := 0) (op_at rfl) (by kernel_rfl) (by kernel_rfl) (by kernel_rfl) (fun _ _ _ h => h) (Or.inl ⟨by rfl, by intro W hSw; go_simp; (try with_reducible rfl)⟩) hHeld ?_
        simp only [Act.put, List.setIfInBounds_toArray, List.set_cons_zero, List.set_cons_succ]
        refine wpAnyH_take (i := 1) (op_at rfl) (by kernel_rfl) (by kernel_rfl) (by kernel_rfl) (fun _ _ _ h => h) (Or.inl ⟨by rfl, by intro W hSw; go_simp; (try with_reducible rfl)⟩) hHeld ?_
        simp only [Act.put, List.setIfInBounds_toArray, List.set_cons_zero, List.set_cons_succ]
        refine wpAnyH_take (i := 2) (op_at rfl) (by kernel_rfl) (by kernel_rfl) (by kernel_rfl) (fun _ _ _ h => h) (Or.inl ⟨by rfl, by intro W hSw; go_simp; (try with_reducible rfl)⟩) hHeld ?_
        simp only [Act.put, List.setIfInBounds_toArray, List.set_cons_zero, List.set_cons_succ]
        refine wpAnyH_take (i := 3) (op_at rfl) (by kernel_rfl) (by kernel_rfl) (by kernel_rfl) (fun _ _ _ h => h) (Or.inr ⟨by rfl, rfl⟩) hHeld ?_
        simp only [Act.put, List.setIfInBounds_toArray, List.set_cons_zero, List.set_cons_succ]
        refine wpAnyH_take (i := 4) (op_at rfl) (by kernel_rfl) (by kernel_rfl) (by kernel_rfl) (fun _ _ _ h => h) (Or.inr ⟨by rfl, rfl⟩) hHeld ?_
        simp only [Act.put, List.setIfInBounds_toArray, List.set_cons_zero, List.set_cons_succ]
        refine wpAnyH_take (i := 5) (op_at rfl) (by kernel_rfl) (by kernel_rfl) (by kernel_rfl) (fun _ _ _ h => h) (Or.inr ⟨by rfl, rfl⟩) hHeld ?_
        simp only [Act.put, List.setIfInBounds_toArray, List.set_cons_zero, List.set_cons_succ]
        refine wpAnyH_take (i := 6) (op_at rfl) (by kernel_rfl) (by kernel_rfl) (by kernel_rfl) (fun _ _ _ h => h) (Or.inr ⟨by rfl, rfl⟩) hHeld ?_
        simp only [Act.put, List.setIfInBounds_toArray, List.set_cons_zero, List.set_cons_succ]
        refine wpAnyH_take (i := 7) (op_at rfl) (by kernel_rfl) (by kernel_rfl) (by kernel_rfl) (fun _ _ _ h => h) (Or.inr ⟨by rfl, rfl⟩) hHeld ?_
        simp only [Act.put, List.setIfInBounds_toArray, List.set_cons_zero, List.set_cons_succ]
        refine wpAnyH_take (i := 8) (op_at rfl) (by kernel_rfl) (by kernel_rfl) (by kernel_rfl) (fun _ _ _ h => h) (Or.inr ⟨by rfl, rfl⟩) hHeld ?_
        simp only [Act.put, List.setIfInBounds_toArray, List.set_cons_zero, List.set_cons_succ]
        refine wpAnyH_take (i := 9) (op_at rfl) (by kernel_rfl) (by kernel_rfl) (by kernel_rfl) (fun _ _ _ h => h) (Or.inl ⟨by rfl, by intro W hSw; go_simp; (try with_reducible rfl)⟩) hHeld ?_
        simp only [Act.put, List.setIfInBounds_toArray, List.set_cons_zero, List.set_cons_succ]
        refine wpAnyH_take (i := 10) (op_at rfl) (by kernel_rfl) (by kernel_rfl) (by kernel_rfl) (fun _ _ _ h => h) (Or.inl ⟨by rfl, by intro W hSw; go_simp; (try with_reducible rfl)⟩) hHeld ?_
        simp only [Act.put, List.setIfInBounds_toArray, List.set_cons_zero, List.set_cons_succ]
        refine wpAnyH_done (by kernel_rfl) ?_ _
        have HEND := Lib.hid (Bel.call HB0.out (Bel.call HBe.out hBdrew))
        clear hBdrew
        go_wp2_with fail
        go_ret
        exact ⟨rfl, HEND.out⟩
  · have ht : (((E2 : Nat) : Int) == 0) = false := by simp; omega
    have ht2 : ¬ ((E2 : Nat) : Int) = 0 := by omega
    go_wp2_with (first
      | ((with_reducible refine wpL_load_row_w 47 (.tmp 4) (w.heap.size + 1) HC 47 (.struct fh) ?_ ⟨HKH.out _ HB2.out, HUH.out, rfl, HIHC.out⟩ ?_); (exact ⟨rfl, rfl, rfl⟩)))
    refine (HE1.out w2).mono ?_
    rintro e wa ⟨va, rfl, hoa, hba⟩
    obtain ⟨xa, za, rfl, -, -, -⟩ := hoa.len
    obtain ⟨ma, hma⟩ : ∃ m, m = E.length := ⟨_, rfl⟩
    have hata := hoa.at (F := fun _ => True) (fun _ _ _ _ => trivial) (by decide)
    rw [← hma] at hata ⊢
    have HBA := Lib.hid (Bel.call HB2.out hba)
    have HDA := Lib.hid (HDH.out wa xa ma za hata (by have := HEL.out; omega))
    clear hata hma hoa hba
    go_wp2_with fail
    refine HDA.out.mono ?_
    rintro e wb ⟨rfl, hbb⟩
    try simp only
    obtain ⟨Wb, hWb⟩ : ∃ W : World, W = (wb.alloc (.cells ZH 47)).setRow wb.heap.size HC := ⟨_, rfl⟩
    have hzb : (wb.alloc (.cells ZH 47)).heap[wb.heap.size]? = some (.cells ZH 47 (0, 0)) := heap_alloc_new wb _
    have hkb : Wb.heap[wb.heap.size]? = some (.cells HC 47 (0, 0)) := by rw [hWb]; exact setRow_heap _ _ _ _ _ _ hzb
    have hbxb : Below wb.heap.size wb Wb := by rw [hWb]; exact below_setRow (Bel.alloc (Bel.refl wb) _) (Nat.le_refl _) _
    have HZb := Lib.hid hzb
    have HWb := Lib.hid hWb
    have HKb := Lib.hid hkb
    have hbb0 := Bel.call HBA.out hbb
    have hszb := hbb0.size
    have HBb := Lib.hid (Bel.call hbb0 hbxb)
    have hltb := (Array.getElem?_eq_some_iff.1 hkb).1
    have hdec := bdec_any F Wb ab nb cb B (HBW.out Wb HBb.out) hnbl
    rw [← HX.out] at hdec
    have HDB := Lib.hid hdec
    clear hdec hzb hWb hkb hbxb hbb hbb0
    go_wp2_with (first
      | (rw [← HZH.out]; (with_reducible refine wpL_store_row 47 (.tmp 11) (.tmp 43) wb.heap.size HC 47 ZH ?_ ⟨HZb.out, HIHC.out, HSHC.out, HOHC.out⟩ ?_); (exact ⟨rfl, rfl, rfl, rfl⟩); rw [← HWb.out])
      | ((with_reducible refine wpL_load_row_w 47 (.tmp 11) wb.heap.size HC 47 (.struct fh) ?_ ⟨HKb.out, HUH.out, rfl, HIHC.out⟩ ?_); (exact ⟨rfl, rfl, rfl⟩))
      | ((with_reducible refine wpL_load_row_w 47 (.tmp 4) (w.heap.size + 1) HC 47 (.struct fh) ?_ ⟨HKH.out _ HBb.out, HUH.out, rfl, HIHC.out⟩ ?_); (exact ⟨rfl, rfl, rfl⟩))
      | ((with_reducible refine wpL_neq_agg_w 47 (.tmp 48) (.tmp 49) 47 HC ?_ HEQ.out ?_); (exact ⟨rfl, rfl, rfl, rfl⟩)))
    refine HDB.out.mono ?_
    rintro e wc ⟨a7, n7, c7, rfl, g3, hbc⟩
    try simp only at g3 ⊢
    obtain ⟨C7, hC7⟩ : ∃ C, C = blkCells p2 nn2 bb2 (.slice a7 n7 c7) := ⟨_, rfl⟩
    rw [← hC7]
    obtain ⟨Wc, hWc⟩ : ∃ W : World, W = (wc.alloc (.cells ZB 40)).setRow wc.heap.size C7 := ⟨_, rfl⟩
    have hzc : (wc.alloc (.cells ZB 40)).heap[wc.heap.size]? = some (.cells ZB 40 (0, 0)) := heap_alloc_new wc _
    have hkc : Wc.heap[wc.heap.size]? = some (.cells C7 40 (0, 0)) := by rw [hWc]; exact setRow_heap _ _ _ _ _ _ hzc
    have hbxc : Below wc.heap.size wc Wc := by rw [hWc]; exact below_setRow (Bel.alloc (Bel.refl wc) _) (Nat.le_refl _) _
    have hbbc : Below Wb.heap.size Wb Wc := Bel.call hbc hbxc
    have HIC7 := Lib.hid (show (Try.prog.info? 40).map (·.size) = some C7.size by rw [hC7, blkCells_size _ _ _ _ HP2.out]; exact infoBlk)
    have HOC7 := Lib.hid (show C7.all (·.oneCell') = true by rw [hC7]; exact blkCells_one _ _ _ _ _ _)
    have HSC7 := Lib.hid (show ZB.size = C7.size by rw [hC7, blkCells_size _ _ _ _ HP2.out, HZB.out]; rfl)
    have HEC7 := Lib.hid hC7
    have HZc := Lib.hid hzc
    have HWc := Lib.hid hWc
    have HKc := Lib.hid hkc
    have HKbc := Lib.hid ((hbbc.block _ hltb).trans HKb.out)
    have HBc := Lib.hid (Bel.call HBb.out hbbc)
    have HR7 := Lib.hid (RowsAt.below g3 hbxc)
    clear hzc hWc hkc hbxc hbbc hbc hC7 g3
    by_cases hd2 : d2 = 0
    · subst hd2
      have hl2 : T2.length ≤ 1048576 := by have := HXS.out.1; have := HBL.out; omega
      have hen := bencode_any _ Wc p2 nn2 bb2 (.slice a7 n7 c7) T2 HP2.out HNN2.out HBB2.out HR7.out (by omega) (HXM.out rfl) (by have := HXS.out.2 rfl; have := HBL.out; omega)
      rw [HXE.out rfl, ← HEC7.out] at hen
      have HENC := Lib.hid hen
      clear hen hl2
      go_wp2_with (first
        | (rw [← HZB.out]; (with_reducible refine wpL_store_row 40 (.tmp 13) (.tmp 55) wc.heap.size C7 40 ZB ?_ ⟨HZc.out, HIC7.out, HSC7.out, HOC7.out⟩ ?_); (exact ⟨rfl, rfl, rfl, rfl⟩); rw [← HWc.out])
        | ((with_reducible refine wpL_load_row_w 40 (.tmp 13) wc.heap.size C7 40 (.struct fs) ?_ ⟨HKc.out, HU.out, rfl, HIC7.out⟩ ?_); (exact ⟨rfl, rfl, rfl⟩)))
      refine HENC.out.mono ?_
      rintro e wd ⟨vd, rfl, hod, hbd⟩
      obtain ⟨xd, zd, rfl, -, -, -⟩ := hod.len
      try simp only at hod ⊢
      obtain ⟨md, hmd⟩ : ∃ m, m = B.length := ⟨_, rfl⟩
      have hatd := hod.at (F := fun _ => True) (fun _ _ _ _ => trivial) (by decide)
      rw [← hmd] at hatd ⊢
      have hbwd := Bel.call HBc.out hbd
      have s1 := run_string_at (P := Try.prog) hatd 25 5 9 Try.underlying25 Try.underlying5 Try.underlying9
      have s2 := run_string_at (P := Try.prog) (HBW.out wd hbwd) 25 5 9 Try.underlying25 Try.underlying5 Try.underlying9
      have HEND := Lib.hid (Bel.call HB0.out hbwd)
      clear hatd hmd hod hbd hbwd
      go_wp2_with fail
      go_ret
      exact ⟨rfl, HEND.out⟩
    · have hd0 : ((d2 : Nat) : Int) ≠ 0 := by omega
      have hdt : (((d2 : Nat) : Int) == 0) = false := by simp; omega
      have HDW := Lib.hid (HDV.out Wc (HBW.out Wc HBc.out))
      go_wp2_with (first
        | (rw [← HZB.out]; (with_reducible refine wpL_store_row 40 (.tmp 13) (.tmp 55) wc.heap.size C7 40 ZB ?_ ⟨HZc.out, HIC7.out, HSC7.out, HOC7.out⟩ ?_); (exact ⟨rfl, rfl, rfl, rfl⟩); rw [← HWc.out]))
      refine HDW.out.mono ?_
      rintro e we ⟨rfl, hbe⟩
      try simp only
      obtain ⟨We, hWe⟩ : ∃ W : World, W = we.setRow wb.heap.size VC := ⟨_, rfl⟩
      have hltc := (Array.getElem?_eq_some_iff.1 HKbc.out).1
      have hze := (hbe.block _ hltc).trans HKbc.out
      have hke : We.heap[wb.heap.size]? = some (.cells VC 47 (0, 0)) := by rw [hWe]; exact setRow_heap _ _ _ _ _ _ hze
      have hbWe : Below W0.heap.size W0 We := by rw [hWe]; exact below_setRow (Bel.call HBc.out hbe) hszb _
      have hlte := (Array.getElem?_eq_some_iff.1 hke).1
      have hre : ∀ W : World, Below We.heap.size We W → W.heap[wb.heap.size]? = some (.cells VC 47 (0, 0)) := fun W h => (h.block _ hlte).trans hke
      have HRE := Lib.hid hre
      have HZe := Lib.hid hze
      have HWe := Lib.hid hWe
      have HBe := Lib.hid hbWe
      obtain ⟨S, hS⟩ : ∃ S : World → Prop, S = fun W => Below We.heap.size We W := ⟨_, rfl⟩
      have hHd : S We.drew := by rw [hS]; exact Bel.drew (Bel.refl We)
      have HHD := Lib.hid hHd
      have hS' := Lib.hid hS
      clear hze hWe hke hbWe hlte hre hHd hS hbe hltc
      by_cases hve : ve = 0
      · subst hve
        go_wp2_with (first
          | ((with_reducible refine wpL_store_row 47 (.tmp 11) (.tmp 76) wb.heap.size VC 47 HC ?_ ⟨HZe.out, HIVC.out, HSVC.out, HOVC.out⟩ ?_); (exact ⟨rfl, rfl, rfl, rfl⟩); rw [← HWe.out]))
        refine wp_region_held_drew (S := S) (by kernel_rfl) HHD.out (fun hHeld => ?_)
        have hS := hS'.out
        have hBdrew : Below We.heap.size We We.drew := Bel.drew (Bel.refl We)
        refine wpAnyH_take (i := 0) (op_at rfl) (by kernel_rfl) (by kernel_rfl) (by kernel_rfl) (fun _ _ _ h => h) (Or.inl ⟨by rfl, by intro W hSw; go_simp; (try with_reducible rfl)⟩) hHeld ?_
        simp only [Act.put, List.setIfInBounds_toArray, List.set_cons_zero, List.set_cons_succ]
        refine wpAnyH_take (i := 1) (op_at rfl) (by kernel_rfl) (by kernel_rfl) (by kernel_rfl) (fun _ _ _ h => h) (Or.inl ⟨by rfl, by intro W hSw; go_simp; (try with_reducible rfl)⟩) hHeld ?_
        simp only [Act.put, List.setIfInBounds_toArray, List.set_cons_zero, List.set_cons_succ]
        refine wpAnyH_take (i := 2) (op_at rfl) (by kernel_rfl) (by kernel_rfl) (by kernel_rfl) (fun _ _ _ h => h) (Or.inl ⟨by rfl, by intro W hSw; go_simp; (try with_reducible rfl)⟩) hHeld ?_
        simp only [Act.put, List.setIfInBounds_toArray, List.set_cons_zero, List.set_cons_succ]
        refine wpAnyH_take (i := 3) (op_at rfl) (by kernel_rfl) (by kernel_rfl) (by kernel_rfl) (fun _ _ _ h => h) (yieldsIf_load_row (by rfl) 47 (.tmp 11) rfl wb.heap.size rfl VC 47 (.struct fh) (fun W h => HRE.out W (by rw [hS] at h; exact h)) HUH.out rfl HIVC.out) hHeld ?_
        simp only [Act.put, List.setIfInBounds_toArray, List.set_cons_zero, List.set_cons_succ]
        refine wpAnyH_take (i := 6) (op_at rfl) (by kernel_rfl) (by kernel_rfl) (by kernel_rfl) (fun _ _ _ h => h) (Or.inl ⟨by rfl, by intro W hSw; go_simp; (try with_reducible rfl)⟩) hHeld ?_
        simp only [Act.put, List.setIfInBounds_toArray, List.set_cons_zero, List.set_cons_succ]
        refine wpAnyH_take (i := 7) (op_at rfl) (by kernel_rfl) (by kernel_rfl) (by kernel_rfl) (fun _ _ _ h => h) (Or.inl ⟨by rfl, by intro W hSw; have hc := run_string_at (P := Try.prog) (HBW.out W (Bel.call HBe.out (show Below We.heap.size We W by rw [hS] at hSw; exact hSw))) 25 5 9 Try.underlying25 Try.underlying5 Try.underlying9; go_simp; (try with_reducible rfl)⟩) hHeld ?_
        simp only [Act.put, List.setIfInBounds_toArray, List.set_cons_zero, List.set_cons_succ]
        refine wpAnyH_ready (rs := [4]) (by kernel_rfl) (by simp) (AllReadyH.cons (op_at rfl) (fun K hK => ?_) AllReadyH.nil)
        clear hHeld
        go_simp
        go_at_call 27
        refine (HE2.out We.drew).mono ?_
        rintro e w9 ⟨v9, rfl, ho9, hb⟩
        rw [HVS.out (by first | rfl | trivial)] at ho9
        obtain ⟨x9, z9, rfl, -, -, -⟩ := ho9.len
        have hat := ho9.at (F := fun _ => True) (fun _ _ _ _ => trivial) (by decide)
        obtain ⟨m9, hm9⟩ : ∃ m, m = B.length := ⟨_, rfl⟩
        rw [← hm9] at hat ⊢
        have HAT9 := Lib.hid hat
        clear ho9 hat hm9
        have hdw9 : Below We.heap.size We w9 := Bel.call hBdrew hb
        have hsw9 : S w9 := by rw [hS]; exact hdw9
        clear hb
        go_wp2_with fail
        refine hK.out _ _ hsw9 (fun hHeld0 => ?_)
        clear hK K hHeld0 hsw9
        try simp only [Act.put, List.setIfInBounds_toArray, List.set_cons_zero, List.set_cons_succ]
        obtain ⟨S9, hS9⟩ : ∃ S : World → Prop, S = fun W => Below w9.heap.size w9 W := ⟨_, rfl⟩
        refine wpAnyH_under (S' := S9) (fun W h => by rw [hS9] at h; rw [hS]; exact Bel.call hdw9 h) _ _ _ _ ?_
        have hHeld : S9 w9 := by rw [hS9]; exact Bel.refl _
        have hBw9 : Below We.heap.size We w9 := hdw9
        refine wpAnyH_take (i := 5) (op_at rfl) (by kernel_rfl) (by kernel_rfl) (by kernel_rfl) (fun _ _ _ h => h) (Or.inl ⟨by rfl, by intro W hSw; have hc := run_string_at (P := Try.prog) (BytesAt.below HAT9.out (show Below w9.heap.size w9 W by rw [hS9] at hSw; exact hSw)) 25 5 9 Try.underlying25 Try.underlying5 Try.underlying9; go_simp; (try with_reducible rfl)⟩) hHeld ?_
        simp only [Act.put, List.setIfInBounds_toArray, List.set_cons_zero, List.set_cons_succ]
        refine wpAnyH_take (i := 8) (op_at rfl) (by kernel_rfl) (by kernel_rfl) (by kernel_rfl) (fun _ _ _ h => h) (Or.inl ⟨by rfl, by intro W hSw; go_simp; (try with_reducible rfl)⟩) hHeld ?_
        simp only [Act.put, List.setIfInBounds_toArray, List.set_cons_zero, List.set_cons_succ]
        refine wpAnyH_take (i := 9) (op_at rfl) (by kernel_rfl) (by kernel_rfl) (by kernel_rfl) (fun _ _ _ h => h) (Or.inl ⟨by rfl, by intro W hSw; go_simp; (try with_reducible rfl)⟩) hHeld ?_
        simp only [Act.put, List.setIfInBounds_toArray, List.set_cons_zero, List.set_cons_succ]
        refine wpAnyH_take (i := 10) (op_at rfl) (by kernel_rfl) (by kernel_rfl) (by kernel_rfl) (fun _ _ _ h => h) (Or.inl ⟨by rfl, by intro W hSw; go_simp; (try with_reducible rfl)⟩) hHeld ?_
        simp only [Act.put, List.setIfInBounds_toArray, List.set_cons_zero, List.set_cons_succ]
        refine wpAnyH_done (by kernel_rfl) ?_ _
        have HEND := Lib.hid (Bel.call HB0.out (Bel.call HBe.out hBw9))
        clear hBw9 hdw9 hS hS9 hBdrew
        go_wp2_with fail
        go_ret
        exact ⟨rfl, HEND.out⟩
      · have hv0 : ((ve : Nat) : Int) ≠ 0 := by omega
        have hvt : (((ve : Nat) : Int) != 0) = true := by simp; omega
        go_wp2_with (first
          | ((with_reducible refine wpL_store_row 47 (.tmp 11) (.tmp 76) wb.heap.size VC 47 HC ?_ ⟨HZe.out, HIVC.out, HSVC.out, HOVC.out⟩ ?_); (exact ⟨rfl, rfl, rfl, rfl⟩); rw [← HWe.out]))
        refine wp_region_held_drew (S := S) (by kernel_rfl) HHD.out (fun hHeld => ?_)
        have hBdrew : Below We.heap.size We We.drew := Bel.drew (Bel.refl We)
        refine wpAnyH_take (i := 0) (op_at rfl) (by kernel_rfl) (by kernel_rfl) (by kernel_rfl) (fun _ _ _ h => h) (Or.inl ⟨by rfl, by intro W hSw; go_simp; (try with_reducible rfl)⟩) hHeld ?_
        simp only [Act.put, List.setIfInBounds_toArray, List.set_cons_zero, List.set_cons_succ]
        refine wpAnyH_take (i := 1) (op_at rfl) (by kernel_rfl) (by kernel_rfl) (by kernel_rfl) (fun _ _ _ h => h) (Or.inl ⟨by rfl, by intro W hSw; go_simp; (try with_reducible rfl)⟩) hHeld ?_
        simp only [Act.put, List.setIfInBounds_toArray, List.set_cons_zero, List.set_cons_succ]
        refine wpAnyH_take (i := 2) (op_at rfl) (by kernel_rfl) (by kernel_rfl) (by kernel_rfl) (fun _ _ _ h => h) (Or.inl ⟨by rfl, by intro W hSw; go_simp; (try with_reducible rfl)⟩) hHeld ?_
        simp only [Act.put, List.setIfInBounds_toArray, List.set_cons_zero, List.set_cons_succ]
        refine wpAnyH_take (i := 3) (op_at rfl) (by kernel_rfl) (by kernel_rfl) (by kernel_rfl) (fun _ _ _ h => h) (Or.inr ⟨by rfl, rfl⟩) hHeld ?_
        simp only [Act.put, List.setIfInBounds_toArray, List.set_cons_zero, List.set_cons_succ]
        refine wpAnyH_take (i := 4) (op_at rfl) (by kernel_rfl) (by kernel_rfl) (by kernel_rfl) (fun _ _ _ h => h) (Or.inr ⟨by rfl, rfl⟩) hHeld ?_
        simp only [Act.put, List.setIfInBounds_toArray, List.set_cons_zero, List.set_cons_succ]
        refine wpAnyH_take (i := 5) (op_at rfl) (by kernel_rfl) (by kernel_rfl) (by kernel_rfl) (fun _ _ _ h => h) (Or.inr ⟨by rfl, rfl⟩) hHeld ?_
        simp only [Act.put, List.setIfInBounds_toArray, List.set_cons_zero, List.set_cons_succ]
        refine wpAnyH_take (i := 6) (op_at rfl) (by kernel_rfl) (by kernel_rfl) (by kernel_rfl) (fun _ _ _ h => h) (Or.inr ⟨by rfl, rfl⟩) hHeld ?_
        simp only [Act.put, List.setIfInBounds_toArray, List.set_cons_zero, List.set_cons_succ]
        refine wpAnyH_take (i := 7) (op_at rfl) (by kernel_rfl) (by kernel_rfl) (by kernel_rfl) (fun _ _ _ h => h) (Or.inr ⟨by rfl, rfl⟩) hHeld ?_
        simp only [Act.put, List.setIfInBounds_toArray, List.set_cons_zero, List.set_cons_succ]
        refine wpAnyH_take (i := 8) (op_at rfl) (by kernel_rfl) (by kernel_rfl) (by kernel_rfl) (fun _ _ _ h => h) (Or.inr ⟨by rfl, rfl⟩) hHeld ?_
        simp only [Act.put, List.setIfInBounds_toArray, List.set_cons_zero, List.set_cons_succ]
        refine wpAnyH_take (i := 9) (op_at rfl) (by kernel_rfl) (by kernel_rfl) (by kernel_rfl) (fun _ _ _ h => h) (Or.inl ⟨by rfl, by intro W hSw; go_simp; (try with_reducible rfl)⟩) hHeld ?_
        simp only [Act.put, List.setIfInBounds_toArray, List.set_cons_zero, List.set_cons_succ]
        refine wpAnyH_take (i := 10) (op_at rfl) (by kernel_rfl) (by kernel_rfl) (by kernel_rfl) (fun _ _ _ h => h) (Or.inl ⟨by rfl, by intro W hSw; go_simp; (try with_reducible rfl)⟩) hHeld ?_
        simp only [Act.put, List.setIfInBounds_toArray, List.set_cons_zero, List.set_cons_succ]
        refine wpAnyH_done (by kernel_rfl) ?_ _
        have HEND := Lib.hid (Bel.call HB0.out (Bel.call HBe.out hBdrew))
        clear hBdrew
        go_wp2_with fail
        go_ret
        exact ⟨rfl, HEND.out⟩
end Go.Proofs.Ytndkkgkcbbmnpaa
