/-
  Contract of pergolaref19.Decode.
  Bytes of some blocks have been written over; all else is as it was.
-/
import Derived.Test.YtndkkgkcbbmnpaaQgAQ
namespace Go.Proofs.Ytndkkgkcbbmnpaa
open Go.RowKit Go.Pg

set_option maxRecDepth 100000 in
set_option maxHeartbeats 8000000 in
theorem rbdec_any (F : Nat → Prop) (w : World) (a : Option Addr) (n c : Nat) (bs : List UInt8) (h : BytesAt F w (.slice a n c) bs) (hn : n ≤ 140737488351232) :
    Calls Try.prog 24 #[.slice a n c] w (BlkD w (refBlkDecode bs)) := by
  have hnl := (BytesAt.n h).1
  obtain ⟨ZR, hZR⟩ : ∃ ZR : Array Value, ZR = #[.int .u8 0, .int .u8 0, .int .u8 0, .int .u8 0, .int .u8 0, .int .u8 0, .int .u8 0, .int .u8 0, .int .u8 0, .int .u8 0, .int .u8 0, .int .u8 0, .int .u8 0, .int .u8 0, .int .u8 0, .int .u8 0, .int .u8 0, .int .u8 0, .int .u8 0, .int .u8 0, .int .u8 0, .int .u8 0, .int .u8 0, .int .u8 0, .int .u8 0, .int .u8 0, .int .u8 0, .int .u8 0, .int .u8 0, .int .u8 0, .int .u8 0, .int .u8 0, .int .u64 0, .int .u64 0, .slice none 0 0] := ⟨_, rfl⟩
  have hZR2 : ZR = blkCells (List.replicate 32 0) 0 0 (.slice none 0 0) := by rw [hZR]; rfl
  obtain ⟨Wz, hWz⟩ : ∃ W : World, W = w.alloc (.cells ZR 40) := ⟨_, rfl⟩
  have hbz : Below w.heap.size w Wz := by rw [hWz]; exact Bel.alloc (Bel.refl w) _
  have hrz : Wz.heap[w.heap.size]? = some (.cells ZR 40 (0, 0)) := by rw [hWz]; exact heap_alloc_new w _
  have hzs : Wz.heap.size = w.heap.size + 1 := by rw [hWz]; simp
  have hcall := rdecode_any _ Wz a n c bs (BytesAt.below h (by rw [hWz]; exact Bel.alloc (Bel.refl w) _)) (by omega)
  have hsm := rdWhole_small bs
  obtain ⟨O, hO⟩ : ∃ O, O = rdWhole bs := ⟨_, rfl⟩
  rw [← hO] at hcall hsm
  have hres : refBlkDecode bs = if O.1 = 0 ∧ O.2.items.length = 4 ∧ (blkOf O.2.items).enc = (bs, 0) then (blkOf O.2.items, 0) else (blk0, 190) := by unfold refBlkDecode; rw [hO]
  obtain ⟨X, hX⟩ : ∃ X, X = refBlkDecode bs := ⟨_, rfl⟩
  rw [← hX]
  rw [← hX] at hres
  obtain ⟨e1, x⟩ := O
  simp only at hres hcall hsm
  obtain ⟨fs, hu⟩ := underlyingBlk
  have hiz : (Try.prog.info? 40).map (·.size) = some (ZR).size := by rw [hZR]; kernel_rfl
  have hoz : (ZR).all (·.oneCell') = true := by rw [hZR]; kernel_rfl
  have HU := Lib.hid hu
  have HC := Lib.hid hcall
  have HRES := Lib.hid hres
  have HZR := Lib.hid hZR
  have HZR2 := Lib.hid hZR2
  have HWZ := Lib.hid hWz
  have HBZ := Lib.hid hbz
  have HRZ := Lib.hid hrz
  have HIN := Lib.hid h
  have HIZ := Lib.hid hiz
  have HOZ := Lib.hid hoz
  have HSM := Lib.hid hsm
  have HNL := Lib.hid hnl
  have HB0 : Hid (Try.prog.built 40 [] = some ZR) := Lib.hid (by rw [HZR2.out]; exact builtBlk [])
  clear hu hcall hres hX hO hZR hZR2 hWz hbz hrz h hiz hoz hsm hnl
  go_enter Try.func24, Try.ntmps24
  go_wp2_with fail
  rw [← HZR.out, ← HWZ.out]
  refine HC.out.mono ?_
  rintro e w1 ⟨il, i1, y1, z1, i3, y3, z3, rfl, hit, hb1⟩
  simp only at hit
  have hk1 := (hb1.block _ (by omega)).trans HRZ.out
  have hbl1 := Bel.call HBZ.out hb1
  obtain ⟨-, _, _, _, _, _, _, e1', e2', -, hn3⟩ := ItemAt.form hit
  simp only [Value.slice.injEq] at e1' e2'
  obtain ⟨rfl, rfl, rfl⟩ := e1'
  obtain ⟨rfl, rfl, rfl⟩ := e2'
  have hits := ItemAt.items hit
  obtain ⟨L, hL⟩ : ∃ L, L = x.items := ⟨_, rfl⟩
  rw [← hL] at hits hn3 HRES HSM
  have HN3 := Lib.hid hn3
  have HITS := Lib.hid hits
  have HK1 := Lib.hid hk1
  have HBL1 := Lib.hid hbl1
  have hlt1 : w.heap.size < w1.heap.size := (Array.getElem?_eq_some_iff.1 hk1).1
  have hsz1 := hb1.size
  clear hk1 hbl1 hits hit hn3 hL HC hb1
  have hbad : ∀ W : World, Below w.heap.size w W → W.heap[w.heap.size]? = some (.cells ZR 40 (0, 0)) → X = (blk0, 190) →
      (W.setRow w.heap.size ZR).heap[w.heap.size]? = some (.cells ZR 40 (0, 0)) ∧ BlkD w X (.returned (.tuple #[.agg ZR, .int .i64 190])) (W.setRow w.heap.size ZR) := by
    intro W hb hk hX
    refine ⟨setRow_heap W _ _ _ _ _ hk, ?_⟩
    rw [hX, HZR2.out]
    exact ⟨none, 0, 0, rfl, SliceAt.nil _ _ _ _, below_setRow hb (Nat.le_refl _) _⟩
  have HBAD := Lib.hid hbad
  clear hbad
  have hk2 : (w1.alloc (.cells #[.bool il, .slice i1 y1 z1, .slice i3 y3 z3] 65)).heap[w.heap.size]? = some (.cells ZR 40 (0, 0)) := (Below.heap_alloc _ _ _ hlt1).trans HK1.out
  have HK2 := Lib.hid hk2
  clear hk2
  by_cases hgood : e1 = 0 ∧ y3 = 4
  · skip
    obtain ⟨rfl, rfl⟩ := hgood
    have hN := HN3.out
    rcases SliceAt.split HITS.out with ⟨h0, -⟩ | ⟨b, o, rfl, -, -, hfb⟩
    · rw [h0] at hN; cases hN
    obtain ⟨W2, hW2⟩ : ∃ W : World, W = w1.alloc (.cells #[.bool il, .slice i1 y1 z1, .slice (some ⟨b, o, none⟩) 4 z3] 65) := ⟨_, rfl⟩
    have hb2 : Below w1.heap.size w1 W2 := by rw [hW2]; exact Bel.alloc (Bel.refl w1) _
    have hits2 := ItemsAt.below HITS.out hb2
    have hbox : W2.heap[w1.heap.size]? = some (.cells #[.bool il, .slice i1 y1 z1, .slice (some ⟨b, o, none⟩) 4 z3] 65 (0, 0)) := by rw [hW2]; exact heap_alloc_new w1 _
    have hbs := (Array.getElem?_eq_some_iff.1 hbox).1
    rw [← hW2] at HK2
    obtain ⟨x1, yy1, zz1, x2, y2, z2, -, -, d3, t3⟩ := ItemsAt.cell hits2 3 (by omega)
    obtain ⟨I3, hI3⟩ : ∃ I, I = L[3]'(by omega) := ⟨_, rfl⟩
    have hsm3 := HSM.out rfl I3 (by rw [hI3]; exact List.getElem_mem _)
    have hgd : L.getD 3 (.text []) = I3 := by rw [hI3, List.getD_eq_getElem?_getD, List.getElem?_eq_getElem (by omega)]; rfl
    rw [← hI3] at t3
    obtain ⟨-, _, _, _, _, _, _, -, e2', -, hy2⟩ := ItemAt.form t3
    simp only [Value.slice.injEq] at e2'
    obtain ⟨rfl, rfl, rfl⟩ := e2'
    have hit3 := ItemAt.items (d := 7) t3
    obtain ⟨LT, hLT⟩ : ∃ l, l = I3.items := ⟨_, rfl⟩
    rw [← hLT] at hy2 hit3 hsm3
    have d3' : W2.cell? ⟨b, o + 9 + 2, none⟩ = some (.slice x2 y2 z2) := d3
    have HIT3 := Lib.hid hit3
    have HY2 := Lib.hid hy2
    have hy2n : y2 ≤ 16777215 := by omega
    have HSM3 : Hid (It.wholes LT ≤ 16777215) := Lib.hid hsm3.2
    clear t3 d3 hy2 hit3 hsm3
    obtain ⟨p0, m0, k0, _, _, _, -, d0, -, t0⟩ := ItemsAt.cell hits2 0 (by omega)
    have T0 := Lib.hid (show BytesAt (fresh Wz) W2 (.slice p0 m0 k0) (itB L 0) from by unfold itB; rw [List.getD_eq_getElem?_getD, List.getElem?_eq_getElem (by omega)]; exact ItemAt.bytes t0)
    clear t0
    obtain ⟨p1, m1, k1, _, _, _, -, d1, -, t1⟩ := ItemsAt.cell hits2 1 (by omega)
    have T1 := Lib.hid (show BytesAt (fresh Wz) W2 (.slice p1 m1 k1) (itB L 1) from by unfold itB; rw [List.getD_eq_getElem?_getD, List.getElem?_eq_getElem (by omega)]; exact ItemAt.bytes t1)
    clear t1
    obtain ⟨p2, m2, k2, _, _, _, -, d2, -, t2⟩ := ItemsAt.cell hits2 2 (by omega)
    have T2 := Lib.hid (show BytesAt (fresh Wz) W2 (.slice p2 m2 k2) (itB L 2) from by unfold itB; rw [List.getD_eq_getElem?_getD, List.getElem?_eq_getElem (by omega)]; exact ItemAt.bytes t2)
    clear t2
    obtain ⟨S, hS⟩ : ∃ S : World → Prop, S = fun W => Below W2.heap.size W2 W := ⟨_, rfl⟩
    have hc2 := (cell_of_row W2 w1.heap.size 2 _ _ _ hbox)
    have hkeep : ∀ W : World, Below W2.heap.size W2 W → S W := fun W hW => by rw [hS]; exact hW
    have hget : ∀ W : World, S W → W.cell? ⟨w1.heap.size, 2, none⟩ = some (.slice (some ⟨b, o, none⟩) 4 z3) ∧ W.cell? ⟨b, o + 0 * 3 + 1, none⟩ = some (.slice p0 m0 k0) ∧ W.cell? ⟨b, o + 1 * 3 + 1, none⟩ = some (.slice p1 m1 k1) ∧ W.cell? ⟨b, o + 2 * 3 + 1, none⟩ = some (.slice p2 m2 k2) := fun W hW => by
      rw [hS] at hW
      exact ⟨cell_below hW hc2, cell_below hW d0, cell_below hW d1, cell_below hW d2⟩
    have HKP := Lib.hid hkeep
    have HS := Lib.hid hget
    obtain ⟨p, hp⟩ : ∃ p, p = fit32 (itB L 0) := ⟨_, rfl⟩
    obtain ⟨nn, hnn⟩ : ∃ m, m = (readWord (itB L 1)).1 := ⟨_, rfl⟩
    obtain ⟨bb, hbb⟩ : ∃ m, m = (readWord (itB L 2)).1 := ⟨_, rfl⟩
    have hpl : p.length = 32 := by rw [hp]; exact fit32_length _
    have hnl : (nn : Int) < 18446744073709551616 := by rw [hnn]; exact readWord_lt _
    have hbl : (bb : Int) < 18446744073709551616 := by rw [hbb]; exact readWord_lt _
    have hbu2 : Try.prog.built 40 [(0, .agg (cellsOf (fit32 (itB L 0)))), (1, .int .u64 ((readWord (itB L 1)).1 : Int)), (2, .int .u64 ((readWord (itB L 2)).1 : Int))] = some (blkCells p nn bb (.slice none 0 0)) := by rw [hp, hnn, hbb]; exact builtBlkOf _ _ _ (fit32_length _)
    have hX : X = if blkEncode p nn bb (LT.map It.bytes) = (bs, 0) then (⟨p, nn, bb, LT.map It.bytes⟩, 0) else (blk0, 190) := by
      have e : blkOf L = ⟨p, nn, bb, LT.map It.bytes⟩ := by unfold blkOf; rw [hp, hnn, hbb, hgd, hLT]
      rw [HRES.out, e]; simp only [Blk.enc, true_and, hN.symm]
    obtain ⟨BC, hBC⟩ : ∃ BC, BC = blkCells p nn bb (.slice none 0 0) := ⟨_, rfl⟩
    rw [← hBC] at hbu2
    have HIB := Lib.hid (show (Try.prog.info? 40).map (·.size) = some BC.size by rw [hBC, blkCells_size _ _ _ _ hpl]; exact infoBlk)
    have HOB := Lib.hid (show BC.all (·.oneCell') = true by rw [hBC]; exact blkCells_one _ _ _ _ _ _)
    have HSB := Lib.hid (show ZR.size = BC.size by rw [hBC, blkCells_size _ _ _ _ hpl, HZR.out]; rfl)
    have HBC := Lib.hid hBC
    have HX := Lib.hid hX
    have HBU := Lib.hid hbu2
    have HPL := Lib.hid hpl
    have HNNL := Lib.hid hnl
    have HBBL := Lib.hid hbl
    have HW2 := Lib.hid hW2
    have HB2 := Lib.hid (HBL1.out.trans (hb2.mono (by omega)))
    have hlt2 : w.heap.size < W2.heap.size := by omega
    have D3 := Lib.hid d3'
    have HBOX := Lib.hid hbox
    clear hN hS hc2 hkeep hget hW2 hb2 hits2 hbox d0 d1 d2 d3' hp hnn hbb hpl hnl hbl hbu2 hX hBC hgd hI3 hLT
    simp only
    go_wp2_with fail
    rw [← HW2.out]
    go_cut [6] (fun s6 wx => ∃ g : Nat, s6 = .pointer (some ⟨g, 0, none⟩) ∧ Hid (Below W2.heap.size W2 wx ∧ W2.heap.size ≤ g ∧ wx.heap[g]? = some (.cells BC 40 (0, 0))))
    case first =>
      refine wp_region_held_drew (S := S) (by kernel_rfl) (HKP.out _ (Bel.drew (Bel.refl W2))) (fun hHeld => ?_)
      refine wpAnyH_take (i := 0) (op_at rfl) (by kernel_rfl) (by kernel_rfl) (by kernel_rfl) (fun _ _ _ h => h) (Or.inl ⟨by rfl, by intro W hSw; go_simp; (try with_reducible rfl)⟩) hHeld ?_
      simp only [Act.put, List.setIfInBounds_toArray, List.set_cons_zero, List.set_cons_succ]
      refine wpAnyH_take (i := 1) (op_at rfl) (by kernel_rfl) (by kernel_rfl) (by kernel_rfl) (fun _ _ _ h => h) (Or.inl ⟨by rfl, by intro W hSw; have hc := (HS.out W hSw).1; go_simp; (try with_reducible rfl)⟩) hHeld ?_
      simp only [Act.put, List.setIfInBounds_toArray, List.set_cons_zero, List.set_cons_succ]
      refine wpAnyH_take (i := 2) (op_at rfl) (by kernel_rfl) (by kernel_rfl) (by kernel_rfl) (fun _ _ _ h => h) (Or.inl ⟨by rfl, by intro W hSw; go_simp; (try with_reducible rfl)⟩) hHeld ?_
      simp only [Act.put, List.setIfInBounds_toArray, List.set_cons_zero, List.set_cons_succ]
      refine wpAnyH_take (i := 3) (op_at rfl) (by kernel_rfl) (by kernel_rfl) (by kernel_rfl) (fun _ _ _ h => h) (Or.inl ⟨by rfl, by intro W hSw; go_simp; (try with_reducible rfl)⟩) hHeld ?_
      simp only [Act.put, List.setIfInBounds_toArray, List.set_cons_zero, List.set_cons_succ]
      refine wpAnyH_take (i := 4) (op_at rfl) (by kernel_rfl) (by kernel_rfl) (by kernel_rfl) (fun _ _ _ h => h) (Or.inl ⟨by rfl, by intro W hSw; have hc := (HS.out W hSw).2.1; go_simp; (try with_reducible rfl)⟩) hHeld ?_
      simp only [Act.put, List.setIfInBounds_toArray, List.set_cons_zero, List.set_cons_succ]
      refine wpAnyH_take (i := 6) (op_at rfl) (by kernel_rfl) (by kernel_rfl) (by kernel_rfl) (fun _ _ _ h => h) (Or.inl ⟨by rfl, by intro W hSw; go_simp; (try with_reducible rfl)⟩) hHeld ?_
      simp only [Act.put, List.setIfInBounds_toArray, List.set_cons_zero, List.set_cons_succ]
      refine wpAnyH_take (i := 7) (op_at rfl) (by kernel_rfl) (by kernel_rfl) (by kernel_rfl) (fun _ _ _ h => h) (Or.inl ⟨by rfl, by intro W hSw; have hc := (HS.out W hSw).1; go_simp; (try with_reducible rfl)⟩) hHeld ?_
      simp only [Act.put, List.setIfInBounds_toArray, List.set_cons_zero, List.set_cons_succ]
      refine wpAnyH_take (i := 8) (op_at rfl) (by kernel_rfl) (by kernel_rfl) (by kernel_rfl) (fun _ _ _ h => h) (Or.inl ⟨by rfl, by intro W hSw; go_simp; (try with_reducible rfl)⟩) hHeld ?_
      simp only [Act.put, List.setIfInBounds_toArray, List.set_cons_zero, List.set_cons_succ]
      refine wpAnyH_take (i := 9) (op_at rfl) (by kernel_rfl) (by kernel_rfl) (by kernel_rfl) (fun _ _ _ h => h) (Or.inl ⟨by rfl, by intro W hSw; go_simp; (try with_reducible rfl)⟩) hHeld ?_
      simp only [Act.put, List.setIfInBounds_toArray, List.set_cons_zero, List.set_cons_succ]
      refine wpAnyH_take (i := 10) (op_at rfl) (by kernel_rfl) (by kernel_rfl) (by kernel_rfl) (fun _ _ _ h => h) (Or.inl ⟨by rfl, by intro W hSw; have hc := (HS.out W hSw).2.2.1; go_simp; (try with_reducible rfl)⟩) hHeld ?_
      simp only [Act.put, List.setIfInBounds_toArray, List.set_cons_zero, List.set_cons_succ]
      refine wpAnyH_take (i := 12) (op_at rfl) (by kernel_rfl) (by kernel_rfl) (by kernel_rfl) (fun _ _ _ h => h) (Or.inl ⟨by rfl, by intro W hSw; go_simp; (try with_reducible rfl)⟩) hHeld ?_
      simp only [Act.put, List.setIfInBounds_toArray, List.set_cons_zero, List.set_cons_succ]
      refine wpAnyH_take (i := 13) (op_at rfl) (by kernel_rfl) (by kernel_rfl) (by kernel_rfl) (fun _ _ _ h => h) (Or.inl ⟨by rfl, by intro W hSw; have hc := (HS.out W hSw).1; go_simp; (try with_reducible rfl)⟩) hHeld ?_
      simp only [Act.put, List.setIfInBounds_toArray, List.set_cons_zero, List.set_cons_succ]
      refine wpAnyH_take (i := 14) (op_at rfl) (by kernel_rfl) (by kernel_rfl) (by kernel_rfl) (fun _ _ _ h => h) (Or.inl ⟨by rfl, by intro W hSw; go_simp; (try with_reducible rfl)⟩) hHeld ?_
      simp only [Act.put, List.setIfInBounds_toArray, List.set_cons_zero, List.set_cons_succ]
      refine wpAnyH_take (i := 15) (op_at rfl) (by kernel_rfl) (by kernel_rfl) (by kernel_rfl) (fun _ _ _ h => h) (Or.inl ⟨by rfl, by intro W hSw; go_simp; (try with_reducible rfl)⟩) hHeld ?_
      simp only [Act.put, List.setIfInBounds_toArray, List.set_cons_zero, List.set_cons_succ]
      refine wpAnyH_take (i := 16) (op_at rfl) (by kernel_rfl) (by kernel_rfl) (by kernel_rfl) (fun _ _ _ h => h) (Or.inl ⟨by rfl, by intro W hSw; have hc := (HS.out W hSw).2.2.2; go_simp; (try with_reducible rfl)⟩) hHeld ?_
      simp only [Act.put, List.setIfInBounds_toArray, List.set_cons_zero, List.set_cons_succ]
      refine wpAnyH_ready (rs := [5, 19]) (by kernel_rfl) (by simp) (AllReadyH.cons (op_at rfl) (fun K hK => ?_) (AllReadyH.cons (op_at rfl) (fun K hK => ?_) (AllReadyH.nil)))
      · clear hHeld
        go_simp
        go_at_call_of 59 (Value.slice p0 m0 k0)
        refine (rdig19_any _ _ p0 m0 k0 _ (BytesAt.below T0.out (Bel.drew (Bel.refl W2)))).mono ?_
        rintro e V1 ⟨rfl, hb⟩
        have hBV1 : Below W2.heap.size W2 V1 := Bel.call (Bel.drew (Bel.refl W2)) hb
        clear hb
        go_wp2_with fail
        refine hK.out _ _ (HKP.out _ hBV1) (fun hHeld => ?_)
        clear hK K
        try simp only [Act.put, List.setIfInBounds_toArray, List.set_cons_zero, List.set_cons_succ]
        refine wpAnyH_ready (rs := [11, 19]) (by kernel_rfl) (by simp) (AllReadyH.cons (op_at rfl) (fun K hK => ?_) (AllReadyH.cons (op_at rfl) (fun K hK => ?_) (AllReadyH.nil)))
        · clear hHeld
          go_simp
          go_at_call_of 60 (Value.slice p1 m1 k1)
          refine (rnumber_any _ _ p1 m1 k1 _ (BytesAt.below T1.out hBV1)).mono ?_
          rintro e V2 ⟨rfl, hb⟩
          have hBV2 : Below W2.heap.size W2 V2 := Bel.call hBV1 hb
          clear hb
          go_wp2_with fail
          refine hK.out _ _ (HKP.out _ hBV2) (fun hHeld => ?_)
          clear hK K
          try simp only [Act.put, List.setIfInBounds_toArray, List.set_cons_zero, List.set_cons_succ]
          refine wpAnyH_ready (rs := [17, 19]) (by kernel_rfl) (by simp) (AllReadyH.cons (op_at rfl) (fun K hK => ?_) (AllReadyH.cons (op_at rfl) (fun K hK => ?_) (AllReadyH.nil)))
          · clear hHeld
            go_simp
            go_at_call_of 60 (Value.slice p2 m2 k2)
            refine (rnumber_any _ _ p2 m2 k2 _ (BytesAt.below T2.out hBV2)).mono ?_
            rintro e V3 ⟨rfl, hb⟩
            have hBV3 : Below W2.heap.size W2 V3 := Bel.call hBV2 hb
            clear hb
            go_wp2_with fail
            refine hK.out _ _ (HKP.out _ hBV3) (fun hHeld => ?_)
            clear hK K
            try simp only [Act.put, List.setIfInBounds_toArray, List.set_cons_zero, List.set_cons_succ]
            refine wpAnyH_ready (rs := [18, 19]) (by kernel_rfl) (by simp) (AllReadyH.cons (op_at rfl) (fun K hK => ?_) (AllReadyH.cons (op_at rfl) (fun K hK => ?_) (AllReadyH.nil)))
            · clear hHeld
              refine step_build_to rfl 40 #[(0, .tmp 29), (1, .tmp 35), (2, .tmp 41)] rfl _ (by kernel_rfl) BC HBU.out ?_
              refine hK.out _ _ (HKP.out _ hBV3) (fun hHeld => ?_)
              clear hK K
              simp only [Act.put, List.setIfInBounds_toArray, List.set_cons_zero, List.set_cons_succ]
              refine wpAnyH_ready (rs := [19]) (by kernel_rfl) (by simp) (AllReadyH.cons (op_at rfl) (fun K hK => ?_) (AllReadyH.nil))
              clear hHeld
              go_simp
              try rw [← HZR.out]
              obtain ⟨A4, hA4⟩ : ∃ X : World, X = V3.alloc (.cells ZR 40) := ⟨_, rfl⟩
              have hBA4 : Below W2.heap.size W2 A4 := by rw [hA4]; exact Bel.alloc hBV3 _
              have hZA4 : A4.heap[V3.heap.size]? = some (.cells ZR 40 (0, 0)) := by rw [hA4]; exact heap_alloc_new V3 _
              have hG0_hZA4 : W2.heap.size ≤ V3.heap.size := hBV3.size
              rw [← hA4]
              clear hA4
              refine hK.out _ _ (HKP.out _ hBA4) (fun hHeld => ?_)
              clear hK K
              try simp only [Act.put, List.setIfInBounds_toArray, List.set_cons_zero, List.set_cons_succ]
              refine wpAnyH_ready (rs := [20]) (by kernel_rfl) (by simp) (AllReadyH.cons (op_at rfl) (fun K hK => ?_) (AllReadyH.nil))
              clear hHeld
              refine step_store_row rfl 40 (.tmp 6) (.tmp 42) rfl V3.heap.size BC rfl rfl 40 ZR hZA4 HIB.out HSB.out HOB.out ?_
              have hbE := below_setRow (g := V3.heap.size) hBA4 (by have := hG0_hZA4; omega) BC
              refine hK.out _ _ (HKP.out _ hbE) (fun hHeld => ?_)
              clear hK K
              try simp only [Act.put, List.setIfInBounds_toArray, List.set_cons_zero, List.set_cons_succ]
              refine wpAnyH_done (by kernel_rfl) ?_ _
              go_wp2_with fail
              go_meet
              exact ⟨V3.heap.size, rfl, Lib.hid ⟨hbE, hG0_hZA4, setRow_heap _ _ _ _ _ _ hZA4⟩⟩
            · clear hHeld
              go_simp
              try rw [← HZR.out]
              obtain ⟨A5, hA5⟩ : ∃ X : World, X = V3.alloc (.cells ZR 40) := ⟨_, rfl⟩
              have hBA5 : Below W2.heap.size W2 A5 := by rw [hA5]; exact Bel.alloc hBV3 _
              have hZA5 : A5.heap[V3.heap.size]? = some (.cells ZR 40 (0, 0)) := by rw [hA5]; exact heap_alloc_new V3 _
              have hG0_hZA5 : W2.heap.size ≤ V3.heap.size := hBV3.size
              rw [← hA5]
              clear hA5
              refine hK.out _ _ (HKP.out _ hBA5) (fun hHeld => ?_)
              clear hK K
              try simp only [Act.put, List.setIfInBounds_toArray, List.set_cons_zero, List.set_cons_succ]
              refine wpAnyH_ready (rs := [18]) (by kernel_rfl) (by simp) (AllReadyH.cons (op_at rfl) (fun K hK => ?_) (AllReadyH.nil))
              clear hHeld
              refine step_build_to rfl 40 #[(0, .tmp 29), (1, .tmp 35), (2, .tmp 41)] rfl _ (by kernel_rfl) BC HBU.out ?_
              refine hK.out _ _ (HKP.out _ hBA5) (fun hHeld => ?_)
              clear hK K
              simp only [Act.put, List.setIfInBounds_toArray, List.set_cons_zero, List.set_cons_succ]
              refine wpAnyH_ready (rs := [20]) (by kernel_rfl) (by simp) (AllReadyH.cons (op_at rfl) (fun K hK => ?_) (AllReadyH.nil))
              clear hHeld
              refine step_store_row rfl 40 (.tmp 6) (.tmp 42) rfl V3.heap.size BC rfl rfl 40 ZR hZA5 HIB.out HSB.out HOB.out ?_
              have hbE := below_setRow (g := V3.heap.size) hBA5 (by have := hG0_hZA5; omega) BC
              refine hK.out _ _ (HKP.out _ hbE) (fun hHeld => ?_)
              clear hK K
              try simp only [Act.put, List.setIfInBounds_toArray, List.set_cons_zero, List.set_cons_succ]
              refine wpAnyH_done (by kernel_rfl) ?_ _
              go_wp2_with fail
              go_meet
              exact ⟨V3.heap.size, rfl, Lib.hid ⟨hbE, hG0_hZA5, setRow_heap _ _ _ _ _ _ hZA5⟩⟩
          · clear hHeld
            go_simp
            try rw [← HZR.out]
            obtain ⟨A6, hA6⟩ : ∃ X : World, X = V2.alloc (.cells ZR 40) := ⟨_, rfl⟩
            have hBA6 : Below W2.heap.size W2 A6 := by rw [hA6]; exact Bel.alloc hBV2 _
            have hZA6 : A6.heap[V2.heap.size]? = some (.cells ZR 40 (0, 0)) := by rw [hA6]; exact heap_alloc_new V2 _
            have hG0_hZA6 : W2.heap.size ≤ V2.heap.size := hBV2.size
            rw [← hA6]
            clear hA6
            refine hK.out _ _ (HKP.out _ hBA6) (fun hHeld => ?_)
            clear hK K
            try simp only [Act.put, List.setIfInBounds_toArray, List.set_cons_zero, List.set_cons_succ]
            refine wpAnyH_ready (rs := [17]) (by kernel_rfl) (by simp) (AllReadyH.cons (op_at rfl) (fun K hK => ?_) (AllReadyH.nil))
            clear hHeld
            go_simp
            go_at_call_of 60 (Value.slice p2 m2 k2)
            refine (rnumber_any _ _ p2 m2 k2 _ (BytesAt.below T2.out hBA6)).mono ?_
            rintro e V7 ⟨rfl, hb⟩
            have hBV7 : Below W2.heap.size W2 V7 := Bel.call hBA6 hb
            have hZV7 := (hb.block _ (Array.getElem?_eq_some_iff.1 hZA6).1).trans hZA6
            have hG0_hZV7 := hG0_hZA6
            clear hb
            go_wp2_with fail
            refine hK.out _ _ (HKP.out _ hBV7) (fun hHeld => ?_)
            clear hK K
            try simp only [Act.put, List.setIfInBounds_toArray, List.set_cons_zero, List.set_cons_succ]
            refine wpAnyH_ready (rs := [18]) (by kernel_rfl) (by simp) (AllReadyH.cons (op_at rfl) (fun K hK => ?_) (AllReadyH.nil))
            clear hHeld
            refine step_build_to rfl 40 #[(0, .tmp 29), (1, .tmp 35), (2, .tmp 41)] rfl _ (by kernel_rfl) BC HBU.out ?_
            refine hK.out _ _ (HKP.out _ hBV7) (fun hHeld => ?_)
            clear hK K
            simp only [Act.put, List.setIfInBounds_toArray, List.set_cons_zero, List.set_cons_succ]
            refine wpAnyH_ready (rs := [20]) (by kernel_rfl) (by simp) (AllReadyH.cons (op_at rfl) (fun K hK => ?_) (AllReadyH.nil))
            clear hHeld
            refine step_store_row rfl 40 (.tmp 6) (.tmp 42) rfl V2.heap.size BC rfl rfl 40 ZR hZV7 HIB.out HSB.out HOB.out ?_
            have hbE := below_setRow (g := V2.heap.size) hBV7 (by have := hG0_hZV7; omega) BC
            refine hK.out _ _ (HKP.out _ hbE) (fun hHeld => ?_)
            clear hK K
            try simp only [Act.put, List.setIfInBounds_toArray, List.set_cons_zero, List.set_cons_succ]
            refine wpAnyH_done (by kernel_rfl) ?_ _
            go_wp2_with fail
            go_meet
            exact ⟨V2.heap.size, rfl, Lib.hid ⟨hbE, hG0_hZV7, setRow_heap _ _ _ _ _ _ hZV7⟩⟩
        · clear hHeld
          go_simp
          try rw [← HZR.out]
          obtain ⟨A8, hA8⟩ : ∃ X : World, X = V1.alloc (.cells ZR 40) := ⟨_, rfl⟩
          have hBA8 : Below W2.heap.size W2 A8 := by rw [hA8]; exact Bel.alloc hBV1 _
          have hZA8 : A8.heap[V1.heap.size]? = some (.cells ZR 40 (0, 0)) := by rw [hA8]; exact heap_alloc_new V1 _
          have hG0_hZA8 : W2.heap.size ≤ V1.heap.size := hBV1.size
          rw [← hA8]
          clear hA8
          refine hK.out _ _ (HKP.out _ hBA8) (fun hHeld => ?_)
          clear hK K
          try simp only [Act.put, List.setIfInBounds_toArray, List.set_cons_zero, List.set_cons_succ]
          refine wpAnyH_ready (rs := [11]) (by kernel_rfl) (by simp) (AllReadyH.cons (op_at rfl) (fun K hK => ?_) (AllReadyH.nil))
          clear hHeld
          go_simp
          go_at_call_of 60 (Value.slice p1 m1 k1)
          refine (rnumber_any _ _ p1 m1 k1 _ (BytesAt.below T1.out hBA8)).mono ?_
          rintro e V9 ⟨rfl, hb⟩
          have hBV9 : Below W2.heap.size W2 V9 := Bel.call hBA8 hb
          have hZV9 := (hb.block _ (Array.getElem?_eq_some_iff.1 hZA8).1).trans hZA8
          have hG0_hZV9 := hG0_hZA8
          clear hb
          go_wp2_with fail
          refine hK.out _ _ (HKP.out _ hBV9) (fun hHeld => ?_)
          clear hK K
          try simp only [Act.put, List.setIfInBounds_toArray, List.set_cons_zero, List.set_cons_succ]
          refine wpAnyH_ready (rs := [17]) (by kernel_rfl) (by simp) (AllReadyH.cons (op_at rfl) (fun K hK => ?_) (AllReadyH.nil))
          clear hHeld
          go_simp
          go_at_call_of 60 (Value.slice p2 m2 k2)
          refine (rnumber_any _ _ p2 m2 k2 _ (BytesAt.below T2.out hBV9)).mono ?_
          rintro e V10 ⟨rfl, hb⟩
          have hBV10 : Below W2.heap.size W2 V10 := Bel.call hBV9 hb
          have hZV10 := (hb.block _ (Array.getElem?_eq_some_iff.1 hZV9).1).trans hZV9
          have hG0_hZV10 := hG0_hZV9
          clear hb
          go_wp2_with fail
          refine hK.out _ _ (HKP.out _ hBV10) (fun hHeld => ?_)
          clear hK K
          try simp only [Act.put, List.setIfInBounds_toArray, List.set_cons_zero, List.set_cons_succ]
          refine wpAnyH_ready (rs := [18]) (by kernel_rfl) (by simp) (AllReadyH.cons (op_at rfl) (fun K hK => ?_) (AllReadyH.nil))
          clear hHeld
          refine step_build_to rfl 40 #[(0, .tmp 29), (1, .tmp 35), (2, .tmp 41)] rfl _ (by kernel_rfl) BC HBU.out ?_
          refine hK.out _ _ (HKP.out _ hBV10) (fun hHeld => ?_)
          clear hK K
          simp only [Act.put, List.setIfInBounds_toArray, List.set_cons_zero, List.set_cons_succ]
          refine wpAnyH_ready (rs := [20]) (by kernel_rfl) (by simp) (AllReadyH.cons (op_at rfl) (fun K hK => ?_) (AllReadyH.nil))
          clear hHeld
          refine step_store_row rfl 40 (.tmp 6) (.tmp 42) rfl V1.heap.size BC rfl rfl 40 ZR hZV10 HIB.out HSB.out HOB.out ?_
          have hbE := below_setRow (g := V1.heap.size) hBV10 (by have := hG0_hZV10; omega) BC
          refine hK.out _ _ (HKP.out _ hbE) (fun hHeld => ?_)
          clear hK K
          try simp only [Act.put, List.setIfInBounds_toArray, List.set_cons_zero, List.set_cons_succ]
          refine wpAnyH_done (by kernel_rfl) ?_ _
          go_wp2_with fail
          go_meet
          exact ⟨V1.heap.size, rfl, Lib.hid ⟨hbE, hG0_hZV10, setRow_heap _ _ _ _ _ _ hZV10⟩⟩
      · clear hHeld
        go_simp
        try rw [← HZR.out]
        obtain ⟨A11, hA11⟩ : ∃ X : World, X = (W2.alloc (.cells ZR 40)).drew := ⟨_, rfl⟩
        have hBA11 : Below W2.heap.size W2 A11 := by rw [hA11]; exact Bel.drew (Bel.alloc (Bel.refl W2) _)
        have hZA11 : A11.heap[W2.heap.size]? = some (.cells ZR 40 (0, 0)) := by rw [hA11]; exact heap_alloc_new W2 _
        have hG0_hZA11 : W2.heap.size ≤ W2.heap.size := Nat.le_refl _
        rw [← hA11]
        clear hA11
        refine hK.out _ _ (HKP.out _ hBA11) (fun hHeld => ?_)
        clear hK K
        try simp only [Act.put, List.setIfInBounds_toArray, List.set_cons_zero, List.set_cons_succ]
        refine wpAnyH_ready (rs := [5]) (by kernel_rfl) (by simp) (AllReadyH.cons (op_at rfl) (fun K hK => ?_) (AllReadyH.nil))
        clear hHeld
        go_simp
        go_at_call_of 59 (Value.slice p0 m0 k0)
        refine (rdig19_any _ _ p0 m0 k0 _ (BytesAt.below T0.out hBA11)).mono ?_
        rintro e V12 ⟨rfl, hb⟩
        have hBV12 : Below W2.heap.size W2 V12 := Bel.call hBA11 hb
        have hZV12 := (hb.block _ (Array.getElem?_eq_some_iff.1 hZA11).1).trans hZA11
        have hG0_hZV12 := hG0_hZA11
        clear hb
        go_wp2_with fail
        refine hK.out _ _ (HKP.out _ hBV12) (fun hHeld => ?_)
        clear hK K
        try simp only [Act.put, List.setIfInBounds_toArray, List.set_cons_zero, List.set_cons_succ]
        refine wpAnyH_ready (rs := [11]) (by kernel_rfl) (by simp) (AllReadyH.cons (op_at rfl) (fun K hK => ?_) (AllReadyH.nil))
        clear hHeld
        go_simp
        go_at_call_of 60 (Value.slice p1 m1 k1)
        refine (rnumber_any _ _ p1 m1 k1 _ (BytesAt.below T1.out hBV12)).mono ?_
        rintro e V13 ⟨rfl, hb⟩
        have hBV13 : Below W2.heap.size W2 V13 := Bel.call hBV12 hb
        have hZV13 := (hb.block _ (Array.getElem?_eq_some_iff.1 hZV12).1).trans hZV12
        have hG0_hZV13 := hG0_hZV12
        clear hb
        go_wp2_with fail
        refine hK.out _ _ (HKP.out _ hBV13) (fun hHeld => ?_)
        clear hK K
        try simp only [Act.put, List.setIfInBounds_toArray, List.set_cons_zero, List.set_cons_succ]
        refine wpAnyH_ready (rs := [17]) (by kernel_rfl) (by simp) (AllReadyH.cons (op_at rfl) (fun K hK => ?_) (AllReadyH.nil))
        clear hHeld
        go_simp
        go_at_call_of 60 (Value.slice p2 m2 k2)
        refine (rnumber_any _ _ p2 m2 k2 _ (BytesAt.below T2.out hBV13)).mono ?_
        rintro e V14 ⟨rfl, hb⟩
        have hBV14 : Below W2.heap.size W2 V14 := Bel.call hBV13 hb
        have hZV14 := (hb.block _ (Array.getElem?_eq_some_iff.1 hZV13).1).trans hZV13
        have hG0_hZV14 := hG0_hZV13
        clear hb
        go_wp2_with fail
        refine hK.out _ _ (HKP.out _ hBV14) (fun hHeld => ?_)
        clear hK K
        try simp only [Act.put, List.setIfInBounds_toArray, List.set_cons_zero, List.set_cons_succ]
        refine wpAnyH_ready (rs := [18]) (by kernel_rfl) (by simp) (AllReadyH.cons (op_at rfl) (fun K hK => ?_) (AllReadyH.nil))
        clear hHeld
        refine step_build_to rfl 40 #[(0, .tmp 29), (1, .tmp 35), (2, .tmp 41)] rfl _ (by kernel_rfl) BC HBU.out ?_
        refine hK.out _ _ (HKP.out _ hBV14) (fun hHeld => ?_)
        clear hK K
        simp only [Act.put, List.setIfInBounds_toArray, List.set_cons_zero, List.set_cons_succ]
        refine wpAnyH_ready (rs := [20]) (by kernel_rfl) (by simp) (AllReadyH.cons (op_at rfl) (fun K hK => ?_) (AllReadyH.nil))
        clear hHeld
        refine step_store_row rfl 40 (.tmp 6) (.tmp 42) rfl W2.heap.size BC rfl rfl 40 ZR hZV14 HIB.out HSB.out HOB.out ?_
        have hbE := below_setRow (g := W2.heap.size) hBV14 (by have := hG0_hZV14; omega) BC
        refine hK.out _ _ (HKP.out _ hbE) (fun hHeld => ?_)
        clear hK K
        try simp only [Act.put, List.setIfInBounds_toArray, List.set_cons_zero, List.set_cons_succ]
        refine wpAnyH_done (by kernel_rfl) ?_ _
        go_wp2_with fail
        go_meet
        exact ⟨W2.heap.size, rfl, Lib.hid ⟨hbE, hG0_hZV14, setRow_heap _ _ _ _ _ _ hZV14⟩⟩
    case rest =>
      obtain ⟨g, rfl, H⟩ := hcut
      obtain ⟨i0r, hi, hz0, hz1, hz2⟩ := info_parts infoRow
      obtain ⟨hbw, hgl, hgb⟩ := H.out
      have hglt := (Array.getElem?_eq_some_iff.1 hgb).1
      have hw2c := hbw.size
      have hbW2 : b < W2.heap.size := cell_lt D3.out
      have hw1W2 : w1.heap.size < W2.heap.size := hbs
      obtain ⟨G, hG⟩ : ∃ G : Nat → Prop, G = fun b => Wz.heap.size ≤ b ∧ b < W2.heap.size := ⟨_, rfl⟩
      have hitc : ItemsAt G wc 7 (.slice x2 y2 z2) LT := ItemsAt.carry HIT3.out (fun b hlt hb => by rw [hG]; exact ⟨hb, hlt⟩) (fun b _ hlt => hbw.block b hlt)
      have hst : RTx G wc g p nn bb wc [] (.slice none 0 0) := ⟨Chg.refl _ _, by rw [hgb, HBC.out], OwnList.nil, fun b hb => by rw [hG] at hb; have := hb.2; exact ⟨by omega, by omega⟩, hglt, HPL.out⟩
      have hGw : ∀ b, G b → w.heap.size < b := fun b hb => by rw [hG] at hb; have := hb.1; omega
      have c2 := cell_below hbw (cell_of_row W2 w1.heap.size 2 _ _ _ HBOX.out)
      have c3 := cell_below hbw D3.out
      have c2' : wc.cell? ⟨w1.heap.size, 2, none⟩ = some (.slice (some ⟨b, o, none⟩) 4 z3) := c2
      have HC2 := Lib.hid c2'
      have HC3 := Lib.hid c3
      have HITC := Lib.hid hitc
      have HGW := Lib.hid hGw
      have HBW := Lib.hid (HB2.out.trans (hbw.mono (by omega)))
      have HKC := Lib.hid ((hbw.block _ hlt2).trans HK2.out)
      have HST := Lib.hid hst
      clear hgb hbw hG hitc hst hGw c2 c3 c2' H HOB HSB HIB HBU
      go_wp2_with fail
      go_loopw [7] (fun i wr => ∃ (k : Nat) (av : Option Addr) (cv : Nat), k ≤ y2 ∧ i = .int .i64 k ∧ Hid (RTx G wc g p nn bb wr ((LT.take k).map It.bytes) (.slice av k cv))) (fun i _ => y2 - (intOf i).toNat)
      case atStart => exact ⟨0, none, 0, Nat.zero_le _, rfl, HST⟩
      case round =>
        obtain ⟨k, av, cv, hk, rfl, HR⟩ := hrel
        have hblk : ∀ j, j < wc.heap.size → j ≠ g → wr.heap[j]? = wc.heap[j]? := fun j h1 h2 => HR.out.chg.block j h1 h2
        have c2 := (cell_same (o := 2) (hblk w1.heap.size (by omega) (by omega))).trans HC2.out
        have c3 := (cell_same (o := o + 9 + 2) (hblk b (by omega) (by omega))).trans HC3.out
        have hwr := HR.out.chg.size
        by_cases hlt : k < y2
        · have hitr : ItemsAt G wr 7 (.slice x2 y2 z2) LT := ItemsAt.carry HITC.out (fun _ _ x => x) (fun j hj hlt => hblk j hlt (HR.out.foot j hj).2)
          have hkL : k < LT.length := by have := HY2.out; omega
          rcases SliceAt.split hitr with ⟨-, h0⟩ | ⟨b2, o2, rfl, -, -, hb2G⟩
          · omega
          obtain ⟨u1, v1, q1, _, _, _, -, gb, -, git⟩ := ItemsAt.cell hitr k hkL
          have hby := ItemAt.bytes git
          have htk : (LT.take (k + 1)).map It.bytes = (LT.take k).map It.bytes ++ [(LT[k]).bytes] := by
            rw [List.take_succ_eq_append_getElem hkL, List.map_append]; rfl
          obtain ⟨y, hy⟩ : ∃ y, y = (LT[k]).bytes := ⟨_, rfl⟩
          rw [← hy] at htk hby
          obtain ⟨Tk, hTk⟩ : ∃ T, T = (LT.take k).map It.bytes := ⟨_, rfl⟩
          rw [← hTk] at HR htk
          have hTl : Tk.length = k := by rw [hTk]; simp; omega
          obtain ⟨R, j1, j2, j3, j4, j5⟩ := HR.out.push hby
          have hb2 := HR.out.foot b2 hb2G
          have g34 := (blk_facts HPL.out HR.out.box).2.2.2
          have hgr : g < wr.heap.size := by omega
          have e34 := (blk_facts HPL.out ((Below.heap_alloc wr (.cells #[.slice u1 v1 q1] 25) _ hgr).trans HR.out.box)).2.2.2
          obtain ⟨S2, hS2⟩ : ∃ S : World → Prop, S = fun W => ∀ j, j < wc.heap.size → j ≠ g → W.heap[j]? = wr.heap[j]? := ⟨_, rfl⟩
          have hkp : ∀ W : World, (∀ j, j < wc.heap.size → j ≠ g → W.heap[j]? = wr.heap[j]?) → S2 W := fun W hW => by rw [hS2]; exact hW
          have hgt : ∀ W : World, S2 W → W.cell? ⟨w1.heap.size, 2, none⟩ = some (.slice (some ⟨b, o, none⟩) 4 z3) ∧ W.cell? ⟨b, o + 9 + 2, none⟩ = some (.slice (some ⟨b2, o2, none⟩) y2 z2) ∧ W.cell? ⟨b2, o2 + k * 3 + 1, none⟩ = some (.slice u1 v1 q1) := fun W hW => by
            rw [hS2] at hW
            exact ⟨(cell_same (hW _ (by omega) (by omega))).trans c2, (cell_same (hW _ (by omega) (by omega))).trans c3, (cell_same (hW _ hb2.1 hb2.2)).trans gb⟩
          have hle : (Tk.length + [y].length) * 24 ≤ 140737488355328 := by rw [hTl]; simp; omega
          have hln : Tk.length + [y].length = k + 1 := by rw [hTl]; rfl
          have hk0 : (0 : Int) ≤ (k : Int) := by omega
          have hk1 : (k : Int) < (y2 : Int) := by omega
          have hb0 : wc.heap.size ≤ (wr.alloc (.cells #[.slice u1 v1 q1] 25)).drew.heap.size := by simp; omega
          have HKP2 := Lib.hid hkp
          have HS2 := Lib.hid hgt
          have HTK := Lib.hid htk
          have HR1 := Lib.hid j1
          have HRO := Lib.hid j2
          have HRS := Lib.hid j3
          have HRN := Lib.hid j5
          have HLN := Lib.hid hln
          have hS0 := hkp wr.drew (fun _ _ _ => rfl)
          have hSa := hkp (wr.alloc (.cells #[.slice u1 v1 q1] 25)).drew (fun j hj _ => Below.heap_alloc wr _ _ (by omega))
          have HS0 := Lib.hid hS0
          have HSA := Lib.hid hSa
          clear hblk hitr git hby htk hy hTk hTl j1 j2 j3 j5 hS2 hkp hgt hln hS0 hSa gb
          go_wp2_with fail
          refine wp_region_held_drew (S := S2) (by kernel_rfl) HS0.out (fun hHeld => ?_)
          refine wpAnyH_take (i := 0) (op_at rfl) (by kernel_rfl) (by kernel_rfl) (by kernel_rfl) (fun _ _ _ h => h) (Or.inl ⟨by rfl, by intro W hSw; go_simp; (try with_reducible rfl)⟩) hHeld ?_
          simp only [Act.put, List.setIfInBounds_toArray, List.set_cons_zero, List.set_cons_succ]
          refine wpAnyH_take (i := 2) (op_at rfl) (by kernel_rfl) (by kernel_rfl) (by kernel_rfl) (fun _ _ _ h => h) (Or.inl ⟨by rfl, by intro W hSw; go_simp; (try with_reducible rfl)⟩) hHeld ?_
          simp only [Act.put, List.setIfInBounds_toArray, List.set_cons_zero, List.set_cons_succ]
          refine wpAnyH_take (i := 3) (op_at rfl) (by kernel_rfl) (by kernel_rfl) (by kernel_rfl) (fun _ _ _ h => h) (Or.inl ⟨by rfl, by intro W hSw; have hc := (HS2.out W hSw).1; go_simp; (try with_reducible rfl)⟩) hHeld ?_
          simp only [Act.put, List.setIfInBounds_toArray, List.set_cons_zero, List.set_cons_succ]
          refine wpAnyH_take (i := 4) (op_at rfl) (by kernel_rfl) (by kernel_rfl) (by kernel_rfl) (fun _ _ _ h => h) (Or.inl ⟨by rfl, by intro W hSw; go_simp; (try with_reducible rfl)⟩) hHeld ?_
          simp only [Act.put, List.setIfInBounds_toArray, List.set_cons_zero, List.set_cons_succ]
          refine wpAnyH_take (i := 5) (op_at rfl) (by kernel_rfl) (by kernel_rfl) (by kernel_rfl) (fun _ _ _ h => h) (Or.inl ⟨by rfl, by intro W hSw; go_simp; (try with_reducible rfl)⟩) hHeld ?_
          simp only [Act.put, List.setIfInBounds_toArray, List.set_cons_zero, List.set_cons_succ]
          refine wpAnyH_take (i := 6) (op_at rfl) (by kernel_rfl) (by kernel_rfl) (by kernel_rfl) (fun _ _ _ h => h) (Or.inl ⟨by rfl, by intro W hSw; have hc := (HS2.out W hSw).2.1; go_simp; (try with_reducible rfl)⟩) hHeld ?_
          simp only [Act.put, List.setIfInBounds_toArray, List.set_cons_zero, List.set_cons_succ]
          refine wpAnyH_take (i := 7) (op_at rfl) (by kernel_rfl) (by kernel_rfl) (by kernel_rfl) (fun _ _ _ h => h) (Or.inl ⟨by rfl, by intro W hSw; go_simp; (try with_reducible rfl)⟩) hHeld ?_
          simp only [Act.put, List.setIfInBounds_toArray, List.set_cons_zero, List.set_cons_succ]
          refine wpAnyH_take (i := 8) (op_at rfl) (by kernel_rfl) (by kernel_rfl) (by kernel_rfl) (fun _ _ _ h => h) (Or.inl ⟨by rfl, by intro W hSw; go_simp; (try with_reducible rfl)⟩) hHeld ?_
          simp only [Act.put, List.setIfInBounds_toArray, List.set_cons_zero, List.set_cons_succ]
          refine wpAnyH_take (i := 9) (op_at rfl) (by kernel_rfl) (by kernel_rfl) (by kernel_rfl) (fun _ _ _ h => h) (Or.inl ⟨by rfl, by intro W hSw; go_simp; (try with_reducible rfl)⟩) hHeld ?_
          simp only [Act.put, List.setIfInBounds_toArray, List.set_cons_zero, List.set_cons_succ]
          refine wpAnyH_take (i := 10) (op_at rfl) (by kernel_rfl) (by kernel_rfl) (by kernel_rfl) (fun _ _ _ h => h) (Or.inl ⟨by rfl, by intro W hSw; have hc := (HS2.out W hSw).2.2; go_simp; (try with_reducible rfl)⟩) hHeld ?_
          simp only [Act.put, List.setIfInBounds_toArray, List.set_cons_zero, List.set_cons_succ]
          refine wpAnyH_ready (rs := [1, 11]) (by kernel_rfl) (by simp) (AllReadyH.cons (op_at rfl) (fun K hK => ?_) (AllReadyH.cons (op_at rfl) (fun K hK => ?_) AllReadyH.nil))
          · clear hHeld
            go_simp
            go_wp2_with fail
            refine hK.out _ _ HS0.out (fun hHeld => ?_)
            clear hK K
            try simp only [Act.put, List.setIfInBounds_toArray, List.set_cons_zero, List.set_cons_succ]
            refine wpAnyH_ready (rs := [11]) (by kernel_rfl) (by simp) (AllReadyH.cons (op_at rfl) (fun K hK => ?_) AllReadyH.nil)
            clear hHeld
            go_simp
            go_wp2_with fail
            refine hK.out _ _ HSA.out (fun hHeld => ?_)
            clear hK K
            try simp only [Act.put, List.setIfInBounds_toArray, List.set_cons_zero, List.set_cons_succ]
            refine wpAnyH_ready (rs := [12]) (by kernel_rfl) (by simp) (AllReadyH.cons (op_at rfl) (fun K hK => ?_) AllReadyH.nil)
            clear hHeld
            refine step_append_at rfl (.tmp 54) (.tmp 64) 22 rfl wc.heap.size 25 i0r (.slice none 0 0) 1 24 underlyingRows hi hz0 hz1 hz2 rfl (by decide) (by decide) HR1.out (.slice av k cv) Tk (by simp [Act.eval]) HRO.out (.slice (some ⟨wr.heap.size, 0, none⟩) 1 1) [y] (fun _ => True) (by simp [Act.eval]) HRS.out Nat.one_pos hle hb0 (k + 1) HLN.out ?_
            intro g' cap W3 ho hg hm
            obtain ⟨n1, n2, n3⟩ := HRN.out g' cap (k + 1) W3 ho hg hm
            have HN3 := Lib.hid n3
            have m34 := (blk_facts HPL.out n1).2.2.2
            have fr := frozen_of_row W3 g 34 _ _ n1
            have HSW := Lib.hid (HKP2.out W3 (fun j hj _ => n2 j hj))
            have HSX := Lib.hid (HKP2.out (W3.setCell ⟨g, 34, none⟩ (.slice (some ⟨g', 0, none⟩) (k + 1) cap)) (fun j hj hn => (Below.heap_setCell _ _ _ _ hn).trans (n2 j hj)))
            clear n1 n2 n3 ho hg hm
            refine hK.out _ _ HSW.out (fun hHeld => ?_)
            clear hK K
            try simp only [Act.put, List.setIfInBounds_toArray, List.set_cons_zero, List.set_cons_succ]
            refine wpAnyH_ready (rs := [13]) (by kernel_rfl) (by simp) (AllReadyH.cons (op_at rfl) (fun K hK => ?_) AllReadyH.nil)
            clear hHeld
            go_simp
            refine hK.out _ _ HSW.out (fun hHeld => ?_)
            clear hK K
            try simp only [Act.put, List.setIfInBounds_toArray, List.set_cons_zero, List.set_cons_succ]
            refine wpAnyH_ready (rs := [14]) (by kernel_rfl) (by simp) (AllReadyH.cons (op_at rfl) (fun K hK => ?_) AllReadyH.nil)
            clear hHeld
            go_simp
            refine hK.out _ _ HSX.out (fun hHeld => ?_)
            clear hK K
            refine wpAnyH_done (by kernel_rfl) ?_ _
            clear m34 fr c2 c3 e34 g34
            have hk1' : (k : Int) + 1 ≤ 16777216 := by omega
            go_wp2_with fail
            go_roundw
            case rel => exact ⟨k + 1, _, _, by omega, num_eq (by omega), by rw [HTK.out]; exact HN3⟩
            case measure => simp [intOf]; omega
          · clear hHeld
            go_simp
            go_wp2_with fail
            refine hK.out _ _ HSA.out (fun hHeld => ?_)
            clear hK K
            try simp only [Act.put, List.setIfInBounds_toArray, List.set_cons_zero, List.set_cons_succ]
            refine wpAnyH_ready (rs := [1]) (by kernel_rfl) (by simp) (AllReadyH.cons (op_at rfl) (fun K hK => ?_) AllReadyH.nil)
            clear hHeld
            go_simp
            go_wp2_with fail
            refine hK.out _ _ HSA.out (fun hHeld => ?_)
            clear hK K
            try simp only [Act.put, List.setIfInBounds_toArray, List.set_cons_zero, List.set_cons_succ]
            refine wpAnyH_ready (rs := [12]) (by kernel_rfl) (by simp) (AllReadyH.cons (op_at rfl) (fun K hK => ?_) AllReadyH.nil)
            clear hHeld
            refine step_append_at rfl (.tmp 54) (.tmp 64) 22 rfl wc.heap.size 25 i0r (.slice none 0 0) 1 24 underlyingRows hi hz0 hz1 hz2 rfl (by decide) (by decide) HR1.out (.slice av k cv) Tk (by simp [Act.eval]) HRO.out (.slice (some ⟨wr.heap.size, 0, none⟩) 1 1) [y] (fun _ => True) (by simp [Act.eval]) HRS.out Nat.one_pos hle hb0 (k + 1) HLN.out ?_
            intro g' cap W3 ho hg hm
            obtain ⟨n1, n2, n3⟩ := HRN.out g' cap (k + 1) W3 ho hg hm
            have HN3 := Lib.hid n3
            have m34 := (blk_facts HPL.out n1).2.2.2
            have fr := frozen_of_row W3 g 34 _ _ n1
            have HSW := Lib.hid (HKP2.out W3 (fun j hj _ => n2 j hj))
            have HSX := Lib.hid (HKP2.out (W3.setCell ⟨g, 34, none⟩ (.slice (some ⟨g', 0, none⟩) (k + 1) cap)) (fun j hj hn => (Below.heap_setCell _ _ _ _ hn).trans (n2 j hj)))
            clear n1 n2 n3 ho hg hm
            refine hK.out _ _ HSW.out (fun hHeld => ?_)
            clear hK K
            try simp only [Act.put, List.setIfInBounds_toArray, List.set_cons_zero, List.set_cons_succ]
            refine wpAnyH_ready (rs := [13]) (by kernel_rfl) (by simp) (AllReadyH.cons (op_at rfl) (fun K hK => ?_) AllReadyH.nil)
            clear hHeld
            go_simp
            refine hK.out _ _ HSW.out (fun hHeld => ?_)
            clear hK K
            try simp only [Act.put, List.setIfInBounds_toArray, List.set_cons_zero, List.set_cons_succ]
            refine wpAnyH_ready (rs := [14]) (by kernel_rfl) (by simp) (AllReadyH.cons (op_at rfl) (fun K hK => ?_) AllReadyH.nil)
            clear hHeld
            go_simp
            refine hK.out _ _ HSX.out (fun hHeld => ?_)
            clear hK K
            refine wpAnyH_done (by kernel_rfl) ?_ _
            clear m34 fr c2 c3 e34 g34
            have hk1' : (k : Int) + 1 ≤ 16777216 := by omega
            go_wp2_with fail
            go_roundw
            case rel => exact ⟨k + 1, _, _, by omega, num_eq (by omega), by rw [HTK.out]; exact HN3⟩
            case measure => simp [intOf]; omega
        · obtain rfl : y2 = k := by omega
          have hfull : (LT.take y2).map It.bytes = LT.map It.bytes := by rw [List.take_of_length_le (by have := HY2.out; omega)]
          rw [hfull] at HR
          have HFR : Hid (RowsAt (fun b => w.heap.size < b) wr (.slice av y2 cv) (LT.map It.bytes)) := Lib.hid (HR.out.own.at carriedRow (fun b hb _ => HGW.out b hb) (fun b hb _ => by show w.heap.size < b; omega) (by decide))
          have hL2 : LT.length ≤ 1099511627776 := by have := HY2.out; omega
          have hwh := blkI_whole p nn bb LT HPL.out HNNL.out HBBL.out (by have := HSM3.out; have := HNL.out; omega)
          have henc := rbencode_any _ wr p nn bb (.slice av y2 cv) (LT.map It.bytes) HPL.out HNNL.out HBBL.out HFR.out (by rw [List.length_map]; exact hL2) hwh
          obtain ⟨E, hE⟩ : ∃ E, E = blkEncode p nn bb (LT.map It.bytes) := ⟨_, rfl⟩
          rw [← hE] at henc
          have hX2 := HX.out
          rw [← hE] at hX2
          obtain ⟨E1, E2⟩ := E
          obtain ⟨BK, hBK⟩ : ∃ BC, BC = blkCells p nn bb (.slice av y2 cv) := ⟨_, rfl⟩
          rw [← hBK] at henc
          have hbx := HR.out.box
          rw [← hBK] at hbx
          have HENC := Lib.hid henc
          have HX2 := Lib.hid hX2
          have HBX := Lib.hid hbx
          have HBK := Lib.hid hBK
          have HBS := Lib.hid (show (Try.prog.info? 40).map (·.size) = some BK.size by rw [hBK, blkCells_size _ _ _ _ HPL.out]; exact infoBlk)
          have HBO := Lib.hid (show BK.all (·.oneCell') = true by rw [hBK]; exact blkCells_one _ _ _ _ _ _)
          have HBZ2 := Lib.hid (show ZR.size = BK.size by rw [hBK, blkCells_size _ _ _ _ HPL.out, HZR.out]; rfl)
          have hbwr := HBW.out.trans (HR.out.chg.toBelowAt (B := w.heap.size) (by omega) (fun k hk e => by omega))
          have hkz := (hblk w.heap.size (by omega) (by omega)).trans HKC.out
          have HBWR := Lib.hid hbwr
          have HKZ := Lib.hid hkz
          have hglr : g < wr.heap.size := by omega
          have hwlr : w.heap.size < wr.heap.size := by omega
          clear hfull hL2 hwh henc hE hX2 hBK hbx hbwr hkz hblk
          repeat (first
            | ((with_reducible refine wpL_load_row 40 (.tmp 6) g BK 40 (.struct fs) ?_ ⟨HBX.out, HU.out, rfl, HBS.out⟩ ?_); (exact ⟨rfl, rfl, rfl⟩))
            | go_values | go_skip | go_guarded | go_step | go_upon)
          go_wp2_with fail
          refine HENC.out.mono ?_
          rintro e w5 ⟨v5, rfl, ho5, hb5⟩
          obtain ⟨a5, c5, rfl, -, -, -⟩ := ho5.len
          simp only at ho5 ⊢
          obtain ⟨m5, hm5⟩ : ∃ m, m = E1.length := ⟨_, rfl⟩
          rw [← hm5]
          have hat5 := ho5.at (F := fun _ => True) (fun _ _ _ _ => trivial) (by decide)
          rw [← hm5] at hat5
          have hbw5 := HBWR.out.trans (hb5.mono (by omega))
          have HK5 := Lib.hid ((hb5.block _ hwlr).trans HKZ.out)
          have HG5 := Lib.hid ((hb5.block _ hglr).trans HBX.out)
          have HFR5 := Lib.hid (RowsAt.below HFR.out hb5)
          have HBW5 := Lib.hid hbw5
          have s1 := run_string_at (P := Try.prog) hat5 25 5 9 Try.underlying25 Try.underlying5 Try.underlying9
          have s2 := run_string_at (P := Try.prog) (BytesAt.below HIN.out hbw5) 25 5 9 Try.underlying25 Try.underlying5 Try.underlying9
          clear ho5 hb5 hm5 hat5 hbw5 c2 c3
          by_cases hok : E2 = 0 ∧ E1 = bs
          · obtain ⟨rfl, rfl⟩ := hok
            have HXX : Hid (X = (⟨p, nn, bb, LT.map It.bytes⟩, 0)) := Lib.hid (by rw [HX2.out, if_pos rfl])
            repeat (first
              | ((with_reducible refine wpL_load_row 40 (.tmp 6) g BK 40 (.struct fs) ?_ ⟨HG5.out, HU.out, rfl, HBS.out⟩ ?_); (exact ⟨rfl, rfl, rfl⟩))
              | ((with_reducible refine wpL_store_row 40 (.tmp 2) (.tmp 82) w.heap.size BK 40 ZR ?_ ⟨HK5.out, HBS.out, HBZ2.out, HBO.out⟩ ?_); (exact ⟨rfl, rfl, rfl, rfl⟩))
              | go_values | go_skip | go_guarded | go_step | go_upon)
            refine bodyPost_ret (v := .tuple #[.agg BK, .int .i64 0]) (results_cell_row_tmp rfl _ _ w.heap.size 40 BK (0, 0) (.struct fs) rfl (setRow_heap w5 _ _ _ _ _ HK5.out) HU.out rfl HBS.out _ rfl) rfl ?_
            rw [HXX.out, HBK.out]
            exact ⟨av, y2, cv, rfl, RowsAt.carry HFR5.out (fun b _ hb => Nat.le_of_lt hb) (fun b hb _ => setRow_other _ _ _ _ (by have : w.heap.size < b := hb; omega)), below_setRow HBW5.out (Nat.le_refl _) _⟩
          · have HXX : Hid (X = (blk0, 190)) := Lib.hid (by rw [HX2.out, if_neg]; intro e; simp only [Prod.mk.injEq] at e; exact hok ⟨e.2, e.1⟩)
            have HXY := Lib.hid (HBAD.out w5 HBW5.out HK5.out HXX.out)
            have hcase : (¬ (E2 : Int) = 0) ∨ (E2 = 0 ∧ E1 ≠ bs) := by
              by_cases h0 : E2 = 0
              · exact .inr ⟨h0, fun h => hok ⟨h0, h⟩⟩
              · exact .inl (by omega)
            clear hok
            rcases hcase with h1 | ⟨rfl, h1⟩
            · clear s1 s2
              have ht : (((E2 : Nat) : Int) == 0) = false := by simp; omega
              have ht2 : (((E2 : Nat) : Int) != 0) = true := by simp; omega
              repeat (first
                | ((with_reducible refine wpL_build_to 40 #[] [] ZR ?_ HB0.out ?_); (exact ⟨rfl, rfl, by simp⟩))
                | ((with_reducible refine wpL_store_row 40 (.tmp 2) (.tmp 81) w.heap.size ZR 40 ZR ?_ ⟨HK5.out, HIZ.out, rfl, HOZ.out⟩ ?_); (exact ⟨rfl, rfl, rfl, rfl⟩))
                | go_values | go_skip | go_guarded | go_step | go_upon)
              refine bodyPost_ret (v := .tuple #[.agg ZR, .int .i64 190]) (results_cell_row_tmp rfl _ _ w.heap.size 40 ZR (0, 0) (.struct fs) rfl HXY.out.1 HU.out rfl HIZ.out _ rfl) rfl ?_
              exact HXY.out.2
            · have hne := bytes_ne _ _ h1
              have hq1 : (E1 == bs) = false := by simp [h1]
              have hq2 : (E1 != bs) = true := by simp [h1]
              clear hne
              repeat (first
                | ((with_reducible refine wpL_build_to 40 #[] [] ZR ?_ HB0.out ?_); (exact ⟨rfl, rfl, by simp⟩))
                | ((with_reducible refine wpL_store_row 40 (.tmp 2) (.tmp 81) w.heap.size ZR 40 ZR ?_ ⟨HK5.out, HIZ.out, rfl, HOZ.out⟩ ?_); (exact ⟨rfl, rfl, rfl, rfl⟩))
                | go_values | go_skip | go_guarded | go_step | go_upon)
              refine bodyPost_ret (v := .tuple #[.agg ZR, .int .i64 190]) (results_cell_row_tmp rfl _ _ w.heap.size 40 ZR (0, 0) (.struct fs) rfl HXY.out.1 HU.out rfl HIZ.out _ rfl) rfl ?_
              exact HXY.out.2
  · have hXX : X = (blk0, 190) := by rw [HRES.out, if_neg]; rintro ⟨g1, g2, -⟩; exact hgood ⟨g1, by rw [HN3.out]; exact g2⟩
    have HXX := Lib.hid (HBAD.out _ (HBL1.out.alloc HBL1.out.size (.cells #[.bool il, .slice i1 y1 z1, .slice i3 y3 z3] 65)) HK2.out hXX)
    have hcase : ¬ (e1 : Int) = 0 ∨ (e1 = 0 ∧ ¬ (y3 : Int) = 4) := by omega
    clear hXX hgood
    rcases hcase with h1 | ⟨rfl, h1⟩
    all_goals
      go_wp2_with (first
        | ((with_reducible refine wpL_build_to 40 #[] [] ZR ?_ HB0.out ?_); (exact ⟨rfl, rfl, by simp⟩))
        | ((with_reducible refine wpL_store_row 40 (.tmp 2) (.tmp 23) w.heap.size ZR 40 ZR ?_ ⟨HK2.out, HIZ.out, rfl, HOZ.out⟩ ?_); (exact ⟨rfl, rfl, rfl, rfl⟩)))
      refine bodyPost_ret (v := .tuple #[.agg ZR, .int .i64 190]) (results_cell_row_tmp rfl _ _ w.heap.size 40 ZR (0, 0) (.struct fs) rfl HXX.out.1 HU.out rfl HIZ.out _ rfl) rfl ?_
      exact HXX.out.2
end Go.Proofs.Ytndkkgkcbbmnpaa
namespace Go.Pg
open Go.RowKit
/-- bytes of some blocks have been written over; all else is as it was -/
structure Spoilt (W wr : World) (lo hi : Nat) : Prop where
  os : wr.os = W.os
  tape : wr.tape = W.tape
  output : wr.output = W.output
  size : wr.heap.size = W.heap.size
  blk : ∀ b, ¬ (lo ≤ b ∧ b < hi) → wr.heap[b]? = W.heap[b]?
  cell : ∀ b o u, W.cell? ⟨b, o, none⟩ = some u → (∃ n m, u = .int .u8 n ∧ wr.cell? ⟨b, o, none⟩ = some (.int .u8 m)) ∨ wr.cell? ⟨b, o, none⟩ = some u
  frz : ∀ b o, W.frozen? ⟨b, o, none⟩ = false → wr.frozen? ⟨b, o, none⟩ = false
theorem Spoilt.refl (W : World) (lo hi : Nat) : Spoilt W W lo hi := ⟨rfl, rfl, rfl, rfl, fun _ _ => rfl, fun _ _ _ h => .inr h, fun _ _ h => h⟩
theorem Spoilt.byte {W wr : World} {lo hi b o : Nat} {n : Int} (h : Spoilt W wr lo hi) (hc : W.cell? ⟨b, o, none⟩ = some (.int .u8 n)) : ∃ m, wr.cell? ⟨b, o, none⟩ = some (.int .u8 m) := by
  rcases h.cell b o _ hc with ⟨_, m, _, h⟩ | h
  · exact ⟨m, h⟩
  · exact ⟨n, h⟩
theorem Spoilt.slice {W wr : World} {lo hi b o : Nat} {a : Option Addr} {n c : Nat} (h : Spoilt W wr lo hi) (hc : W.cell? ⟨b, o, none⟩ = some (.slice a n c)) : wr.cell? ⟨b, o, none⟩ = some (.slice a n c) := by
  rcases h.cell b o _ hc with ⟨_, m, h, _⟩ | h
  · cases h
  · exact h
theorem Spoilt.below {W wr : World} {lo hi : Nat} (h : Spoilt W wr lo hi) : Below lo W wr := ⟨h.os, h.tape, h.output, Nat.le_of_eq h.size.symm, fun k hk => h.blk k (by omega)⟩
theorem Spoilt.store {W wr : World} {lo hi b o : Nat} {n v : Int} (h : Spoilt W wr lo hi) (hb : lo ≤ b ∧ b < hi) (hc : W.cell? ⟨b, o, none⟩ = some (.int .u8 n)) : Spoilt W (wr.setCell ⟨b, o, none⟩ (.int .u8 v)) lo hi := by
  refine ⟨h.os, h.tape, h.output, by rw [← h.size]; simp [World.setCell], fun k hk => ?_, fun b' o' u hu => ?_, fun b' o' hf => ?_⟩
  · rw [Below.heap_setCell _ _ _ _ (by show k ≠ b; omega)]; exact h.blk k hk
  · by_cases he : b' = b ∧ o' = o
    · obtain ⟨rfl, rfl⟩ := he
      rw [hc] at hu
      simp only [Option.some.injEq] at hu
      subst hu
      obtain ⟨m, hm⟩ := h.byte hc
      exact .inl ⟨n, v, rfl, World.cell?_setCell_same _ _ _ hm⟩
    · have hne : (⟨b, o, none⟩ : Addr) ≠ ⟨b', o', none⟩ := fun e => he (by simp only [Addr.mk.injEq, and_true] at e; exact ⟨e.1.symm, e.2.symm⟩)
      rw [World.cell?_setCell_other _ _ _ _ hne]
      exact h.cell b' o' u hu
  · rw [World.frozen?_setCell]; exact h.frz b' o' hf
end Go.Pg
