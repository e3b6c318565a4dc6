/-
  Contract of pergolaref19.DecodeHeader.
-/
import Derived.Test.YtndkkgkcbbmnpaaQgAS
namespace Go.Proofs.Ytndkkgkcbbmnpaa
open Go.RowKit Go.Pg

set_option maxRecDepth 100000 in
set_option maxHeartbeats 16000000 in
theorem rhdec_any (F : Nat → Prop) (w : World) (a : Option Addr) (n c : Nat) (bs : List UInt8) (h : BytesAt F w (.slice a n c) bs) (hn : n ≤ 140737488351232) :
    Calls Try.prog 26 #[.slice a n c] w (HdrD w (refHdrDecode bs)) := by
  obtain ⟨ZR, hZR⟩ : ∃ ZR : Array Value, ZR = Try.zeroCells47 := ⟨_, rfl⟩
  have hZR2 : ZR = hdrCells hdr0 := by rw [hZR]; rfl
  obtain ⟨Wz, hWz⟩ : ∃ W : World, W = w.alloc (.cells ZR 47) := ⟨_, rfl⟩
  have hbz : Below w.heap.size w Wz := by rw [hWz]; exact Bel.alloc (Bel.refl w) _
  have hrz : Wz.heap[w.heap.size]? = some (.cells ZR 47 (0, 0)) := by rw [hWz]; exact heap_alloc_new w _
  have hzs : Wz.heap.size = w.heap.size + 1 := by rw [hWz]; simp
  have hcall := rdecode_any _ Wz a n c bs (BytesAt.below h (by rw [hWz]; exact Bel.alloc (Bel.refl w) _)) hn
  obtain ⟨O, hO⟩ : ∃ O, O = rdWhole bs := ⟨_, rfl⟩
  rw [← hO] at hcall
  have hres : refHdrDecode bs = if O.1 = 0 ∧ O.2.items.length = 7 ∧ hdrBytes (hdrOf O.2.items) = bs then (hdrOf O.2.items, 0) else (hdr0, 190) := by unfold refHdrDecode; rw [hO]
  obtain ⟨X, hX⟩ : ∃ X, X = refHdrDecode bs := ⟨_, rfl⟩
  rw [← hX]
  rw [← hX] at hres
  obtain ⟨e1, x⟩ := O
  simp only at hres hcall
  obtain ⟨fs, hu⟩ := underlyingHdr
  have HU := Lib.hid hu
  have HC := Lib.hid hcall
  have HRES := Lib.hid hres
  have HZR := Lib.hid hZR
  have HZR2 := Lib.hid hZR2
  have HWZ := Lib.hid hWz
  have HBZ := Lib.hid hbz
  have HRZ := Lib.hid hrz
  have HIN := Lib.hid h
  have HSZ := Lib.hid (show ∀ h : Hdr, h.ok → (Try.prog.info? 47).map (·.size) = some (hdrCells h).size from fun h ho => by rw [hdrCells_size h ho]; exact infoHdr)
  clear hu hcall hres hX hO hZR hZR2 hWz hbz hrz h
  go_enter Try.func26, Try.ntmps26
  go_wp2_with fail
  rw [← HZR.out, ← HWZ.out]
  refine HC.out.mono ?_
  rintro e w1 ⟨il, i1, y1, z1, i3, y3, z3, rfl, hit, hb1⟩
  simp only at hit
  have hk1 := (hb1.block _ (by omega)).trans HRZ.out
  have hbl1 := Bel.call HBZ.out hb1
  obtain ⟨-, _, _, _, _, _, _, e1', e2', -, hn3⟩ := ItemAt.form hit
  simp only [Value.slice.injEq] at e1' e2'
  obtain ⟨rfl, rfl, rfl⟩ := e1'
  obtain ⟨rfl, rfl, rfl⟩ := e2'
  have hits := ItemAt.items hit
  obtain ⟨L, hL⟩ : ∃ L, L = x.items := ⟨_, rfl⟩
  rw [← hL] at hits hn3 HRES
  have HN3 := Lib.hid hn3
  have HITS := Lib.hid hits
  have HK1 := Lib.hid hk1
  have HBL1 := Lib.hid hbl1
  have hlt1 : w.heap.size < w1.heap.size := (Array.getElem?_eq_some_iff.1 hk1).1
  have hiz : (Try.prog.info? 47).map (·.size) = some (Try.zeroCells47).size := by kernel_rfl
  have hoz : (Try.zeroCells47).all (·.oneCell') = true := by kernel_rfl
  have HIZ := Lib.hid hiz
  have HOZ := Lib.hid hoz
  clear hiz hoz hk1 hbl1 hits hit hn3 hL HC hb1
  have hbad : ∀ W : World, Below w.heap.size w W → W.heap[w.heap.size]? = some (.cells ZR 47 (0, 0)) → X = (hdr0, 190) →
      (W.setRow w.heap.size Try.zeroCells47).heap[w.heap.size]? = some (.cells Try.zeroCells47 47 (0, 0)) ∧ HdrD w X (.returned (.tuple #[.agg Try.zeroCells47, .int .i64 190])) (W.setRow w.heap.size Try.zeroCells47) := by
    intro W hb hk hX
    refine ⟨setRow_heap W _ _ _ _ _ hk, ?_, below_setRow hb (Nat.le_refl _) _⟩
    rw [hX, ← HZR.out, HZR2.out]; rfl
  have HBAD := Lib.hid hbad
  clear hbad
  have hk2 : (w1.alloc (.cells #[.bool il, .slice i1 y1 z1, .slice i3 y3 z3] 65)).heap[w.heap.size]? = some (.cells ZR 47 (0, 0)) := (Below.heap_alloc _ _ _ hlt1).trans HK1.out
  have HK2 := Lib.hid hk2
  clear hk2
  by_cases hgood : e1 = 0 ∧ y3 = 7
  · skip
    obtain ⟨rfl, rfl⟩ := hgood
    have hN := HN3.out
    rcases SliceAt.split HITS.out with ⟨h0, -⟩ | ⟨b, o, rfl, -, -, -⟩
    · rw [h0] at hN; cases hN
    obtain ⟨W2, hW2⟩ : ∃ W : World, W = w1.alloc (.cells #[.bool il, .slice i1 y1 z1, .slice (some ⟨b, o, none⟩) 7 z3] 65) := ⟨_, rfl⟩
    have hb2 : Below w1.heap.size w1 W2 := by rw [hW2]; exact Bel.alloc (Bel.refl w1) _
    have hits2 := ItemsAt.below HITS.out hb2
    have hbox : W2.heap[w1.heap.size]? = some (.cells #[.bool il, .slice i1 y1 z1, .slice (some ⟨b, o, none⟩) 7 z3] 65 (0, 0)) := by rw [hW2]; exact heap_alloc_new w1 _
    have hbs := (Array.getElem?_eq_some_iff.1 hbox).1
    rw [← hW2] at HK2
    obtain ⟨p0, m0, k0, _, _, _, -, d0, -, t0⟩ := ItemsAt.cell hits2 0 (by omega)
    have T0 := Lib.hid (show BytesAt (fresh Wz) W2 (.slice p0 m0 k0) (itB L 0) from by unfold itB; rw [List.getD_eq_getElem?_getD, List.getElem?_eq_getElem (by omega)]; exact ItemAt.bytes t0)
    clear t0
    obtain ⟨p1, m1, k1, _, _, _, -, d1, -, t1⟩ := ItemsAt.cell hits2 1 (by omega)
    have T1 := Lib.hid (show BytesAt (fresh Wz) W2 (.slice p1 m1 k1) (itB L 1) from by unfold itB; rw [List.getD_eq_getElem?_getD, List.getElem?_eq_getElem (by omega)]; exact ItemAt.bytes t1)
    clear t1
    obtain ⟨p2, m2, k2, _, _, _, -, d2, -, t2⟩ := ItemsAt.cell hits2 2 (by omega)
    have T2 := Lib.hid (show BytesAt (fresh Wz) W2 (.slice p2 m2 k2) (itB L 2) from by unfold itB; rw [List.getD_eq_getElem?_getD, List.getElem?_eq_getElem (by omega)]; exact ItemAt.bytes t2)
    clear t2
    obtain ⟨p3, m3, k3, _, _, _, -, d3, -, t3⟩ := ItemsAt.cell hits2 3 (by omega)
    have T3 := Lib.hid (show BytesAt (fresh Wz) W2 (.slice p3 m3 k3) (itB L 3) from by unfold itB; rw [List.getD_eq_getElem?_getD, List.getElem?_eq_getElem (by omega)]; exact ItemAt.bytes t3)
    clear t3
    obtain ⟨p4, m4, k4, _, _, _, -, d4, -, t4⟩ := ItemsAt.cell hits2 4 (by omega)
    have T4 := Lib.hid (show BytesAt (fresh Wz) W2 (.slice p4 m4 k4) (itB L 4) from by unfold itB; rw [List.getD_eq_getElem?_getD, List.getElem?_eq_getElem (by omega)]; exact ItemAt.bytes t4)
    clear t4
    obtain ⟨p5, m5, k5, _, _, _, -, d5, -, t5⟩ := ItemsAt.cell hits2 5 (by omega)
    have T5 := Lib.hid (show BytesAt (fresh Wz) W2 (.slice p5 m5 k5) (itB L 5) from by unfold itB; rw [List.getD_eq_getElem?_getD, List.getElem?_eq_getElem (by omega)]; exact ItemAt.bytes t5)
    clear t5
    obtain ⟨p6, m6, k6, _, _, _, -, d6, -, t6⟩ := ItemsAt.cell hits2 6 (by omega)
    have T6 := Lib.hid (show BytesAt (fresh Wz) W2 (.slice p6 m6 k6) (itB L 6) from by unfold itB; rw [List.getD_eq_getElem?_getD, List.getElem?_eq_getElem (by omega)]; exact ItemAt.bytes t6)
    clear t6
    obtain ⟨S, hS⟩ : ∃ S : World → Prop, S = fun W => Below W2.heap.size W2 W := ⟨_, rfl⟩
    have hc2 := (cell_of_row W2 w1.heap.size 2 _ _ _ hbox)
    have hkeep : ∀ W : World, Below W2.heap.size W2 W → S W := fun W hW => by rw [hS]; exact hW
    have hget : ∀ W : World, S W → W.cell? ⟨w1.heap.size, 2, none⟩ = some (.slice (some ⟨b, o, none⟩) 7 z3) ∧ W.cell? ⟨b, o + 0 * 3 + 1, none⟩ = some (.slice p0 m0 k0) ∧ W.cell? ⟨b, o + 1 * 3 + 1, none⟩ = some (.slice p1 m1 k1) ∧ W.cell? ⟨b, o + 2 * 3 + 1, none⟩ = some (.slice p2 m2 k2) ∧ W.cell? ⟨b, o + 3 * 3 + 1, none⟩ = some (.slice p3 m3 k3) ∧ W.cell? ⟨b, o + 4 * 3 + 1, none⟩ = some (.slice p4 m4 k4) ∧ W.cell? ⟨b, o + 5 * 3 + 1, none⟩ = some (.slice p5 m5 k5) ∧ W.cell? ⟨b, o + 6 * 3 + 1, none⟩ = some (.slice p6 m6 k6) := fun W hW => by
      rw [hS] at hW
      exact ⟨cell_below hW hc2, cell_below hW d0, cell_below hW d1, cell_below hW d2, cell_below hW d3, cell_below hW d4, cell_below hW d5, cell_below hW d6⟩
    have HKP := Lib.hid hkeep
    have HS := Lib.hid hget
    have HW2 := Lib.hid hW2
    have HB2 := Lib.hid (HBL1.out.trans (hb2.mono (by omega)))
    have hlt2 : w.heap.size < W2.heap.size := by omega
    have hok : (hdrOf L).ok := hdrOf_ok L
    have hbu := builtHdrAll (hdrOf L) hok
    obtain ⟨HH, hH⟩ : ∃ H, H = hdrOf L := ⟨_, rfl⟩
    obtain ⟨BC, hBC⟩ : ∃ BC, BC = hdrCells HH := ⟨_, rfl⟩
    have hbu2 : Try.prog.built 47 [(0, .agg (cellsOf (fit32 (itB L 0)))), (1, .int .u64 ((readWord (itB L 1)).1 : Int)), (2, .int .u64 ((readWord (itB L 2)).1 : Int)), (3, .int .u64 ((readWord (itB L 3)).1 : Int)), (4, .agg (cellsOf (fit32 (itB L 4)))), (5, .agg (cellsOf (fit32 (itB L 5)))), (6, .agg (cellsOf (fit32 (itB L 6))))] = some BC := by rw [hBC, hH]; exact hbu
    rw [← hH] at hok
    have hX : X = if hdrBytes HH = bs then (HH, 0) else (hdr0, 190) := by rw [HRES.out, hH]; simp [hN.symm]
    have hZR3 : ZR.size = 131 := by rw [HZR2.out]; rfl
    have HXR := Lib.hid hX
    have HBU := Lib.hid hbu2
    have HOK := Lib.hid hok
    have HBC := Lib.hid hBC
    have HOB := Lib.hid (show BC.all (·.oneCell') = true by rw [hBC]; exact hdrCells_one HH)
    have HSB := Lib.hid (show ZR.size = BC.size by rw [hBC, hdrCells_size HH hok, hZR3])
    have HIB := Lib.hid (show (Try.prog.info? 47).map (·.size) = some BC.size by rw [hBC]; exact HSZ.out HH hok)
    clear hN hS hc2 hkeep hget hW2 hb2 hits2 hbox d0 d1 d2 d3 d4 d5 d6 hok hbu hbu2 hH hX hBC hZR3
    simp only
    go_wp2_with fail
    rw [← HW2.out]
    go_cut [6] (fun s6 wx => ∃ g : Nat, s6 = .pointer (some ⟨g, 0, none⟩) ∧ Hid (Below W2.heap.size W2 wx ∧ W2.heap.size ≤ g ∧ wx.heap[g]? = some (.cells BC 47 (0, 0))))
    case first =>
      refine wp_region_held_drew (S := S) (by kernel_rfl) (HKP.out _ (Bel.drew (Bel.refl W2))) (fun hHeld => ?_)
      refine wpAnyH_take (i := 0) (op_at rfl) (by kernel_rfl) (by kernel_rfl) (by kernel_rfl) (fun _ _ _ h => h) (Or.inl ⟨by rfl, by intro W hSw; go_simp; (try with_reducible rfl)⟩) hHeld ?_
      simp only [Act.put, List.setIfInBounds_toArray, List.set_cons_zero, List.set_cons_succ]
      refine wpAnyH_take (i := 1) (op_at rfl) (by kernel_rfl) (by kernel_rfl) (by kernel_rfl) (fun _ _ _ h => h) (Or.inl ⟨by rfl, by intro W hSw; have hc := (HS.out W hSw).1; go_simp; (try with_reducible rfl)⟩) hHeld ?_
      simp only [Act.put, List.setIfInBounds_toArray, List.set_cons_zero, List.set_cons_succ]
      refine wpAnyH_take (i := 2) (op_at rfl) (by kernel_rfl) (by kernel_rfl) (by kernel_rfl) (fun _ _ _ h => h) (Or.inl ⟨by rfl, by intro W hSw; go_simp; (try with_reducible rfl)⟩) hHeld ?_
      simp only [Act.put, List.setIfInBounds_toArray, List.set_cons_zero, List.set_cons_succ]
      refine wpAnyH_take (i := 3) (op_at rfl) (by kernel_rfl) (by kernel_rfl) (by kernel_rfl) (fun _ _ _ h => h) (Or.inl ⟨by rfl, by intro W hSw; go_simp; (try with_reducible rfl)⟩) hHeld ?_
      simp only [Act.put, List.setIfInBounds_toArray, List.set_cons_zero, List.set_cons_succ]
      refine wpAnyH_take (i := 4) (op_at rfl) (by kernel_rfl) (by kernel_rfl) (by kernel_rfl) (fun _ _ _ h => h) (Or.inl ⟨by rfl, by intro W hSw; have hc := (HS.out W hSw).2.1; go_simp; (try with_reducible rfl)⟩) hHeld ?_
      simp only [Act.put, List.setIfInBounds_toArray, List.set_cons_zero, List.set_cons_succ]
      refine wpAnyH_take (i := 6) (op_at rfl) (by kernel_rfl) (by kernel_rfl) (by kernel_rfl) (fun _ _ _ h => h) (Or.inl ⟨by rfl, by intro W hSw; go_simp; (try with_reducible rfl)⟩) hHeld ?_
      simp only [Act.put, List.setIfInBounds_toArray, List.set_cons_zero, List.set_cons_succ]
      refine wpAnyH_take (i := 7) (op_at rfl) (by kernel_rfl) (by kernel_rfl) (by kernel_rfl) (fun _ _ _ h => h) (Or.inl ⟨by rfl, by intro W hSw; have hc := (HS.out W hSw).1; go_simp; (try with_reducible rfl)⟩) hHeld ?_
      simp only [Act.put, List.setIfInBounds_toArray, List.set_cons_zero, List.set_cons_succ]
      refine wpAnyH_take (i := 8) (op_at rfl) (by kernel_rfl) (by kernel_rfl) (by kernel_rfl) (fun _ _ _ h => h) (Or.inl ⟨by rfl, by intro W hSw; go_simp; (try with_reducible rfl)⟩) hHeld ?_
      simp only [Act.put, List.setIfInBounds_toArray, List.set_cons_zero, List.set_cons_succ]
      refine wpAnyH_take (i := 9) (op_at rfl) (by kernel_rfl) (by kernel_rfl) (by kernel_rfl) (fun _ _ _ h => h) (Or.inl ⟨by rfl, by intro W hSw; go_simp; (try with_reducible rfl)⟩) hHeld ?_
      simp only [Act.put, List.setIfInBounds_toArray, List.set_cons_zero, List.set_cons_succ]
      refine wpAnyH_take (i := 10) (op_at rfl) (by kernel_rfl) (by kernel_rfl) (by kernel_rfl) (fun _ _ _ h => h) (Or.inl ⟨by rfl, by intro W hSw; have hc := (HS.out W hSw).2.2.1; go_simp; (try with_reducible rfl)⟩) hHeld ?_
      simp only [Act.put, List.setIfInBounds_toArray, List.set_cons_zero, List.set_cons_succ]
      refine wpAnyH_take (i := 12) (op_at rfl) (by kernel_rfl) (by kernel_rfl) (by kernel_rfl) (fun _ _ _ h => h) (Or.inl ⟨by rfl, by intro W hSw; go_simp; (try with_reducible rfl)⟩) hHeld ?_
      simp only [Act.put, List.setIfInBounds_toArray, List.set_cons_zero, List.set_cons_succ]
      refine wpAnyH_take (i := 13) (op_at rfl) (by kernel_rfl) (by kernel_rfl) (by kernel_rfl) (fun _ _ _ h => h) (Or.inl ⟨by rfl, by intro W hSw; have hc := (HS.out W hSw).1; go_simp; (try with_reducible rfl)⟩) hHeld ?_
      simp only [Act.put, List.setIfInBounds_toArray, List.set_cons_zero, List.set_cons_succ]
      refine wpAnyH_take (i := 14) (op_at rfl) (by kernel_rfl) (by kernel_rfl) (by kernel_rfl) (fun _ _ _ h => h) (Or.inl ⟨by rfl, by intro W hSw; go_simp; (try with_reducible rfl)⟩) hHeld ?_
      simp only [Act.put, List.setIfInBounds_toArray, List.set_cons_zero, List.set_cons_succ]
      refine wpAnyH_take (i := 15) (op_at rfl) (by kernel_rfl) (by kernel_rfl) (by kernel_rfl) (fun _ _ _ h => h) (Or.inl ⟨by rfl, by intro W hSw; go_simp; (try with_reducible rfl)⟩) hHeld ?_
      simp only [Act.put, List.setIfInBounds_toArray, List.set_cons_zero, List.set_cons_succ]
      refine wpAnyH_take (i := 16) (op_at rfl) (by kernel_rfl) (by kernel_rfl) (by kernel_rfl) (fun _ _ _ h => h) (Or.inl ⟨by rfl, by intro W hSw; have hc := (HS.out W hSw).2.2.2.1; go_simp; (try with_reducible rfl)⟩) hHeld ?_
      simp only [Act.put, List.setIfInBounds_toArray, List.set_cons_zero, List.set_cons_succ]
      refine wpAnyH_take (i := 18) (op_at rfl) (by kernel_rfl) (by kernel_rfl) (by kernel_rfl) (fun _ _ _ h => h) (Or.inl ⟨by rfl, by intro W hSw; go_simp; (try with_reducible rfl)⟩) hHeld ?_
      simp only [Act.put, List.setIfInBounds_toArray, List.set_cons_zero, List.set_cons_succ]
      refine wpAnyH_take (i := 19) (op_at rfl) (by kernel_rfl) (by kernel_rfl) (by kernel_rfl) (fun _ _ _ h => h) (Or.inl ⟨by rfl, by intro W hSw; have hc := (HS.out W hSw).1; go_simp; (try with_reducible rfl)⟩) hHeld ?_
      simp only [Act.put, List.setIfInBounds_toArray, List.set_cons_zero, List.set_cons_succ]
      refine wpAnyH_take (i := 20) (op_at rfl) (by kernel_rfl) (by kernel_rfl) (by kernel_rfl) (fun _ _ _ h => h) (Or.inl ⟨by rfl, by intro W hSw; go_simp; (try with_reducible rfl)⟩) hHeld ?_
      simp only [Act.put, List.setIfInBounds_toArray, List.set_cons_zero, List.set_cons_succ]
      refine wpAnyH_take (i := 21) (op_at rfl) (by kernel_rfl) (by kernel_rfl) (by kernel_rfl) (fun _ _ _ h => h) (Or.inl ⟨by rfl, by intro W hSw; go_simp; (try with_reducible rfl)⟩) hHeld ?_
      simp only [Act.put, List.setIfInBounds_toArray, List.set_cons_zero, List.set_cons_succ]
      refine wpAnyH_take (i := 22) (op_at rfl) (by kernel_rfl) (by kernel_rfl) (by kernel_rfl) (fun _ _ _ h => h) (Or.inl ⟨by rfl, by intro W hSw; have hc := (HS.out W hSw).2.2.2.2.1; go_simp; (try with_reducible rfl)⟩) hHeld ?_
      simp only [Act.put, List.setIfInBounds_toArray, List.set_cons_zero, List.set_cons_succ]
      refine wpAnyH_take (i := 24) (op_at rfl) (by kernel_rfl) (by kernel_rfl) (by kernel_rfl) (fun _ _ _ h => h) (Or.inl ⟨by rfl, by intro W hSw; go_simp; (try with_reducible rfl)⟩) hHeld ?_
      simp only [Act.put, List.setIfInBounds_toArray, List.set_cons_zero, List.set_cons_succ]
      refine wpAnyH_take (i := 25) (op_at rfl) (by kernel_rfl) (by kernel_rfl) (by kernel_rfl) (fun _ _ _ h => h) (Or.inl ⟨by rfl, by intro W hSw; have hc := (HS.out W hSw).1; go_simp; (try with_reducible rfl)⟩) hHeld ?_
      simp only [Act.put, List.setIfInBounds_toArray, List.set_cons_zero, List.set_cons_succ]
      refine wpAnyH_take (i := 26) (op_at rfl) (by kernel_rfl) (by kernel_rfl) (by kernel_rfl) (fun _ _ _ h => h) (Or.inl ⟨by rfl, by intro W hSw; go_simp; (try with_reducible rfl)⟩) hHeld ?_
      simp only [Act.put, List.setIfInBounds_toArray, List.set_cons_zero, List.set_cons_succ]
      refine wpAnyH_take (i := 27) (op_at rfl) (by kernel_rfl) (by kernel_rfl) (by kernel_rfl) (fun _ _ _ h => h) (Or.inl ⟨by rfl, by intro W hSw; go_simp; (try with_reducible rfl)⟩) hHeld ?_
      simp only [Act.put, List.setIfInBounds_toArray, List.set_cons_zero, List.set_cons_succ]
      refine wpAnyH_take (i := 28) (op_at rfl) (by kernel_rfl) (by kernel_rfl) (by kernel_rfl) (fun _ _ _ h => h) (Or.inl ⟨by rfl, by intro W hSw; have hc := (HS.out W hSw).2.2.2.2.2.1; go_simp; (try with_reducible rfl)⟩) hHeld ?_
      simp only [Act.put, List.setIfInBounds_toArray, List.set_cons_zero, List.set_cons_succ]
      refine wpAnyH_take (i := 30) (op_at rfl) (by kernel_rfl) (by kernel_rfl) (by kernel_rfl) (fun _ _ _ h => h) (Or.inl ⟨by rfl, by intro W hSw; go_simp; (try with_reducible rfl)⟩) hHeld ?_
      simp only [Act.put, List.setIfInBounds_toArray, List.set_cons_zero, List.set_cons_succ]
      refine wpAnyH_take (i := 31) (op_at rfl) (by kernel_rfl) (by kernel_rfl) (by kernel_rfl) (fun _ _ _ h => h) (Or.inl ⟨by rfl, by intro W hSw; have hc := (HS.out W hSw).1; go_simp; (try with_reducible rfl)⟩) hHeld ?_
      simp only [Act.put, List.setIfInBounds_toArray, List.set_cons_zero, List.set_cons_succ]
      refine wpAnyH_take (i := 32) (op_at rfl) (by kernel_rfl) (by kernel_rfl) (by kernel_rfl) (fun _ _ _ h => h) (Or.inl ⟨by rfl, by intro W hSw; go_simp; (try with_reducible rfl)⟩) hHeld ?_
      simp only [Act.put, List.setIfInBounds_toArray, List.set_cons_zero, List.set_cons_succ]
      refine wpAnyH_take (i := 33) (op_at rfl) (by kernel_rfl) (by kernel_rfl) (by kernel_rfl) (fun _ _ _ h => h) (Or.inl ⟨by rfl, by intro W hSw; go_simp; (try with_reducible rfl)⟩) hHeld ?_
      simp only [Act.put, List.setIfInBounds_toArray, List.set_cons_zero, List.set_cons_succ]
      refine wpAnyH_take (i := 34) (op_at rfl) (by kernel_rfl) (by kernel_rfl) (by kernel_rfl) (fun _ _ _ h => h) (Or.inl ⟨by rfl, by intro W hSw; have hc := (HS.out W hSw).2.2.2.2.2.2.1; go_simp; (try with_reducible rfl)⟩) hHeld ?_
      simp only [Act.put, List.setIfInBounds_toArray, List.set_cons_zero, List.set_cons_succ]
      refine wpAnyH_take (i := 36) (op_at rfl) (by kernel_rfl) (by kernel_rfl) (by kernel_rfl) (fun _ _ _ h => h) (Or.inl ⟨by rfl, by intro W hSw; go_simp; (try with_reducible rfl)⟩) hHeld ?_
      simp only [Act.put, List.setIfInBounds_toArray, List.set_cons_zero, List.set_cons_succ]
      refine wpAnyH_take (i := 37) (op_at rfl) (by kernel_rfl) (by kernel_rfl) (by kernel_rfl) (fun _ _ _ h => h) (Or.inl ⟨by rfl, by intro W hSw; have hc := (HS.out W hSw).1; go_simp; (try with_reducible rfl)⟩) hHeld ?_
      simp only [Act.put, List.setIfInBounds_toArray, List.set_cons_zero, List.set_cons_succ]
      refine wpAnyH_take (i := 38) (op_at rfl) (by kernel_rfl) (by kernel_rfl) (by kernel_rfl) (fun _ _ _ h => h) (Or.inl ⟨by rfl, by intro W hSw; go_simp; (try with_reducible rfl)⟩) hHeld ?_
      simp only [Act.put, List.setIfInBounds_toArray, List.set_cons_zero, List.set_cons_succ]
      refine wpAnyH_take (i := 39) (op_at rfl) (by kernel_rfl) (by kernel_rfl) (by kernel_rfl) (fun _ _ _ h => h) (Or.inl ⟨by rfl, by intro W hSw; go_simp; (try with_reducible rfl)⟩) hHeld ?_
      simp only [Act.put, List.setIfInBounds_toArray, List.set_cons_zero, List.set_cons_succ]
      refine wpAnyH_take (i := 40) (op_at rfl) (by kernel_rfl) (by kernel_rfl) (by kernel_rfl) (fun _ _ _ h => h) (Or.inl ⟨by rfl, by intro W hSw; have hc := (HS.out W hSw).2.2.2.2.2.2.2; go_simp; (try with_reducible rfl)⟩) hHeld ?_
      simp only [Act.put, List.setIfInBounds_toArray, List.set_cons_zero, List.set_cons_succ]
      refine wpAnyH_ready (rs := [5, 43]) (by kernel_rfl) (by simp) (AllReadyH.cons (op_at rfl) (fun K hK => ?_) (AllReadyH.cons (op_at rfl) (fun K hK => ?_) (AllReadyH.nil)))
      · clear hHeld
        go_simp
        go_at_call_of 59 (Value.slice p0 m0 k0)
        refine (rdig19_any _ _ p0 m0 k0 _ (BytesAt.below T0.out (Bel.drew (Bel.refl W2)))).mono ?_
        rintro e V1 ⟨rfl, hb⟩
        have hBV1 : Below W2.heap.size W2 V1 := Bel.call (Bel.drew (Bel.refl W2)) hb
        clear hb
        go_wp2_with fail
        refine hK.out _ _ (HKP.out _ hBV1) (fun hHeld => ?_)
        clear hK K
        try simp only [Act.put, List.setIfInBounds_toArray, List.set_cons_zero, List.set_cons_succ]
        refine wpAnyH_ready (rs := [11, 43]) (by kernel_rfl) (by simp) (AllReadyH.cons (op_at rfl) (fun K hK => ?_) (AllReadyH.cons (op_at rfl) (fun K hK => ?_) (AllReadyH.nil)))
        · clear hHeld
          go_simp
          go_at_call_of 60 (Value.slice p1 m1 k1)
          refine (rnumber_any _ _ p1 m1 k1 _ (BytesAt.below T1.out hBV1)).mono ?_
          rintro e V2 ⟨rfl, hb⟩
          have hBV2 : Below W2.heap.size W2 V2 := Bel.call hBV1 hb
          clear hb
          go_wp2_with fail
          refine hK.out _ _ (HKP.out _ hBV2) (fun hHeld => ?_)
          clear hK K
          try simp only [Act.put, List.setIfInBounds_toArray, List.set_cons_zero, List.set_cons_succ]
          refine wpAnyH_ready (rs := [17, 43]) (by kernel_rfl) (by simp) (AllReadyH.cons (op_at rfl) (fun K hK => ?_) (AllReadyH.cons (op_at rfl) (fun K hK => ?_) (AllReadyH.nil)))
          · clear hHeld
            go_simp
            go_at_call_of 60 (Value.slice p2 m2 k2)
            refine (rnumber_any _ _ p2 m2 k2 _ (BytesAt.below T2.out hBV2)).mono ?_
            rintro e V3 ⟨rfl, hb⟩
            have hBV3 : Below W2.heap.size W2 V3 := Bel.call hBV2 hb
            clear hb
            go_wp2_with fail
            refine hK.out _ _ (HKP.out _ hBV3) (fun hHeld => ?_)
            clear hK K
            try simp only [Act.put, List.setIfInBounds_toArray, List.set_cons_zero, List.set_cons_succ]
            refine wpAnyH_ready (rs := [23, 43]) (by kernel_rfl) (by simp) (AllReadyH.cons (op_at rfl) (fun K hK => ?_) (AllReadyH.cons (op_at rfl) (fun K hK => ?_) (AllReadyH.nil)))
            · clear hHeld
              go_simp
              go_at_call_of 60 (Value.slice p3 m3 k3)
              refine (rnumber_any _ _ p3 m3 k3 _ (BytesAt.below T3.out hBV3)).mono ?_
              rintro e V4 ⟨rfl, hb⟩
              have hBV4 : Below W2.heap.size W2 V4 := Bel.call hBV3 hb
              clear hb
              go_wp2_with fail
              refine hK.out _ _ (HKP.out _ hBV4) (fun hHeld => ?_)
              clear hK K
              try simp only [Act.put, List.setIfInBounds_toArray, List.set_cons_zero, List.set_cons_succ]
              refine wpAnyH_ready (rs := [29, 43]) (by kernel_rfl) (by simp) (AllReadyH.cons (op_at rfl) (fun K hK => ?_) (AllReadyH.cons (op_at rfl) (fun K hK => ?_) (AllReadyH.nil)))
              · clear hHeld
                go_simp
                go_at_call_of 59 (Value.slice p4 m4 k4)
                refine (rdig19_any _ _ p4 m4 k4 _ (BytesAt.below T4.out hBV4)).mono ?_
                rintro e V5 ⟨rfl, hb⟩
                have hBV5 : Below W2.heap.size W2 V5 := Bel.call hBV4 hb
                clear hb
                go_wp2_with fail
                refine hK.out _ _ (HKP.out _ hBV5) (fun hHeld => ?_)
                clear hK K
                try simp only [Act.put, List.setIfInBounds_toArray, List.set_cons_zero, List.set_cons_succ]
                refine wpAnyH_ready (rs := [35, 43]) (by kernel_rfl) (by simp) (AllReadyH.cons (op_at rfl) (fun K hK => ?_) (AllReadyH.cons (op_at rfl) (fun K hK => ?_) (AllReadyH.nil)))
                · clear hHeld
                  go_simp
                  go_at_call_of 59 (Value.slice p5 m5 k5)
                  refine (rdig19_any _ _ p5 m5 k5 _ (BytesAt.below T5.out hBV5)).mono ?_
                  rintro e V6 ⟨rfl, hb⟩
                  have hBV6 : Below W2.heap.size W2 V6 := Bel.call hBV5 hb
                  clear hb
                  go_wp2_with fail
                  refine hK.out _ _ (HKP.out _ hBV6) (fun hHeld => ?_)
                  clear hK K
                  try simp only [Act.put, List.setIfInBounds_toArray, List.set_cons_zero, List.set_cons_succ]
                  refine wpAnyH_ready (rs := [41, 43]) (by kernel_rfl) (by simp) (AllReadyH.cons (op_at rfl) (fun K hK => ?_) (AllReadyH.cons (op_at rfl) (fun K hK => ?_) (AllReadyH.nil)))
                  · clear hHeld
                    go_simp
                    go_at_call_of 59 (Value.slice p6 m6 k6)
                    refine (rdig19_any _ _ p6 m6 k6 _ (BytesAt.below T6.out hBV6)).mono ?_
                    rintro e V7 ⟨rfl, hb⟩
                    have hBV7 : Below W2.heap.size W2 V7 := Bel.call hBV6 hb
                    clear hb
                    go_wp2_with fail
                    refine hK.out _ _ (HKP.out _ hBV7) (fun hHeld => ?_)
                    clear hK K
                    try simp only [Act.put, List.setIfInBounds_toArray, List.set_cons_zero, List.set_cons_succ]
                    refine wpAnyH_ready (rs := [42, 43]) (by kernel_rfl) (by simp) (AllReadyH.cons (op_at rfl) (fun K hK => ?_) (AllReadyH.cons (op_at rfl) (fun K hK => ?_) (AllReadyH.nil)))
                    · clear hHeld
                      refine step_build_to rfl 47 #[(0, .tmp 26), (1, .tmp 32), (2, .tmp 38), (3, .tmp 44), (4, .tmp 50), (5, .tmp 56), (6, .tmp 62)] rfl _ (by kernel_rfl) BC HBU.out ?_
                      refine hK.out _ _ (HKP.out _ hBV7) (fun hHeld => ?_)
                      clear hK K
                      simp only [Act.put, List.setIfInBounds_toArray, List.set_cons_zero, List.set_cons_succ]
                      refine wpAnyH_ready (rs := [43]) (by kernel_rfl) (by simp) (AllReadyH.cons (op_at rfl) (fun K hK => ?_) (AllReadyH.nil))
                      clear hHeld
                      go_simp
                      try rw [← HZR.out]
                      obtain ⟨A8, hA8⟩ : ∃ X : World, X = V7.alloc (.cells ZR 47) := ⟨_, rfl⟩
                      have hBA8 : Below W2.heap.size W2 A8 := by rw [hA8]; exact Bel.alloc hBV7 _
                      have hZA8 : A8.heap[V7.heap.size]? = some (.cells ZR 47 (0, 0)) := by rw [hA8]; exact heap_alloc_new V7 _
                      have hG0_hZA8 : W2.heap.size ≤ V7.heap.size := hBV7.size
                      rw [← hA8]
                      clear hA8
                      refine hK.out _ _ (HKP.out _ hBA8) (fun hHeld => ?_)
                      clear hK K
                      try simp only [Act.put, List.setIfInBounds_toArray, List.set_cons_zero, List.set_cons_succ]
                      refine wpAnyH_ready (rs := [44]) (by kernel_rfl) (by simp) (AllReadyH.cons (op_at rfl) (fun K hK => ?_) (AllReadyH.nil))
                      clear hHeld
                      refine step_store_row rfl 47 (.tmp 6) (.tmp 63) rfl V7.heap.size BC rfl rfl 47 ZR hZA8 HIB.out HSB.out HOB.out ?_
                      have hbE := below_setRow (g := V7.heap.size) hBA8 (by have := hG0_hZA8; omega) BC
                      refine hK.out _ _ (HKP.out _ hbE) (fun hHeld => ?_)
                      clear hK K
                      try simp only [Act.put, List.setIfInBounds_toArray, List.set_cons_zero, List.set_cons_succ]
                      refine wpAnyH_done (by kernel_rfl) ?_ _
                      go_wp2_with fail
                      go_meet
                      exact ⟨V7.heap.size, rfl, Lib.hid ⟨hbE, hG0_hZA8, setRow_heap _ _ _ _ _ _ hZA8⟩⟩
                    · clear hHeld
                      go_simp
                      try rw [← HZR.out]
                      obtain ⟨A9, hA9⟩ : ∃ X : World, X = V7.alloc (.cells ZR 47) := ⟨_, rfl⟩
                      have hBA9 : Below W2.heap.size W2 A9 := by rw [hA9]; exact Bel.alloc hBV7 _
                      have hZA9 : A9.heap[V7.heap.size]? = some (.cells ZR 47 (0, 0)) := by rw [hA9]; exact heap_alloc_new V7 _
                      have hG0_hZA9 : W2.heap.size ≤ V7.heap.size := hBV7.size
                      rw [← hA9]
                      clear hA9
                      refine hK.out _ _ (HKP.out _ hBA9) (fun hHeld => ?_)
                      clear hK K
                      try simp only [Act.put, List.setIfInBounds_toArray, List.set_cons_zero, List.set_cons_succ]
                      refine wpAnyH_ready (rs := [42]) (by kernel_rfl) (by simp) (AllReadyH.cons (op_at rfl) (fun K hK => ?_) (AllReadyH.nil))
                      clear hHeld
                      refine step_build_to rfl 47 #[(0, .tmp 26), (1, .tmp 32), (2, .tmp 38), (3, .tmp 44), (4, .tmp 50), (5, .tmp 56), (6, .tmp 62)] rfl _ (by kernel_rfl) BC HBU.out ?_
                      refine hK.out _ _ (HKP.out _ hBA9) (fun hHeld => ?_)
                      clear hK K
                      simp only [Act.put, List.setIfInBounds_toArray, List.set_cons_zero, List.set_cons_succ]
                      refine wpAnyH_ready (rs := [44]) (by kernel_rfl) (by simp) (AllReadyH.cons (op_at rfl) (fun K hK => ?_) (AllReadyH.nil))
                      clear hHeld
                      refine step_store_row rfl 47 (.tmp 6) (.tmp 63) rfl V7.heap.size BC rfl rfl 47 ZR hZA9 HIB.out HSB.out HOB.out ?_
                      have hbE := below_setRow (g := V7.heap.size) hBA9 (by have := hG0_hZA9; omega) BC
                      refine hK.out _ _ (HKP.out _ hbE) (fun hHeld => ?_)
                      clear hK K
                      try simp only [Act.put, List.setIfInBounds_toArray, List.set_cons_zero, List.set_cons_succ]
                      refine wpAnyH_done (by kernel_rfl) ?_ _
                      go_wp2_with fail
                      go_meet
                      exact ⟨V7.heap.size, rfl, Lib.hid ⟨hbE, hG0_hZA9, setRow_heap _ _ _ _ _ _ hZA9⟩⟩
                  · clear hHeld
                    go_simp
                    try rw [← HZR.out]
                    obtain ⟨A10, hA10⟩ : ∃ X : World, X = V6.alloc (.cells ZR 47) := ⟨_, rfl⟩
                    have hBA10 : Below W2.heap.size W2 A10 := by rw [hA10]; exact Bel.alloc hBV6 _
                    have hZA10 : A10.heap[V6.heap.size]? = some (.cells ZR 47 (0, 0)) := by rw [hA10]; exact heap_alloc_new V6 _
                    have hG0_hZA10 : W2.heap.size ≤ V6.heap.size := hBV6.size
                    rw [← hA10]
                    clear hA10
                    refine hK.out _ _ (HKP.out _ hBA10) (fun hHeld => ?_)
                    clear hK K
                    try simp only [Act.put, List.setIfInBounds_toArray, List.set_cons_zero, List.set_cons_succ]
                    refine wpAnyH_ready (rs := [41]) (by kernel_rfl) (by simp) (AllReadyH.cons (op_at rfl) (fun K hK => ?_) (AllReadyH.nil))
                    clear hHeld
                    go_simp
                    go_at_call_of 59 (Value.slice p6 m6 k6)
                    refine (rdig19_any _ _ p6 m6 k6 _ (BytesAt.below T6.out hBA10)).mono ?_
                    rintro e V11 ⟨rfl, hb⟩
                    have hBV11 : Below W2.heap.size W2 V11 := Bel.call hBA10 hb
                    have hZV11 := (hb.block _ (Array.getElem?_eq_some_iff.1 hZA10).1).trans hZA10
                    have hG0_hZV11 := hG0_hZA10
                    clear hb
                    go_wp2_with fail
                    refine hK.out _ _ (HKP.out _ hBV11) (fun hHeld => ?_)
                    clear hK K
                    try simp only [Act.put, List.setIfInBounds_toArray, List.set_cons_zero, List.set_cons_succ]
                    refine wpAnyH_ready (rs := [42]) (by kernel_rfl) (by simp) (AllReadyH.cons (op_at rfl) (fun K hK => ?_) (AllReadyH.nil))
                    clear hHeld
                    refine step_build_to rfl 47 #[(0, .tmp 26), (1, .tmp 32), (2, .tmp 38), (3, .tmp 44), (4, .tmp 50), (5, .tmp 56), (6, .tmp 62)] rfl _ (by kernel_rfl) BC HBU.out ?_
                    refine hK.out _ _ (HKP.out _ hBV11) (fun hHeld => ?_)
                    clear hK K
                    simp only [Act.put, List.setIfInBounds_toArray, List.set_cons_zero, List.set_cons_succ]
                    refine wpAnyH_ready (rs := [44]) (by kernel_rfl) (by simp) (AllReadyH.cons (op_at rfl) (fun K hK => ?_) (AllReadyH.nil))
                    clear hHeld
                    refine step_store_row rfl 47 (.tmp 6) (.tmp 63) rfl V6.heap.size BC rfl rfl 47 ZR hZV11 HIB.out HSB.out HOB.out ?_
                    have hbE := below_setRow (g := V6.heap.size) hBV11 (by have := hG0_hZV11; omega) BC
                    refine hK.out _ _ (HKP.out _ hbE) (fun hHeld => ?_)
                    clear hK K
                    try simp only [Act.put, List.setIfInBounds_toArray, List.set_cons_zero, List.set_cons_succ]
                    refine wpAnyH_done (by kernel_rfl) ?_ _
                    go_wp2_with fail
                    go_meet
                    exact ⟨V6.heap.size, rfl, Lib.hid ⟨hbE, hG0_hZV11, setRow_heap _ _ _ _ _ _ hZV11⟩⟩
                · clear hHeld
                  go_simp
                  try rw [← HZR.out]
                  obtain ⟨A12, hA12⟩ : ∃ X : World, X = V5.alloc (.cells ZR 47) := ⟨_, rfl⟩
                  have hBA12 : Below W2.heap.size W2 A12 := by rw [hA12]; exact Bel.alloc hBV5 _
                  have hZA12 : A12.heap[V5.heap.size]? = some (.cells ZR 47 (0, 0)) := by rw [hA12]; exact heap_alloc_new V5 _
                  have hG0_hZA12 : W2.heap.size ≤ V5.heap.size := hBV5.size
                  rw [← hA12]
                  clear hA12
                  refine hK.out _ _ (HKP.out _ hBA12) (fun hHeld => ?_)
                  clear hK K
                  try simp only [Act.put, List.setIfInBounds_toArray, List.set_cons_zero, List.set_cons_succ]
                  refine wpAnyH_ready (rs := [35]) (by kernel_rfl) (by simp) (AllReadyH.cons (op_at rfl) (fun K hK => ?_) (AllReadyH.nil))
                  clear hHeld
                  go_simp
                  go_at_call_of 59 (Value.slice p5 m5 k5)
                  refine (rdig19_any _ _ p5 m5 k5 _ (BytesAt.below T5.out hBA12)).mono ?_
                  rintro e V13 ⟨rfl, hb⟩
                  have hBV13 : Below W2.heap.size W2 V13 := Bel.call hBA12 hb
                  have hZV13 := (hb.block _ (Array.getElem?_eq_some_iff.1 hZA12).1).trans hZA12
                  have hG0_hZV13 := hG0_hZA12
                  clear hb
                  go_wp2_with fail
                  refine hK.out _ _ (HKP.out _ hBV13) (fun hHeld => ?_)
                  clear hK K
                  try simp only [Act.put, List.setIfInBounds_toArray, List.set_cons_zero, List.set_cons_succ]
                  refine wpAnyH_ready (rs := [41]) (by kernel_rfl) (by simp) (AllReadyH.cons (op_at rfl) (fun K hK => ?_) (AllReadyH.nil))
                  clear hHeld
                  go_simp
                  go_at_call_of 59 (Value.slice p6 m6 k6)
                  refine (rdig19_any _ _ p6 m6 k6 _ (BytesAt.below T6.out hBV13)).mono ?_
                  rintro e V14 ⟨rfl, hb⟩
                  have hBV14 : Below W2.heap.size W2 V14 := Bel.call hBV13 hb
                  have hZV14 := (hb.block _ (Array.getElem?_eq_some_iff.1 hZV13).1).trans hZV13
                  have hG0_hZV14 := hG0_hZV13
                  clear hb
                  go_wp2_with fail
                  refine hK.out _ _ (HKP.out _ hBV14) (fun hHeld => ?_)
                  clear hK K
                  try simp only [Act.put, List.setIfInBounds_toArray, List.set_cons_zero, List.set_cons_succ]
                  refine wpAnyH_ready (rs := [42]) (by kernel_rfl) (by simp) (AllReadyH.cons (op_at rfl) (fun K hK => ?_) (AllReadyH.nil))
                  clear hHeld
                  refine step_build_to rfl 47 #[(0, .tmp 26), (1, .tmp 32), (2, .tmp 38), (3, .tmp 44), (4, .tmp 50), (5, .tmp 56), (6, .tmp 62)] rfl _ (by kernel_rfl) BC HBU.out ?_
                  refine hK.out _ _ (HKP.out _ hBV14) (fun hHeld => ?_)
                  clear hK K
                  simp only [Act.put, List.setIfInBounds_toArray, List.set_cons_zero, List.set_cons_succ]
                  refine wpAnyH_ready (rs := [44]) (by kernel_rfl) (by simp) (AllReadyH.cons (op_at rfl) (fun K hK => ?_) (AllReadyH.nil))
                  clear hHeld
                  refine step_store_row rfl 47 (.tmp 6) (.tmp 63) rfl V5.heap.size BC rfl rfl 47 ZR hZV14 HIB.out HSB.out HOB.out ?_
                  have hbE := below_setRow (g := V5.heap.size) hBV14 (by have := hG0_hZV14; omega) BC
                  refine hK.out _ _ (HKP.out _ hbE) (fun hHeld => ?_)
                  clear hK K
                  try simp only [Act.put, List.setIfInBounds_toArray, List.set_cons_zero, List.set_cons_succ]
                  refine wpAnyH_done (by kernel_rfl) ?_ _
                  go_wp2_with fail
                  go_meet
                  exact ⟨V5.heap.size, rfl, Lib.hid ⟨hbE, hG0_hZV14, setRow_heap _ _ _ _ _ _ hZV14⟩⟩
              · clear hHeld
                go_simp
                try rw [← HZR.out]
                obtain ⟨A15, hA15⟩ : ∃ X : World, X = V4.alloc (.cells ZR 47) := ⟨_, rfl⟩
                have hBA15 : Below W2.heap.size W2 A15 := by rw [hA15]; exact Bel.alloc hBV4 _
                have hZA15 : A15.heap[V4.heap.size]? = some (.cells ZR 47 (0, 0)) := by rw [hA15]; exact heap_alloc_new V4 _
                have hG0_hZA15 : W2.heap.size ≤ V4.heap.size := hBV4.size
                rw [← hA15]
                clear hA15
                refine hK.out _ _ (HKP.out _ hBA15) (fun hHeld => ?_)
                clear hK K
                try simp only [Act.put, List.setIfInBounds_toArray, List.set_cons_zero, List.set_cons_succ]
                refine wpAnyH_ready (rs := [29]) (by kernel_rfl) (by simp) (AllReadyH.cons (op_at rfl) (fun K hK => ?_) (AllReadyH.nil))
                clear hHeld
                go_simp
                go_at_call_of 59 (Value.slice p4 m4 k4)
                refine (rdig19_any _ _ p4 m4 k4 _ (BytesAt.below T4.out hBA15)).mono ?_
                rintro e V16 ⟨rfl, hb⟩
                have hBV16 : Below W2.heap.size W2 V16 := Bel.call hBA15 hb
                have hZV16 := (hb.block _ (Array.getElem?_eq_some_iff.1 hZA15).1).trans hZA15
                have hG0_hZV16 := hG0_hZA15
                clear hb
                go_wp2_with fail
                refine hK.out _ _ (HKP.out _ hBV16) (fun hHeld => ?_)
                clear hK K
                try simp only [Act.put, List.setIfInBounds_toArray, List.set_cons_zero, List.set_cons_succ]
                refine wpAnyH_ready (rs := [35]) (by kernel_rfl) (by simp) (AllReadyH.cons (op_at rfl) (fun K hK => ?_) (AllReadyH.nil))
                clear hHeld
                go_simp
                go_at_call_of 59 (Value.slice p5 m5 k5)
                refine (rdig19_any _ _ p5 m5 k5 _ (BytesAt.below T5.out hBV16)).mono ?_
                rintro e V17 ⟨rfl, hb⟩
                have hBV17 : Below W2.heap.size W2 V17 := Bel.call hBV16 hb
                have hZV17 := (hb.block _ (Array.getElem?_eq_some_iff.1 hZV16).1).trans hZV16
                have hG0_hZV17 := hG0_hZV16
                clear hb
                go_wp2_with fail
                refine hK.out _ _ (HKP.out _ hBV17) (fun hHeld => ?_)
                clear hK K
                try simp only [Act.put, List.setIfInBounds_toArray, List.set_cons_zero, List.set_cons_succ]
                refine wpAnyH_ready (rs := [41]) (by kernel_rfl) (by simp) (AllReadyH.cons (op_at rfl) (fun K hK => ?_) (AllReadyH.nil))
                clear hHeld
                go_simp
                go_at_call_of 59 (Value.slice p6 m6 k6)
                refine (rdig19_any _ _ p6 m6 k6 _ (BytesAt.below T6.out hBV17)).mono ?_
                rintro e V18 ⟨rfl, hb⟩
                have hBV18 : Below W2.heap.size W2 V18 := Bel.call hBV17 hb
                have hZV18 := (hb.block _ (Array.getElem?_eq_some_iff.1 hZV17).1).trans hZV17
                have hG0_hZV18 := hG0_hZV17
                clear hb
                go_wp2_with fail
                refine hK.out _ _ (HKP.out _ hBV18) (fun hHeld => ?_)
                clear hK K
                try simp only [Act.put, List.setIfInBounds_toArray, List.set_cons_zero, List.set_cons_succ]
                refine wpAnyH_ready (rs := [42]) (by kernel_rfl) (by simp) (AllReadyH.cons (op_at rfl) (fun K hK => ?_) (AllReadyH.nil))
                clear hHeld
                refine step_build_to rfl 47 #[(0, .tmp 26), (1, .tmp 32), (2, .tmp 38), (3, .tmp 44), (4, .tmp 50), (5, .tmp 56), (6, .tmp 62)] rfl _ (by kernel_rfl) BC HBU.out ?_
                refine hK.out _ _ (HKP.out _ hBV18) (fun hHeld => ?_)
                clear hK K
                simp only [Act.put, List.setIfInBounds_toArray, List.set_cons_zero, List.set_cons_succ]
                refine wpAnyH_ready (rs := [44]) (by kernel_rfl) (by simp) (AllReadyH.cons (op_at rfl) (fun K hK => ?_) (AllReadyH.nil))
                clear hHeld
                refine step_store_row rfl 47 (.tmp 6) (.tmp 63) rfl V4.heap.size BC rfl rfl 47 ZR hZV18 HIB.out HSB.out HOB.out ?_
                have hbE := below_setRow (g := V4.heap.size) hBV18 (by have := hG0_hZV18; omega) BC
                refine hK.out _ _ (HKP.out _ hbE) (fun hHeld => ?_)
                clear hK K
                try simp only [Act.put, List.setIfInBounds_toArray, List.set_cons_zero, List.set_cons_succ]
                refine wpAnyH_done (by kernel_rfl) ?_ _
                go_wp2_with fail
                go_meet
                exact ⟨V4.heap.size, rfl, Lib.hid ⟨hbE, hG0_hZV18, setRow_heap _ _ _ _ _ _ hZV18⟩⟩
            · clear hHeld
              go_simp
              try rw [← HZR.out]
              obtain ⟨A19, hA19⟩ : ∃ X : World, X = V3.alloc (.cells ZR 47) := ⟨_, rfl⟩
              have hBA19 : Below W2.heap.size W2 A19 := by rw [hA19]; exact Bel.alloc hBV3 _
              have hZA19 : A19.heap[V3.heap.size]? = some (.cells ZR 47 (0, 0)) := by rw [hA19]; exact heap_alloc_new V3 _
              have hG0_hZA19 : W2.heap.size ≤ V3.heap.size := hBV3.size
              rw [← hA19]
              clear hA19
              refine hK.out _ _ (HKP.out _ hBA19) (fun hHeld => ?_)
              clear hK K
              try simp only [Act.put, List.setIfInBounds_toArray, List.set_cons_zero, List.set_cons_succ]
              refine wpAnyH_ready (rs := [23]) (by kernel_rfl) (by simp) (AllReadyH.cons (op_at rfl) (fun K hK => ?_) (AllReadyH.nil))
              clear hHeld
              go_simp
              go_at_call_of 60 (Value.slice p3 m3 k3)
              refine (rnumber_any _ _ p3 m3 k3 _ (BytesAt.below T3.out hBA19)).mono ?_
              rintro e V20 ⟨rfl, hb⟩
              have hBV20 : Below W2.heap.size W2 V20 := Bel.call hBA19 hb
              have hZV20 := (hb.block _ (Array.getElem?_eq_some_iff.1 hZA19).1).trans hZA19
              have hG0_hZV20 := hG0_hZA19
              clear hb
              go_wp2_with fail
              refine hK.out _ _ (HKP.out _ hBV20) (fun hHeld => ?_)
              clear hK K
              try simp only [Act.put, List.setIfInBounds_toArray, List.set_cons_zero, List.set_cons_succ]
              refine wpAnyH_ready (rs := [29]) (by kernel_rfl) (by simp) (AllReadyH.cons (op_at rfl) (fun K hK => ?_) (AllReadyH.nil))
              clear hHeld
              go_simp
              go_at_call_of 59 (Value.slice p4 m4 k4)
              refine (rdig19_any _ _ p4 m4 k4 _ (BytesAt.below T4.out hBV20)).mono ?_
              rintro e V21 ⟨rfl, hb⟩
              have hBV21 : Below W2.heap.size W2 V21 := Bel.call hBV20 hb
              have hZV21 := (hb.block _ (Array.getElem?_eq_some_iff.1 hZV20).1).trans hZV20
              have hG0_hZV21 := hG0_hZV20
              clear hb
              go_wp2_with fail
              refine hK.out _ _ (HKP.out _ hBV21) (fun hHeld => ?_)
              clear hK K
              try simp only [Act.put, List.setIfInBounds_toArray, List.set_cons_zero, List.set_cons_succ]
              refine wpAnyH_ready (rs := [35]) (by kernel_rfl) (by simp) (AllReadyH.cons (op_at rfl) (fun K hK => ?_) (AllReadyH.nil))
              clear hHeld
              go_simp
              go_at_call_of 59 (Value.slice p5 m5 k5)
              refine (rdig19_any _ _ p5 m5 k5 _ (BytesAt.below T5.out hBV21)).mono ?_
              rintro e V22 ⟨rfl, hb⟩
              have hBV22 : Below W2.heap.size W2 V22 := Bel.call hBV21 hb
              have hZV22 := (hb.block _ (Array.getElem?_eq_some_iff.1 hZV21).1).trans hZV21
              have hG0_hZV22 := hG0_hZV21
              clear hb
              go_wp2_with fail
              refine hK.out _ _ (HKP.out _ hBV22) (fun hHeld => ?_)
              clear hK K
              try simp only [Act.put, List.setIfInBounds_toArray, List.set_cons_zero, List.set_cons_succ]
              refine wpAnyH_ready (rs := [41]) (by kernel_rfl) (by simp) (AllReadyH.cons (op_at rfl) (fun K hK => ?_) (AllReadyH.nil))
              clear hHeld
              go_simp
              go_at_call_of 59 (Value.slice p6 m6 k6)
              refine (rdig19_any _ _ p6 m6 k6 _ (BytesAt.below T6.out hBV22)).mono ?_
              rintro e V23 ⟨rfl, hb⟩
              have hBV23 : Below W2.heap.size W2 V23 := Bel.call hBV22 hb
              have hZV23 := (hb.block _ (Array.getElem?_eq_some_iff.1 hZV22).1).trans hZV22
              have hG0_hZV23 := hG0_hZV22
              clear hb
              go_wp2_with fail
              refine hK.out _ _ (HKP.out _ hBV23) (fun hHeld => ?_)
              clear hK K
              try simp only [Act.put, List.setIfInBounds_toArray, List.set_cons_zero, List.set_cons_succ]
              refine wpAnyH_ready (rs := [42]) (by kernel_rfl) (by simp) (AllReadyH.cons (op_at rfl) (fun K hK => ?_) (AllReadyH.nil))
              clear hHeld
              refine step_build_to rfl 47 #[(0, .tmp 26), (1, .tmp 32), (2, .tmp 38), (3, .tmp 44), (4, .tmp 50), (5, .tmp 56), (6, .tmp 62)] rfl _ (by kernel_rfl) BC HBU.out ?_
              refine hK.out _ _ (HKP.out _ hBV23) (fun hHeld => ?_)
              clear hK K
              simp only [Act.put, List.setIfInBounds_toArray, List.set_cons_zero, List.set_cons_succ]
              refine wpAnyH_ready (rs := [44]) (by kernel_rfl) (by simp) (AllReadyH.cons (op_at rfl) (fun K hK => ?_) (AllReadyH.nil))
              clear hHeld
              refine step_store_row rfl 47 (.tmp 6) (.tmp 63) rfl V3.heap.size BC rfl rfl 47 ZR hZV23 HIB.out HSB.out HOB.out ?_
              have hbE := below_setRow (g := V3.heap.size) hBV23 (by have := hG0_hZV23; omega) BC
              refine hK.out _ _ (HKP.out _ hbE) (fun hHeld => ?_)
              clear hK K
              try simp only [Act.put, List.setIfInBounds_toArray, List.set_cons_zero, List.set_cons_succ]
              refine wpAnyH_done (by kernel_rfl) ?_ _
              go_wp2_with fail
              go_meet
              exact ⟨V3.heap.size, rfl, Lib.hid ⟨hbE, hG0_hZV23, setRow_heap _ _ _ _ _ _ hZV23⟩⟩
          · clear hHeld
            go_simp
            try rw [← HZR.out]
            obtain ⟨A24, hA24⟩ : ∃ X : World, X = V2.alloc (.cells ZR 47) := ⟨_, rfl⟩
            have hBA24 : Below W2.heap.size W2 A24 := by rw [hA24]; exact Bel.alloc hBV2 _
            have hZA24 : A24.heap[V2.heap.size]? = some (.cells ZR 47 (0, 0)) := by rw [hA24]; exact heap_alloc_new V2 _
            have hG0_hZA24 : W2.heap.size ≤ V2.heap.size := hBV2.size
            rw [← hA24]
            clear hA24
            refine hK.out _ _ (HKP.out _ hBA24) (fun hHeld => ?_)
            clear hK K
            try simp only [Act.put, List.setIfInBounds_toArray, List.set_cons_zero, List.set_cons_succ]
            refine wpAnyH_ready (rs := [17]) (by kernel_rfl) (by simp) (AllReadyH.cons (op_at rfl) (fun K hK => ?_) (AllReadyH.nil))
            clear hHeld
            go_simp
            go_at_call_of 60 (Value.slice p2 m2 k2)
            refine (rnumber_any _ _ p2 m2 k2 _ (BytesAt.below T2.out hBA24)).mono ?_
            rintro e V25 ⟨rfl, hb⟩
            have hBV25 : Below W2.heap.size W2 V25 := Bel.call hBA24 hb
            have hZV25 := (hb.block _ (Array.getElem?_eq_some_iff.1 hZA24).1).trans hZA24
            have hG0_hZV25 := hG0_hZA24
            clear hb
            go_wp2_with fail
            refine hK.out _ _ (HKP.out _ hBV25) (fun hHeld => ?_)
            clear hK K
            try simp only [Act.put, List.setIfInBounds_toArray, List.set_cons_zero, List.set_cons_succ]
            refine wpAnyH_ready (rs := [23]) (by kernel_rfl) (by simp) (AllReadyH.cons (op_at rfl) (fun K hK => ?_) (AllReadyH.nil))
            clear hHeld
            go_simp
            go_at_call_of 60 (Value.slice p3 m3 k3)
            refine (rnumber_any _ _ p3 m3 k3 _ (BytesAt.below T3.out hBV25)).mono ?_
            rintro e V26 ⟨rfl, hb⟩
            have hBV26 : Below W2.heap.size W2 V26 := Bel.call hBV25 hb
            have hZV26 := (hb.block _ (Array.getElem?_eq_some_iff.1 hZV25).1).trans hZV25
            have hG0_hZV26 := hG0_hZV25
            clear hb
            go_wp2_with fail
            refine hK.out _ _ (HKP.out _ hBV26) (fun hHeld => ?_)
            clear hK K
            try simp only [Act.put, List.setIfInBounds_toArray, List.set_cons_zero, List.set_cons_succ]
            refine wpAnyH_ready (rs := [29]) (by kernel_rfl) (by simp) (AllReadyH.cons (op_at rfl) (fun K hK => ?_) (AllReadyH.nil))
            clear hHeld
            go_simp
            go_at_call_of 59 (Value.slice p4 m4 k4)
            refine (rdig19_any _ _ p4 m4 k4 _ (BytesAt.below T4.out hBV26)).mono ?_
            rintro e V27 ⟨rfl, hb⟩
            have hBV27 : Below W2.heap.size W2 V27 := Bel.call hBV26 hb
            have hZV27 := (hb.block _ (Array.getElem?_eq_some_iff.1 hZV26).1).trans hZV26
            have hG0_hZV27 := hG0_hZV26
            clear hb
            go_wp2_with fail
            refine hK.out _ _ (HKP.out _ hBV27) (fun hHeld => ?_)
            clear hK K
            try simp only [Act.put, List.setIfInBounds_toArray, List.set_cons_zero, List.set_cons_succ]
            refine wpAnyH_ready (rs := [35]) (by kernel_rfl) (by simp) (AllReadyH.cons (op_at rfl) (fun K hK => ?_) (AllReadyH.nil))
            clear hHeld
            go_simp
            go_at_call_of 59 (Value.slice p5 m5 k5)
            refine (rdig19_any _ _ p5 m5 k5 _ (BytesAt.below T5.out hBV27)).mono ?_
            rintro e V28 ⟨rfl, hb⟩
            have hBV28 : Below W2.heap.size W2 V28 := Bel.call hBV27 hb
            have hZV28 := (hb.block _ (Array.getElem?_eq_some_iff.1 hZV27).1).trans hZV27
            have hG0_hZV28 := hG0_hZV27
            clear hb
            go_wp2_with fail
            refine hK.out _ _ (HKP.out _ hBV28) (fun hHeld => ?_)
            clear hK K
            try simp only [Act.put, List.setIfInBounds_toArray, List.set_cons_zero, List.set_cons_succ]
            refine wpAnyH_ready (rs := [41]) (by kernel_rfl) (by simp) (AllReadyH.cons (op_at rfl) (fun K hK => ?_) (AllReadyH.nil))
            clear hHeld
            go_simp
            go_at_call_of 59 (Value.slice p6 m6 k6)
            refine (rdig19_any _ _ p6 m6 k6 _ (BytesAt.below T6.out hBV28)).mono ?_
            rintro e V29 ⟨rfl, hb⟩
            have hBV29 : Below W2.heap.size W2 V29 := Bel.call hBV28 hb
            have hZV29 := (hb.block _ (Array.getElem?_eq_some_iff.1 hZV28).1).trans hZV28
            have hG0_hZV29 := hG0_hZV28
            clear hb
            go_wp2_with fail
            refine hK.out _ _ (HKP.out _ hBV29) (fun hHeld => ?_)
            clear hK K
            try simp only [Act.put, List.setIfInBounds_toArray, List.set_cons_zero, List.set_cons_succ]
            refine wpAnyH_ready (rs := [42]) (by kernel_rfl) (by simp) (AllReadyH.cons (op_at rfl) (fun K hK => ?_) (AllReadyH.nil))
            clear hHeld
            refine step_build_to rfl 47 #[(0, .tmp 26), (1, .tmp 32), (2, .tmp 38), (3, .tmp 44), (4, .tmp 50), (5, .tmp 56), (6, .tmp 62)] rfl _ (by kernel_rfl) BC HBU.out ?_
            refine hK.out _ _ (HKP.out _ hBV29) (fun hHeld => ?_)
            clear hK K
            simp only [Act.put, List.setIfInBounds_toArray, List.set_cons_zero, List.set_cons_succ]
            refine wpAnyH_ready (rs := [44]) (by kernel_rfl) (by simp) (AllReadyH.cons (op_at rfl) (fun K hK => ?_) (AllReadyH.nil))
            clear hHeld
            refine step_store_row rfl 47 (.tmp 6) (.tmp 63) rfl V2.heap.size BC rfl rfl 47 ZR hZV29 HIB.out HSB.out HOB.out ?_
            have hbE := below_setRow (g := V2.heap.size) hBV29 (by have := hG0_hZV29; omega) BC
            refine hK.out _ _ (HKP.out _ hbE) (fun hHeld => ?_)
            clear hK K
            try simp only [Act.put, List.setIfInBounds_toArray, List.set_cons_zero, List.set_cons_succ]
            refine wpAnyH_done (by kernel_rfl) ?_ _
            go_wp2_with fail
            go_meet
            exact ⟨V2.heap.size, rfl, Lib.hid ⟨hbE, hG0_hZV29, setRow_heap _ _ _ _ _ _ hZV29⟩⟩
        · clear hHeld
          go_simp
          try rw [← HZR.out]
          obtain ⟨A30, hA30⟩ : ∃ X : World, X = V1.alloc (.cells ZR 47) := ⟨_, rfl⟩
          have hBA30 : Below W2.heap.size W2 A30 := by rw [hA30]; exact Bel.alloc hBV1 _
          have hZA30 : A30.heap[V1.heap.size]? = some (.cells ZR 47 (0, 0)) := by rw [hA30]; exact heap_alloc_new V1 _
          have hG0_hZA30 : W2.heap.size ≤ V1.heap.size := hBV1.size
          rw [← hA30]
          clear hA30
          refine hK.out _ _ (HKP.out _ hBA30) (fun hHeld => ?_)
          clear hK K
          try simp only [Act.put, List.setIfInBounds_toArray, List.set_cons_zero, List.set_cons_succ]
          refine wpAnyH_ready (rs := [11]) (by kernel_rfl) (by simp) (AllReadyH.cons (op_at rfl) (fun K hK => ?_) (AllReadyH.nil))
          clear hHeld
          go_simp
          go_at_call_of 60 (Value.slice p1 m1 k1)
          refine (rnumber_any _ _ p1 m1 k1 _ (BytesAt.below T1.out hBA30)).mono ?_
          rintro e V31 ⟨rfl, hb⟩
          have hBV31 : Below W2.heap.size W2 V31 := Bel.call hBA30 hb
          have hZV31 := (hb.block _ (Array.getElem?_eq_some_iff.1 hZA30).1).trans hZA30
          have hG0_hZV31 := hG0_hZA30
          clear hb
          go_wp2_with fail
          refine hK.out _ _ (HKP.out _ hBV31) (fun hHeld => ?_)
          clear hK K
          try simp only [Act.put, List.setIfInBounds_toArray, List.set_cons_zero, List.set_cons_succ]
          refine wpAnyH_ready (rs := [17]) (by kernel_rfl) (by simp) (AllReadyH.cons (op_at rfl) (fun K hK => ?_) (AllReadyH.nil))
          clear hHeld
          go_simp
          go_at_call_of 60 (Value.slice p2 m2 k2)
          refine (rnumber_any _ _ p2 m2 k2 _ (BytesAt.below T2.out hBV31)).mono ?_
          rintro e V32 ⟨rfl, hb⟩
          have hBV32 : Below W2.heap.size W2 V32 := Bel.call hBV31 hb
          have hZV32 := (hb.block _ (Array.getElem?_eq_some_iff.1 hZV31).1).trans hZV31
          have hG0_hZV32 := hG0_hZV31
          clear hb
          go_wp2_with fail
          refine hK.out _ _ (HKP.out _ hBV32) (fun hHeld => ?_)
          clear hK K
          try simp only [Act.put, List.setIfInBounds_toArray, List.set_cons_zero, List.set_cons_succ]
          refine wpAnyH_ready (rs := [23]) (by kernel_rfl) (by simp) (AllReadyH.cons (op_at rfl) (fun K hK => ?_) (AllReadyH.nil))
          clear hHeld
          go_simp
          go_at_call_of 60 (Value.slice p3 m3 k3)
          refine (rnumber_any _ _ p3 m3 k3 _ (BytesAt.below T3.out hBV32)).mono ?_
          rintro e V33 ⟨rfl, hb⟩
          have hBV33 : Below W2.heap.size W2 V33 := Bel.call hBV32 hb
          have hZV33 := (hb.block _ (Array.getElem?_eq_some_iff.1 hZV32).1).trans hZV32
          have hG0_hZV33 := hG0_hZV32
          clear hb
          go_wp2_with fail
          refine hK.out _ _ (HKP.out _ hBV33) (fun hHeld => ?_)
          clear hK K
          try simp only [Act.put, List.setIfInBounds_toArray, List.set_cons_zero, List.set_cons_succ]
          refine wpAnyH_ready (rs := [29]) (by kernel_rfl) (by simp) (AllReadyH.cons (op_at rfl) (fun K hK => ?_) (AllReadyH.nil))
          clear hHeld
          go_simp
          go_at_call_of 59 (Value.slice p4 m4 k4)
          refine (rdig19_any _ _ p4 m4 k4 _ (BytesAt.below T4.out hBV33)).mono ?_
          rintro e V34 ⟨rfl, hb⟩
          have hBV34 : Below W2.heap.size W2 V34 := Bel.call hBV33 hb
          have hZV34 := (hb.block _ (Array.getElem?_eq_some_iff.1 hZV33).1).trans hZV33
          have hG0_hZV34 := hG0_hZV33
          clear hb
          go_wp2_with fail
          refine hK.out _ _ (HKP.out _ hBV34) (fun hHeld => ?_)
          clear hK K
          try simp only [Act.put, List.setIfInBounds_toArray, List.set_cons_zero, List.set_cons_succ]
          refine wpAnyH_ready (rs := [35]) (by kernel_rfl) (by simp) (AllReadyH.cons (op_at rfl) (fun K hK => ?_) (AllReadyH.nil))
          clear hHeld
          go_simp
          go_at_call_of 59 (Value.slice p5 m5 k5)
          refine (rdig19_any _ _ p5 m5 k5 _ (BytesAt.below T5.out hBV34)).mono ?_
          rintro e V35 ⟨rfl, hb⟩
          have hBV35 : Below W2.heap.size W2 V35 := Bel.call hBV34 hb
          have hZV35 := (hb.block _ (Array.getElem?_eq_some_iff.1 hZV34).1).trans hZV34
          have hG0_hZV35 := hG0_hZV34
          clear hb
          go_wp2_with fail
          refine hK.out _ _ (HKP.out _ hBV35) (fun hHeld => ?_)
          clear hK K
          try simp only [Act.put, List.setIfInBounds_toArray, List.set_cons_zero, List.set_cons_succ]
          refine wpAnyH_ready (rs := [41]) (by kernel_rfl) (by simp) (AllReadyH.cons (op_at rfl) (fun K hK => ?_) (AllReadyH.nil))
          clear hHeld
          go_simp
          go_at_call_of 59 (Value.slice p6 m6 k6)
          refine (rdig19_any _ _ p6 m6 k6 _ (BytesAt.below T6.out hBV35)).mono ?_
          rintro e V36 ⟨rfl, hb⟩
          have hBV36 : Below W2.heap.size W2 V36 := Bel.call hBV35 hb
          have hZV36 := (hb.block _ (Array.getElem?_eq_some_iff.1 hZV35).1).trans hZV35
          have hG0_hZV36 := hG0_hZV35
          clear hb
          go_wp2_with fail
          refine hK.out _ _ (HKP.out _ hBV36) (fun hHeld => ?_)
          clear hK K
          try simp only [Act.put, List.setIfInBounds_toArray, List.set_cons_zero, List.set_cons_succ]
          refine wpAnyH_ready (rs := [42]) (by kernel_rfl) (by simp) (AllReadyH.cons (op_at rfl) (fun K hK => ?_) (AllReadyH.nil))
          clear hHeld
          refine step_build_to rfl 47 #[(0, .tmp 26), (1, .tmp 32), (2, .tmp 38), (3, .tmp 44), (4, .tmp 50), (5, .tmp 56), (6, .tmp 62)] rfl _ (by kernel_rfl) BC HBU.out ?_
          refine hK.out _ _ (HKP.out _ hBV36) (fun hHeld => ?_)
          clear hK K
          simp only [Act.put, List.setIfInBounds_toArray, List.set_cons_zero, List.set_cons_succ]
          refine wpAnyH_ready (rs := [44]) (by kernel_rfl) (by simp) (AllReadyH.cons (op_at rfl) (fun K hK => ?_) (AllReadyH.nil))
          clear hHeld
          refine step_store_row rfl 47 (.tmp 6) (.tmp 63) rfl V1.heap.size BC rfl rfl 47 ZR hZV36 HIB.out HSB.out HOB.out ?_
          have hbE := below_setRow (g := V1.heap.size) hBV36 (by have := hG0_hZV36; omega) BC
          refine hK.out _ _ (HKP.out _ hbE) (fun hHeld => ?_)
          clear hK K
          try simp only [Act.put, List.setIfInBounds_toArray, List.set_cons_zero, List.set_cons_succ]
          refine wpAnyH_done (by kernel_rfl) ?_ _
          go_wp2_with fail
          go_meet
          exact ⟨V1.heap.size, rfl, Lib.hid ⟨hbE, hG0_hZV36, setRow_heap _ _ _ _ _ _ hZV36⟩⟩
      · clear hHeld
        go_simp
        try rw [← HZR.out]
        obtain ⟨A37, hA37⟩ : ∃ X : World, X = (W2.alloc (.cells ZR 47)).drew := ⟨_, rfl⟩
        have hBA37 : Below W2.heap.size W2 A37 := by rw [hA37]; exact Bel.drew (Bel.alloc (Bel.refl W2) _)
        have hZA37 : A37.heap[W2.heap.size]? = some (.cells ZR 47 (0, 0)) := by rw [hA37]; exact heap_alloc_new W2 _
        have hG0_hZA37 : W2.heap.size ≤ W2.heap.size := Nat.le_refl _
        rw [← hA37]
        clear hA37
        refine hK.out _ _ (HKP.out _ hBA37) (fun hHeld => ?_)
        clear hK K
        try simp only [Act.put, List.setIfInBounds_toArray, List.set_cons_zero, List.set_cons_succ]
        refine wpAnyH_ready (rs := [5]) (by kernel_rfl) (by simp) (AllReadyH.cons (op_at rfl) (fun K hK => ?_) (AllReadyH.nil))
        clear hHeld
        go_simp
        go_at_call_of 59 (Value.slice p0 m0 k0)
        refine (rdig19_any _ _ p0 m0 k0 _ (BytesAt.below T0.out hBA37)).mono ?_
        rintro e V38 ⟨rfl, hb⟩
        have hBV38 : Below W2.heap.size W2 V38 := Bel.call hBA37 hb
        have hZV38 := (hb.block _ (Array.getElem?_eq_some_iff.1 hZA37).1).trans hZA37
        have hG0_hZV38 := hG0_hZA37
        clear hb
        go_wp2_with fail
        refine hK.out _ _ (HKP.out _ hBV38) (fun hHeld => ?_)
        clear hK K
        try simp only [Act.put, List.setIfInBounds_toArray, List.set_cons_zero, List.set_cons_succ]
        refine wpAnyH_ready (rs := [11]) (by kernel_rfl) (by simp) (AllReadyH.cons (op_at rfl) (fun K hK => ?_) (AllReadyH.nil))
        clear hHeld
        go_simp
        go_at_call_of 60 (Value.slice p1 m1 k1)
        refine (rnumber_any _ _ p1 m1 k1 _ (BytesAt.below T1.out hBV38)).mono ?_
        rintro e V39 ⟨rfl, hb⟩
        have hBV39 : Below W2.heap.size W2 V39 := Bel.call hBV38 hb
        have hZV39 := (hb.block _ (Array.getElem?_eq_some_iff.1 hZV38).1).trans hZV38
        have hG0_hZV39 := hG0_hZV38
        clear hb
        go_wp2_with fail
        refine hK.out _ _ (HKP.out _ hBV39) (fun hHeld => ?_)
        clear hK K
        try simp only [Act.put, List.setIfInBounds_toArray, List.set_cons_zero, List.set_cons_succ]
        refine wpAnyH_ready (rs := [17]) (by kernel_rfl) (by simp) (AllReadyH.cons (op_at rfl) (fun K hK => ?_) (AllReadyH.nil))
        clear hHeld
        go_simp
        go_at_call_of 60 (Value.slice p2 m2 k2)
        refine (rnumber_any _ _ p2 m2 k2 _ (BytesAt.below T2.out hBV39)).mono ?_
        rintro e V40 ⟨rfl, hb⟩
        have hBV40 : Below W2.heap.size W2 V40 := Bel.call hBV39 hb
        have hZV40 := (hb.block _ (Array.getElem?_eq_some_iff.1 hZV39).1).trans hZV39
        have hG0_hZV40 := hG0_hZV39
        clear hb
        go_wp2_with fail
        refine hK.out _ _ (HKP.out _ hBV40) (fun hHeld => ?_)
        clear hK K
        try simp only [Act.put, List.setIfInBounds_toArray, List.set_cons_zero, List.set_cons_succ]
        refine wpAnyH_ready (rs := [23]) (by kernel_rfl) (by simp) (AllReadyH.cons (op_at rfl) (fun K hK => ?_) (AllReadyH.nil))
        clear hHeld
        go_simp
        go_at_call_of 60 (Value.slice p3 m3 k3)
        refine (rnumber_any _ _ p3 m3 k3 _ (BytesAt.below T3.out hBV40)).mono ?_
        rintro e V41 ⟨rfl, hb⟩
        have hBV41 : Below W2.heap.size W2 V41 := Bel.call hBV40 hb
        have hZV41 := (hb.block _ (Array.getElem?_eq_some_iff.1 hZV40).1).trans hZV40
        have hG0_hZV41 := hG0_hZV40
        clear hb
        go_wp2_with fail
        refine hK.out _ _ (HKP.out _ hBV41) (fun hHeld => ?_)
        clear hK K
        try simp only [Act.put, List.setIfInBounds_toArray, List.set_cons_zero, List.set_cons_succ]
        refine wpAnyH_ready (rs := [29]) (by kernel_rfl) (by simp) (AllReadyH.cons (op_at rfl) (fun K hK => ?_) (AllReadyH.nil))
        clear hHeld
        go_simp
        go_at_call_of 59 (Value.slice p4 m4 k4)
        refine (rdig19_any _ _ p4 m4 k4 _ (BytesAt.below T4.out hBV41)).mono ?_
        rintro e V42 ⟨rfl, hb⟩
        have hBV42 : Below W2.heap.size W2 V42 := Bel.call hBV41 hb
        have hZV42 := (hb.block _ (Array.getElem?_eq_some_iff.1 hZV41).1).trans hZV41
        have hG0_hZV42 := hG0_hZV41
        clear hb
        go_wp2_with fail
        refine hK.out _ _ (HKP.out _ hBV42) (fun hHeld => ?_)
        clear hK K
        try simp only [Act.put, List.setIfInBounds_toArray, List.set_cons_zero, List.set_cons_succ]
        refine wpAnyH_ready (rs := [35]) (by kernel_rfl) (by simp) (AllReadyH.cons (op_at rfl) (fun K hK => ?_) (AllReadyH.nil))
        clear hHeld
        go_simp
        go_at_call_of 59 (Value.slice p5 m5 k5)
        refine (rdig19_any _ _ p5 m5 k5 _ (BytesAt.below T5.out hBV42)).mono ?_
        rintro e V43 ⟨rfl, hb⟩
        have hBV43 : Below W2.heap.size W2 V43 := Bel.call hBV42 hb
        have hZV43 := (hb.block _ (Array.getElem?_eq_some_iff.1 hZV42).1).trans hZV42
        have hG0_hZV43 := hG0_hZV42
        clear hb
        go_wp2_with fail
        refine hK.out _ _ (HKP.out _ hBV43) (fun hHeld => ?_)
        clear hK K
        try simp only [Act.put, List.setIfInBounds_toArray, List.set_cons_zero, List.set_cons_succ]
        refine wpAnyH_ready (rs := [41]) (by kernel_rfl) (by simp) (AllReadyH.cons (op_at rfl) (fun K hK => ?_) (AllReadyH.nil))
        clear hHeld
        go_simp
        go_at_call_of 59 (Value.slice p6 m6 k6)
        refine (rdig19_any _ _ p6 m6 k6 _ (BytesAt.below T6.out hBV43)).mono ?_
        rintro e V44 ⟨rfl, hb⟩
        have hBV44 : Below W2.heap.size W2 V44 := Bel.call hBV43 hb
        have hZV44 := (hb.block _ (Array.getElem?_eq_some_iff.1 hZV43).1).trans hZV43
        have hG0_hZV44 := hG0_hZV43
        clear hb
        go_wp2_with fail
        refine hK.out _ _ (HKP.out _ hBV44) (fun hHeld => ?_)
        clear hK K
        try simp only [Act.put, List.setIfInBounds_toArray, List.set_cons_zero, List.set_cons_succ]
        refine wpAnyH_ready (rs := [42]) (by kernel_rfl) (by simp) (AllReadyH.cons (op_at rfl) (fun K hK => ?_) (AllReadyH.nil))
        clear hHeld
        refine step_build_to rfl 47 #[(0, .tmp 26), (1, .tmp 32), (2, .tmp 38), (3, .tmp 44), (4, .tmp 50), (5, .tmp 56), (6, .tmp 62)] rfl _ (by kernel_rfl) BC HBU.out ?_
        refine hK.out _ _ (HKP.out _ hBV44) (fun hHeld => ?_)
        clear hK K
        simp only [Act.put, List.setIfInBounds_toArray, List.set_cons_zero, List.set_cons_succ]
        refine wpAnyH_ready (rs := [44]) (by kernel_rfl) (by simp) (AllReadyH.cons (op_at rfl) (fun K hK => ?_) (AllReadyH.nil))
        clear hHeld
        refine step_store_row rfl 47 (.tmp 6) (.tmp 63) rfl W2.heap.size BC rfl rfl 47 ZR hZV44 HIB.out HSB.out HOB.out ?_
        have hbE := below_setRow (g := W2.heap.size) hBV44 (by have := hG0_hZV44; omega) BC
        refine hK.out _ _ (HKP.out _ hbE) (fun hHeld => ?_)
        clear hK K
        try simp only [Act.put, List.setIfInBounds_toArray, List.set_cons_zero, List.set_cons_succ]
        refine wpAnyH_done (by kernel_rfl) ?_ _
        go_wp2_with fail
        go_meet
        exact ⟨W2.heap.size, rfl, Lib.hid ⟨hbE, hG0_hZV44, setRow_heap _ _ _ _ _ _ hZV44⟩⟩
    case rest =>
      obtain ⟨g, rfl, H⟩ := hcut
      obtain ⟨hbw, hgl, hgb⟩ := H.out
      have hglt := (Array.getElem?_eq_some_iff.1 hgb).1
      have hbwc : Below w.heap.size w wc := HB2.out.trans (hbw.mono (by omega))
      have hkc := (hbw.block _ hlt2).trans HK2.out
      have hwlt := (Array.getElem?_eq_some_iff.1 hkc).1
      obtain ⟨S3, hS3⟩ : ∃ S : World → Prop, S = fun W => Below wc.heap.size wc W := ⟨_, rfl⟩
      have hkp3 : ∀ W : World, Below wc.heap.size wc W → S3 W := fun W hW => by rw [hS3]; exact hW
      have hsr := fun (W : World) (hW : S3 W) => run_string_at (P := Try.prog) (BytesAt.below (BytesAt.below HIN.out hbwc) (show Below wc.heap.size wc W by rw [hS3] at hW; exact hW)) 25 5 9 Try.underlying25 Try.underlying5 Try.underlying9
      have henc := rencHdr_any wc.drew HH HOK.out (by have := hdr_whole HH HOK.out; omega)
      rw [← HBC.out] at henc
      obtain ⟨E, hE⟩ : ∃ E, E = hdrBytes HH := ⟨_, rfl⟩
      rw [← hE] at henc
      have hX2 := HXR.out
      rw [← hE] at hX2
      have hgb' : wc.drew.heap[g]? = some (.cells BC 47 (0, 0)) := hgb
      have hs0 : S3 wc.drew := hkp3 _ (Bel.drew (Bel.refl wc))
      have HKP3 := Lib.hid hkp3
      have HSR := Lib.hid hsr
      have HENC := Lib.hid henc
      have HX2 := Lib.hid hX2
      have HGB := Lib.hid hgb
      have HGB' := Lib.hid hgb'
      have HS0 := Lib.hid hs0
      have HBWC := Lib.hid hbwc
      have HKC := Lib.hid hkc
      clear hbw hgb hbwc hkc hS3 hkp3 hsr henc hE hX2 hgb' hs0 H
      go_wp2_with fail
      refine wp_region_held_drew (S := S3) (by kernel_rfl) HS0.out (fun hHeld => ?_)
      refine wpAnyH_take (i := 3) (op_at rfl) (by kernel_rfl) (by kernel_rfl) (by kernel_rfl) (fun _ _ _ h => h) (Or.inl ⟨by rfl, by intro W hSw; go_simp; (try with_reducible rfl)⟩) hHeld ?_
      simp only [Act.put, List.setIfInBounds_toArray, List.set_cons_zero, List.set_cons_succ]
      refine wpAnyH_take (i := 4) (op_at rfl) (by kernel_rfl) (by kernel_rfl) (by kernel_rfl) (fun _ _ _ h => h) (Or.inl ⟨by rfl, by intro W hSw; have hc := HSR.out W hSw; go_simp; (try with_reducible rfl)⟩) hHeld ?_
      simp only [Act.put, List.setIfInBounds_toArray, List.set_cons_zero, List.set_cons_succ]
      refine wpAnyH_ready (rs := [0]) (by kernel_rfl) (by simp) (AllReadyH.cons (op_at rfl) (fun K hK => ?_) AllReadyH.nil)
      clear hHeld
      refine step_load_row rfl 47 (.tmp 6) rfl g rfl 47 BC (0, 0) (.struct fs) HGB'.out HU.out rfl HIB.out ?_
      refine hK.out _ _ HS0.out (fun hHeld => ?_)
      clear hK K
      simp only [Act.put, List.setIfInBounds_toArray, List.set_cons_zero, List.set_cons_succ]
      refine wpAnyH_ready (rs := [1]) (by kernel_rfl) (by simp) (AllReadyH.cons (op_at rfl) (fun K hK => ?_) AllReadyH.nil)
      clear hHeld
      go_simp
      go_at_call 28
      refine HENC.out.mono ?_
      rintro e w5 ⟨v5, rfl, ho5, hb5⟩
      obtain ⟨a5, c5, rfl, -, -, -⟩ := ho5.len
      obtain ⟨m5, hm5⟩ : ∃ m, m = E.length := ⟨_, rfl⟩
      have hat5 := ho5.at (F := fun _ => True) (fun _ _ _ _ => trivial) (by decide)
      rw [← hm5] at hat5 ⊢
      have hb5' : Below wc.heap.size wc w5 := Bel.call (Bel.drew (Bel.refl wc)) hb5
      have hbw5 := HBWC.out.trans (hb5'.mono (by omega))
      have HK5 := Lib.hid ((hb5'.block _ hwlt).trans HKC.out)
      have HG5 := Lib.hid ((hb5'.block _ hglt).trans HGB.out)
      have HBW5 := Lib.hid hbw5
      have HS5 := Lib.hid (HKP3.out _ hb5')
      have s1 := run_string_at (P := Try.prog) hat5 25 5 9 Try.underlying25 Try.underlying5 Try.underlying9
      clear ho5 hb5 hm5 hat5 hbw5 hb5'
      go_wp2_with fail
      refine hK.out _ _ HS5.out (fun hHeld => ?_)
      clear hK K
      try simp only [Act.put, List.setIfInBounds_toArray, List.set_cons_zero, List.set_cons_succ]
      refine wpAnyH_ready (rs := [2]) (by kernel_rfl) (by simp) (AllReadyH.cons (op_at rfl) (fun K hK => ?_) AllReadyH.nil)
      clear hHeld
      go_simp
      refine hK.out _ _ HS5.out (fun hHeld => ?_)
      clear hK K s1
      try simp only [Act.put, List.setIfInBounds_toArray, List.set_cons_zero, List.set_cons_succ]
      by_cases hok : E = bs
      · subst hok
        have HXX : Hid (X = (HH, 0)) := Lib.hid (by rw [HX2.out, if_pos rfl])
        refine wpAnyH_ready (rs := [5]) (by kernel_rfl) (by simp) (AllReadyH.cons (op_at rfl) (fun K hK => ?_) AllReadyH.nil)
        clear hHeld
        go_simp
        refine hK.out _ _ HS5.out (fun hHeld => ?_)
        clear hK K
        refine wpAnyH_done (by kernel_rfl) ?_ _
        repeat (first
          | ((with_reducible refine wpL_load_row 47 (.tmp 6) g BC 47 (.struct fs) ?_ ⟨HG5.out, HU.out, rfl, HIB.out⟩ ?_); (exact ⟨rfl, rfl, rfl⟩))
          | ((with_reducible refine wpL_store_row 47 (.tmp 2) (.tmp 71) w.heap.size BC 47 ZR ?_ ⟨HK5.out, HIB.out, HSB.out, HOB.out⟩ ?_); (exact ⟨rfl, rfl, rfl, rfl⟩))
          | go_values | go_skip | go_guarded | go_step | go_upon)
        refine bodyPost_ret (v := .tuple #[.agg BC, .int .i64 0]) (results_cell_row_tmp rfl _ _ w.heap.size 47 BC (0, 0) (.struct fs) rfl (setRow_heap w5 _ _ _ _ _ HK5.out) HU.out rfl HIB.out _ rfl) rfl ?_
        rw [HXX.out, HBC.out]
        exact ⟨rfl, below_setRow HBW5.out (Nat.le_refl _) _⟩
      · have HXX := Lib.hid (HBAD.out w5 HBW5.out HK5.out (by rw [HX2.out, if_neg hok]))
        have hq1 : (E == bs) = false := by simp [hok]
        have hq2 : (E != bs) = true := by simp [hok]
        clear hok
        refine wpAnyH_ready (rs := [5]) (by kernel_rfl) (by simp) (AllReadyH.cons (op_at rfl) (fun K hK => ?_) AllReadyH.nil)
        clear hHeld
        go_simp
        refine hK.out _ _ HS5.out (fun hHeld => ?_)
        clear hK K
        refine wpAnyH_done (by kernel_rfl) ?_ _
        go_wp2_with (refine wpList_store_row rfl 47 (.tmp 2) (.tmp 70) rfl w.heap.size Try.zeroCells47 rfl rfl 47 ZR HK5.out HIZ.out (by rw [HZR.out]) HOZ.out ?_)
        refine bodyPost_ret (v := .tuple #[.agg Try.zeroCells47, .int .i64 190]) (results_cell_row_tmp rfl _ _ w.heap.size 47 Try.zeroCells47 (0, 0) (.struct fs) rfl HXX.out.1 HU.out rfl HIZ.out _ rfl) rfl ?_
        exact HXX.out.2
  · have hXX : X = (hdr0, 190) := by rw [HRES.out, if_neg]; rintro ⟨g1, g2, -⟩; exact hgood ⟨g1, by rw [HN3.out]; exact g2⟩
    have HXX := Lib.hid (HBAD.out _ (HBL1.out.alloc HBL1.out.size (.cells #[.bool il, .slice i1 y1 z1, .slice i3 y3 z3] 65)) HK2.out hXX)
    have hcase : ¬ (e1 : Int) = 0 ∨ (e1 = 0 ∧ ¬ (y3 : Int) = 7) := by omega
    clear hXX hgood
    rcases hcase with h1 | ⟨rfl, h1⟩
    all_goals
      go_wp2_with (refine wpList_store_row rfl 47 (.tmp 2) (.tmp 20) rfl w.heap.size Try.zeroCells47 rfl rfl 47 ZR HK2.out HIZ.out (by rw [HZR.out]) HOZ.out ?_)
      refine bodyPost_ret (v := .tuple #[.agg Try.zeroCells47, .int .i64 190]) (results_cell_row_tmp rfl _ _ w.heap.size 47 Try.zeroCells47 (0, 0) (.struct fs) rfl HXX.out.1 HU.out rfl HIZ.out _ rfl) rfl ?_
      exact HXX.out.2
end Go.Proofs.Ytndkkgkcbbmnpaa
