/-
  Contract of pergolalaw19.alive: the fixed examples.
  For the laws of blocks: bounds on a block's bytes; an append as a step of a drawn region, whatever is appended; a guarded load of a whole row; how far the copying of a block's transactions has come.
  Contract of pergolaref02.first, where that of items is known.
  Contract of pergolaref02.first: a short text.
-/
import Derived.Test.YtndkkgkcbbmnpaaQgAN
namespace Go.Proofs.Ytndkkgkcbbmnpaa
open Go.RowKit Go.Pg

set_option maxRecDepth 100000 in
set_option maxHeartbeats 8000000 in
theorem alive19_any (w : World) : Calls Try.prog 21 #[] w fun e w' => e = .returned (.bool true) ∧ Below w.heap.size w w' := by
  obtain ⟨ZR, hZR⟩ : ∃ ZR : Array Value, ZR = #[.int .u8 0, .int .u8 0, .int .u8 0, .int .u8 0, .int .u8 0, .int .u8 0, .int .u8 0, .int .u8 0, .int .u8 0, .int .u8 0, .int .u8 0, .int .u8 0, .int .u8 0, .int .u8 0, .int .u8 0, .int .u8 0, .int .u8 0, .int .u8 0, .int .u8 0, .int .u8 0, .int .u8 0, .int .u8 0, .int .u8 0, .int .u8 0, .int .u8 0, .int .u8 0, .int .u8 0, .int .u8 0, .int .u8 0, .int .u8 0, .int .u8 0, .int .u8 0, .int .u64 0, .int .u64 0, .slice none 0 0] := ⟨_, rfl⟩
  obtain ⟨ZH, hZH⟩ : ∃ ZR : Array Value, ZR = Try.zeroCells47 := ⟨_, rfl⟩
  have hZH2 : ZH.size = 131 := by rw [hZH]; kernel_rfl
  obtain ⟨B1, hB1, hBl⟩ := blk1_enc
  obtain ⟨B5, hB5⟩ : ∃ B, B = hdrBytes hdr5 := ⟨_, rfl⟩
  have hBl5 : B5.length ≤ 162 := by rw [hB5]; exact hdrBytes_le _ hdr5_ok
  have hd1 := blkDecode_back blk1 blk1_ok B1 hB1
  have hd5 := hdrDecode_back hdr5 hdr5_ok
  rw [← hB5] at hd5
  have he1 := fun (W : World) => bencode_any (fun _ => True) W blk1.p blk1.nn blk1.bb (.slice none 0 0) [] blk1_ok.p blk1_ok.nn blk1_ok.bb (SliceAt.nil _ _ _ _) (by simp) (by simp) (by
    have := It.enc_length blk1.item
    have h2 := (blk_of_enc blk1 B1 hB1).2
    rw [← h2, hBl] at this
    show (blkI blk1.p blk1.nn blk1.bb blk1.T).whole ≤ _
    have h3 : blkI blk1.p blk1.nn blk1.bb blk1.T = blk1.item := rfl
    rw [h3]; omega)
  have hb1 : blkEncode blk1.p blk1.nn blk1.bb [] = (B1, 0) := hB1
  rw [hb1] at he1
  have he5 := fun (W : World) => encHdr_any W hdr5 hdr5_ok (by have := hdr_whole hdr5 hdr5_ok; omega)
  rw [← hB5] at he5
  have hn5 := fun (W : World) => bName_any W hdr5 hdr5_ok
  have hr5 := fun (W : World) => rName_any W hdr5 hdr5_ok
  have hbu1 := builtBlk1
  have hbu5 := builtHdr5
  obtain ⟨p1, hp1⟩ : ∃ p, p = blk1.p := ⟨_, rfl⟩
  have hpl : p1.length = 32 := by rw [hp1]; exact blk1_ok.p
  have hnn : blk1.nn = 1 := rfl
  have hbb : blk1.bb = 200 := rfl
  rw [hnn, hbb, ← hp1] at he1 hbu1
  obtain ⟨BC0, hBC0⟩ : ∃ BC, BC = blkCells p1 1 200 (.slice none 0 0) := ⟨_, rfl⟩
  obtain ⟨HC5, hHC5⟩ : ∃ BC, BC = hdrCells hdr5 := ⟨_, rfl⟩
  have hsz5 : HC5.size = 131 := by rw [hHC5]; exact hdrCells_size _ hdr5_ok
  obtain ⟨D5, hD5⟩ : ∃ D, D = digestOf B5 := ⟨_, rfl⟩
  have hDl : D5.length = 32 := by rw [hD5]; exact digestOf_length _
  rw [← hBC0] at he1 hbu1
  rw [← hHC5] at he5 hbu5 hn5 hr5
  rw [← hB5, ← hD5] at hn5 hr5
  have heq : ∀ W : World, (Op.equalIn 10000 37 (.agg (cellsOf D5)) (.agg (cellsOf D5))).run Try.prog W = .ok true W := fun W => by
    have h := digEq D5 D5 hDl hDl W
    rw [decide_eq_true rfl] at h
    exact h
  obtain ⟨fs, hu⟩ := underlyingHdr
  obtain ⟨fb, hub⟩ := underlyingBlk
  have h32 : ∀ W : World, ∀ g, W.heap[g]? = some (.cells HC5 47 (0, 0)) → W.cell? ⟨g, 32, none⟩ = some (.int .u64 5) := fun W g h => by
    rw [hHC5] at h
    exact (hdr_facts hdr5_ok h).2.1
  have HZR := Lib.hid hZR
  have HZH := Lib.hid hZH
  have HE1 := Lib.hid he1
  have HE5 := Lib.hid he5
  have HN5 := Lib.hid hn5
  have HR5 := Lib.hid hr5
  have HBU1 := Lib.hid hbu1
  have HBU5 := Lib.hid hbu5
  have HD1 := Lib.hid hd1
  have HD5 := Lib.hid hd5
  have HEQ := Lib.hid heq
  have HU := Lib.hid hu
  have HUB := Lib.hid hub
  have H32 := Lib.hid h32
  have HBL := Lib.hid hBl
  have HPL := Lib.hid hpl
  have HP1 := Lib.hid hp1
  have HIH := Lib.hid (show (Try.prog.info? 47).map (·.size) = some HC5.size by rw [hsz5]; exact infoHdr)
  have HSH := Lib.hid (show ZH.size = HC5.size by rw [hsz5, hZH2])
  have HOH := Lib.hid (show HC5.all (·.oneCell') = true by rw [hHC5]; exact hdrCells_one _)
  have HHC5 := Lib.hid hHC5
  clear hZR hZH hZH2 he1 he5 hn5 hr5 hbu1 hbu5 hd1 hd5 heq hu hub h32 hBl hb1 hB1 hB5 hBC0 hHC5 hsz5 hD5 hDl hpl hp1 hnn hbb
  go_enter Try.func21, Try.ntmps21
  go_wp2_with ((with_reducible refine wpL_build_to 40 #[(1, .const (.int .u64 1)), (2, .const (.int .u64 200))] [(1, .int .u64 1), (2, .int .u64 200)] BC0 ?_ HBU1.out ?_); (exact ⟨rfl, rfl, by kernel_rfl⟩))
  refine (HE1.out _).mono ?_
  rintro e w1 ⟨v1, rfl, ho1, hb1⟩
  obtain ⟨a1, c1, rfl, -, -, -⟩ := ho1.len
  try simp only at ho1 ⊢
  have hat1 := ho1.at (F := fun _ => True) (fun _ _ _ _ => trivial) (by decide)
  have hBl := HBL.out
  rw [hBl] at hat1 ⊢
  have hdec := bdec_any _ w1 a1 38 c1 B1 hat1 (by omega)
  rw [HD1.out] at hdec
  have HDEC := Lib.hid hdec
  have HB1 := Lib.hid hb1
  clear ho1 hat1 hBl hdec hb1
  go_wp2_with fail
  refine HDEC.out.mono ?_
  rintro e w2 ⟨a2, n2, c2, rfl, -, hb2⟩
  try simp only
  have hp1 := HP1.out
  obtain ⟨BC1, hBC1⟩ : ∃ BC, BC = blkCells blk1.p blk1.nn blk1.bb (.slice a2 n2 c2) := ⟨_, rfl⟩
  rw [← hBC1]
  have h200 : ∀ W : World, ∀ g, W.heap[g]? = some (.cells BC1 40 (0, 0)) → W.cell? ⟨g, 33, none⟩ = some (.int .u64 200) := fun W g h => by
    rw [hBC1] at h
    exact (blk_facts blk1_ok.p h).2.2.1
  obtain ⟨W3, hW3⟩ : ∃ W : World, W = (w2.alloc (.cells ZR 40)).setRow w2.heap.size BC1 := ⟨_, rfl⟩
  have hz3 : (w2.alloc (.cells ZR 40)).heap[w2.heap.size]? = some (.cells ZR 40 (0, 0)) := heap_alloc_new w2 _
  have hk3 : W3.heap[w2.heap.size]? = some (.cells BC1 40 (0, 0)) := by rw [hW3]; exact setRow_heap _ _ _ _ _ _ hz3
  have hb3 : Below w2.heap.size w2 W3 := by rw [hW3]; exact below_setRow (Bel.alloc (Bel.refl w2) _) (Nat.le_refl _) _
  have hbw3 : Below w.heap.size w W3 := Bel.call (Bel.call HB1.out hb2) hb3
  have HI1 := Lib.hid (show (Try.prog.info? 40).map (·.size) = some BC1.size by rw [hBC1, blkCells_size _ _ _ _ blk1_ok.p]; exact infoBlk)
  have HS1 := Lib.hid (show ZR.size = BC1.size by rw [hBC1, blkCells_size _ _ _ _ blk1_ok.p, HZR.out]; rfl)
  have HO1 := Lib.hid (show BC1.all (·.oneCell') = true by rw [hBC1]; exact blkCells_one _ _ _ _ _ _)
  have HZ3 := Lib.hid hz3
  have HK3 := Lib.hid hk3
  have HBW3 := Lib.hid hbw3
  have HW3 := Lib.hid hW3
  have H200 := Lib.hid h200
  clear hp1 hBC1 h200 hW3 hz3 hk3 hb3 hbw3 hb2
  go_wp2_with (first
    | (rw [← HZR.out]; (with_reducible refine wpL_store_row 40 (.tmp 3) (.tmp 15) w2.heap.size BC1 40 ZR ?_ ⟨HZ3.out, HI1.out, HS1.out, HO1.out⟩ ?_); (exact ⟨rfl, rfl, rfl, rfl⟩); rw [← HW3.out])
    | ((with_reducible refine wpL_build_to 47 #[(1, .const (.int .u64 5))] [(1, .int .u64 5)] HC5 ?_ HBU5.out ?_); (exact ⟨rfl, rfl, by kernel_rfl⟩)))
  refine (HE5.out _).mono ?_
  rintro e w4 ⟨v4, rfl, ho4, hb4⟩
  obtain ⟨a4, c4, rfl, -, -, -⟩ := ho4.len
  have hat4 := ho4.at (F := fun _ => True) (fun _ _ _ _ => trivial) (by decide)
  obtain ⟨m4, hm4⟩ : ∃ m, m = B5.length := ⟨_, rfl⟩
  rw [← hm4] at hat4 ⊢
  have hdec := bhdec_any _ w4 a4 m4 c4 B5 hat4 (by omega)
  rw [HD5.out] at hdec
  try simp only at hdec
  have HDEC5 := Lib.hid hdec
  have HB4 := Lib.hid hb4
  clear ho4 hat4 hm4 hdec hb4
  go_wp2_with fail
  refine HDEC5.out.mono ?_
  rintro e w5 ⟨rfl, hb5⟩
  try simp only
  rw [← HHC5.out]
  obtain ⟨W6, hW6⟩ : ∃ W : World, W = (w5.alloc (.cells ZH 47)).setRow w5.heap.size HC5 := ⟨_, rfl⟩
  have hz6 : (w5.alloc (.cells ZH 47)).heap[w5.heap.size]? = some (.cells ZH 47 (0, 0)) := heap_alloc_new w5 _
  have hk6 : W6.heap[w5.heap.size]? = some (.cells HC5 47 (0, 0)) := by rw [hW6]; exact setRow_heap _ _ _ _ _ _ hz6
  have hb6 : Below w5.heap.size w5 W6 := by rw [hW6]; exact below_setRow (Bel.alloc (Bel.refl w5) _) (Nat.le_refl _) _
  have hb36 : Below W3.heap.size W3 W6 := Bel.call (Bel.call HB4.out hb5) hb6
  have hl3 := (Array.getElem?_eq_some_iff.1 HK3.out).1
  have hk36 := (hb36.block _ hl3).trans HK3.out
  have hbw6 := Bel.call HBW3.out hb36
  have hs6 := (Array.getElem?_eq_some_iff.1 hk6).1
  have hs36 := hb36.size
  obtain ⟨S, hS⟩ : ∃ S : World → Prop, S = fun W => Below W6.heap.size W6 W := ⟨_, rfl⟩
  have hkp : ∀ W : World, Below W6.heap.size W6 W → S W := fun W hW => by rw [hS]; exact hW
  have hrow : ∀ W : World, S W → W.heap[w5.heap.size]? = some (.cells HC5 47 (0, 0)) := fun W hW => by rw [hS] at hW; exact (hW.block _ hs6).trans hk6
  have hc3 : ∀ W : World, S W → W.cell? ⟨w2.heap.size, 33, none⟩ = some (.int .u64 200) := fun W hW => by rw [hS] at hW; exact H200.out W _ ((hW.block _ (by omega)).trans hk36)
  have hc5 : ∀ W : World, S W → W.cell? ⟨w5.heap.size, 32, none⟩ = some (.int .u64 5) := fun W hW => H32.out W _ (hrow W hW)
  have HZ6 := Lib.hid hz6
  have HW6 := Lib.hid hW6
  have HKP := Lib.hid hkp
  have HROW := Lib.hid hrow
  have HC3 := Lib.hid hc3
  have HCC5 := Lib.hid hc5
  have HBW6 := Lib.hid hbw6
  clear hb5 hW6 hz6 hk6 hb6 hb36 hl3 hk36 hbw6 hS hkp hrow hc3 hc5
  go_wp2_with (rw [← HZH.out]; (with_reducible refine wpL_store_row 47 (.tmp 5) (.tmp 21) w5.heap.size HC5 47 ZH ?_ ⟨HZ6.out, HIH.out, HSH.out, HOH.out⟩ ?_); (exact ⟨rfl, rfl, rfl, rfl⟩); rw [← HW6.out])
  refine wp_region_held_drew (S := S) (by kernel_rfl) (HKP.out _ (Bel.drew (Bel.refl W6))) (fun hHeld => ?_)
  refine wpAnyH_take (i := 0) (op_at rfl) (by kernel_rfl) (by kernel_rfl) (by kernel_rfl) (fun _ _ _ h => h) (Or.inl ⟨by rfl, by intro W hSw; go_simp; (try with_reducible rfl)⟩) hHeld ?_
  simp only [Act.put, List.setIfInBounds_toArray, List.set_cons_zero, List.set_cons_succ]
  refine wpAnyH_take (i := 1) (op_at rfl) (by kernel_rfl) (by kernel_rfl) (by kernel_rfl) (fun _ _ _ h => h) (Or.inl ⟨by rfl, by intro W hSw; go_simp; (try with_reducible rfl)⟩) hHeld ?_
  simp only [Act.put, List.setIfInBounds_toArray, List.set_cons_zero, List.set_cons_succ]
  refine wpAnyH_take (i := 2) (op_at rfl) (by kernel_rfl) (by kernel_rfl) (by kernel_rfl) (fun _ _ _ h => h) (Or.inl ⟨by rfl, by intro W hSw; go_simp; (try with_reducible rfl)⟩) hHeld ?_
  simp only [Act.put, List.setIfInBounds_toArray, List.set_cons_zero, List.set_cons_succ]
  refine wpAnyH_take (i := 3) (op_at rfl) (by kernel_rfl) (by kernel_rfl) (by kernel_rfl) (fun _ _ _ h => h) (Or.inl ⟨by rfl, by intro W hSw; go_simp; (try with_reducible rfl)⟩) hHeld ?_
  simp only [Act.put, List.setIfInBounds_toArray, List.set_cons_zero, List.set_cons_succ]
  refine wpAnyH_take (i := 4) (op_at rfl) (by kernel_rfl) (by kernel_rfl) (by kernel_rfl) (fun _ _ _ h => h) (Or.inl ⟨by rfl, by intro W hSw; go_simp; (try with_reducible rfl)⟩) hHeld ?_
  simp only [Act.put, List.setIfInBounds_toArray, List.set_cons_zero, List.set_cons_succ]
  refine wpAnyH_take (i := 5) (op_at rfl) (by kernel_rfl) (by kernel_rfl) (by kernel_rfl) (fun _ _ _ h => h) (Or.inl ⟨by rfl, by intro W hSw; go_simp; (try with_reducible rfl)⟩) hHeld ?_
  simp only [Act.put, List.setIfInBounds_toArray, List.set_cons_zero, List.set_cons_succ]
  refine wpAnyH_take (i := 6) (op_at rfl) (by kernel_rfl) (by kernel_rfl) (by kernel_rfl) (fun _ _ _ h => h) (Or.inl ⟨by rfl, by intro W hSw; go_simp; (try with_reducible rfl)⟩) hHeld ?_
  simp only [Act.put, List.setIfInBounds_toArray, List.set_cons_zero, List.set_cons_succ]
  refine wpAnyH_take (i := 7) (op_at rfl) (by kernel_rfl) (by kernel_rfl) (by kernel_rfl) (fun _ _ _ h => h) (Or.inl ⟨by rfl, by intro W hSw; go_simp; (try with_reducible rfl)⟩) hHeld ?_
  simp only [Act.put, List.setIfInBounds_toArray, List.set_cons_zero, List.set_cons_succ]
  refine wpAnyH_take (i := 8) (op_at rfl) (by kernel_rfl) (by kernel_rfl) (by kernel_rfl) (fun _ _ _ h => h) (Or.inl ⟨by rfl, by intro W hSw; go_simp; (try with_reducible rfl)⟩) hHeld ?_
  simp only [Act.put, List.setIfInBounds_toArray, List.set_cons_zero, List.set_cons_succ]
  refine wpAnyH_take (i := 9) (op_at rfl) (by kernel_rfl) (by kernel_rfl) (by kernel_rfl) (fun _ _ _ h => h) (Or.inl ⟨by rfl, by intro W hSw; go_simp; (try with_reducible rfl)⟩) hHeld ?_
  simp only [Act.put, List.setIfInBounds_toArray, List.set_cons_zero, List.set_cons_succ]
  refine wpAnyH_take (i := 10) (op_at rfl) (by kernel_rfl) (by kernel_rfl) (by kernel_rfl) (fun _ _ _ h => h) (Or.inl ⟨by rfl, by intro W hSw; go_simp; (try with_reducible rfl)⟩) hHeld ?_
  simp only [Act.put, List.setIfInBounds_toArray, List.set_cons_zero, List.set_cons_succ]
  refine wpAnyH_take (i := 11) (op_at rfl) (by kernel_rfl) (by kernel_rfl) (by kernel_rfl) (fun _ _ _ h => h) (Or.inl ⟨by rfl, by intro W hSw; go_simp; (try with_reducible rfl)⟩) hHeld ?_
  simp only [Act.put, List.setIfInBounds_toArray, List.set_cons_zero, List.set_cons_succ]
  refine wpAnyH_take (i := 12) (op_at rfl) (by kernel_rfl) (by kernel_rfl) (by kernel_rfl) (fun _ _ _ h => h) (Or.inl ⟨by rfl, by intro W hSw; go_simp; (try with_reducible rfl)⟩) hHeld ?_
  simp only [Act.put, List.setIfInBounds_toArray, List.set_cons_zero, List.set_cons_succ]
  refine wpAnyH_take (i := 13) (op_at rfl) (by kernel_rfl) (by kernel_rfl) (by kernel_rfl) (fun _ _ _ h => h) (Or.inl ⟨by rfl, by intro W hSw; have hc := HC3.out W hSw; go_simp; (try with_reducible rfl)⟩) hHeld ?_
  simp only [Act.put, List.setIfInBounds_toArray, List.set_cons_zero, List.set_cons_succ]
  refine wpAnyH_take (i := 14) (op_at rfl) (by kernel_rfl) (by kernel_rfl) (by kernel_rfl) (fun _ _ _ h => h) (Or.inl ⟨by rfl, by intro W hSw; go_simp; (try with_reducible rfl)⟩) hHeld ?_
  simp only [Act.put, List.setIfInBounds_toArray, List.set_cons_zero, List.set_cons_succ]
  refine wpAnyH_take (i := 15) (op_at rfl) (by kernel_rfl) (by kernel_rfl) (by kernel_rfl) (fun _ _ _ h => h) (Or.inl ⟨by rfl, by intro W hSw; go_simp; (try with_reducible rfl)⟩) hHeld ?_
  simp only [Act.put, List.setIfInBounds_toArray, List.set_cons_zero, List.set_cons_succ]
  refine wpAnyH_take (i := 16) (op_at rfl) (by kernel_rfl) (by kernel_rfl) (by kernel_rfl) (fun _ _ _ h => h) (Or.inl ⟨by rfl, by intro W hSw; go_simp; (try with_reducible rfl)⟩) hHeld ?_
  simp only [Act.put, List.setIfInBounds_toArray, List.set_cons_zero, List.set_cons_succ]
  refine wpAnyH_take (i := 17) (op_at rfl) (by kernel_rfl) (by kernel_rfl) (by kernel_rfl) (fun _ _ _ h => h) (Or.inl ⟨by rfl, by intro W hSw; go_simp; (try with_reducible rfl)⟩) hHeld ?_
  simp only [Act.put, List.setIfInBounds_toArray, List.set_cons_zero, List.set_cons_succ]
  refine wpAnyH_take (i := 18) (op_at rfl) (by kernel_rfl) (by kernel_rfl) (by kernel_rfl) (fun _ _ _ h => h) (Or.inl ⟨by rfl, by intro W hSw; go_simp; (try with_reducible rfl)⟩) hHeld ?_
  simp only [Act.put, List.setIfInBounds_toArray, List.set_cons_zero, List.set_cons_succ]
  refine wpAnyH_take (i := 19) (op_at rfl) (by kernel_rfl) (by kernel_rfl) (by kernel_rfl) (fun _ _ _ h => h) (Or.inl ⟨by rfl, by intro W hSw; go_simp; (try with_reducible rfl)⟩) hHeld ?_
  simp only [Act.put, List.setIfInBounds_toArray, List.set_cons_zero, List.set_cons_succ]
  refine wpAnyH_take (i := 20) (op_at rfl) (by kernel_rfl) (by kernel_rfl) (by kernel_rfl) (fun _ _ _ h => h) (Or.inl ⟨by rfl, by intro W hSw; go_simp; (try with_reducible rfl)⟩) hHeld ?_
  simp only [Act.put, List.setIfInBounds_toArray, List.set_cons_zero, List.set_cons_succ]
  refine wpAnyH_take (i := 21) (op_at rfl) (by kernel_rfl) (by kernel_rfl) (by kernel_rfl) (fun _ _ _ h => h) (Or.inl ⟨by rfl, by intro W hSw; go_simp; (try with_reducible rfl)⟩) hHeld ?_
  simp only [Act.put, List.setIfInBounds_toArray, List.set_cons_zero, List.set_cons_succ]
  refine wpAnyH_take (i := 22) (op_at rfl) (by kernel_rfl) (by kernel_rfl) (by kernel_rfl) (fun _ _ _ h => h) (Or.inl ⟨by rfl, by intro W hSw; have hc := HCC5.out W hSw; go_simp; (try with_reducible rfl)⟩) hHeld ?_
  simp only [Act.put, List.setIfInBounds_toArray, List.set_cons_zero, List.set_cons_succ]
  refine wpAnyH_take (i := 23) (op_at rfl) (by kernel_rfl) (by kernel_rfl) (by kernel_rfl) (fun _ _ _ h => h) (Or.inl ⟨by rfl, by intro W hSw; go_simp; (try with_reducible rfl)⟩) hHeld ?_
  simp only [Act.put, List.setIfInBounds_toArray, List.set_cons_zero, List.set_cons_succ]
  refine wpAnyH_take (i := 24) (op_at rfl) (by kernel_rfl) (by kernel_rfl) (by kernel_rfl) (fun _ _ _ h => h) (Or.inl ⟨by rfl, by intro W hSw; go_simp; (try with_reducible rfl)⟩) hHeld ?_
  simp only [Act.put, List.setIfInBounds_toArray, List.set_cons_zero, List.set_cons_succ]
  refine wpAnyH_take (i := 25) (op_at rfl) (by kernel_rfl) (by kernel_rfl) (by kernel_rfl) (fun _ _ _ h => h) (Or.inl ⟨by rfl, by intro W hSw; go_simp; (try with_reducible rfl)⟩) hHeld ?_
  simp only [Act.put, List.setIfInBounds_toArray, List.set_cons_zero, List.set_cons_succ]
  refine wpAnyH_take (i := 26) (op_at rfl) (by kernel_rfl) (by kernel_rfl) (by kernel_rfl) (fun _ _ _ h => h) (yieldsIf_load_row (by rfl) 47 (.tmp 5) rfl w5.heap.size rfl HC5 47 (.struct fs) HROW.out HU.out rfl HIH.out) hHeld ?_
  simp only [Act.put, List.setIfInBounds_toArray, List.set_cons_zero, List.set_cons_succ]
  refine wpAnyH_take (i := 28) (op_at rfl) (by kernel_rfl) (by kernel_rfl) (by kernel_rfl) (fun _ _ _ h => h) (yieldsIf_load_row (by rfl) 47 (.tmp 5) rfl w5.heap.size rfl HC5 47 (.struct fs) HROW.out HU.out rfl HIH.out) hHeld ?_
  simp only [Act.put, List.setIfInBounds_toArray, List.set_cons_zero, List.set_cons_succ]
  refine wpAnyH_ready (rs := [27]) (by kernel_rfl) (by simp) (AllReadyH.cons (op_at rfl) (fun K hK => ?_) AllReadyH.nil)
  clear hHeld
  go_simp
  go_at_call 29
  refine (HN5.out _).mono ?_
  rintro e w7 ⟨rfl, hb7⟩
  have hB7 : Below W6.heap.size W6 w7 := Bel.call (Bel.drew (Bel.refl W6)) hb7
  clear hb7
  go_wp2_with fail
  refine hK.out _ _ (HKP.out _ hB7) (fun hHeld => ?_)
  clear hK K
  try simp only [Act.put, List.setIfInBounds_toArray, List.set_cons_zero, List.set_cons_succ]
  refine wpAnyH_ready (rs := [29]) (by kernel_rfl) (by simp) (AllReadyH.cons (op_at rfl) (fun K hK => ?_) AllReadyH.nil)
  clear hHeld
  go_simp
  go_at_call 30
  refine (HR5.out _).mono ?_
  rintro e w8 ⟨rfl, hb8⟩
  have hB8 : Below W6.heap.size W6 w8 := Bel.call hB7 hb8
  clear hb8
  go_wp2_with fail
  refine hK.out _ _ (HKP.out _ hB8) (fun hHeld => ?_)
  clear hK K
  try simp only [Act.put, List.setIfInBounds_toArray, List.set_cons_zero, List.set_cons_succ]
  refine wpAnyH_take (i := 30) (op_at rfl) (by kernel_rfl) (by kernel_rfl) (by kernel_rfl) (fun _ _ _ h => h) (Or.inl ⟨by rfl, by intro W hSw; have hc := HEQ.out W; go_simp; (try with_reducible rfl)⟩) hHeld ?_
  simp only [Act.put, List.setIfInBounds_toArray, List.set_cons_zero, List.set_cons_succ]
  refine wpAnyH_take (i := 31) (op_at rfl) (by kernel_rfl) (by kernel_rfl) (by kernel_rfl) (fun _ _ _ h => h) (Or.inl ⟨by rfl, by intro W hSw; go_simp; (try with_reducible rfl)⟩) hHeld ?_
  simp only [Act.put, List.setIfInBounds_toArray, List.set_cons_zero, List.set_cons_succ]
  refine wpAnyH_take (i := 32) (op_at rfl) (by kernel_rfl) (by kernel_rfl) (by kernel_rfl) (fun _ _ _ h => h) (Or.inl ⟨by rfl, by intro W hSw; go_simp; (try with_reducible rfl)⟩) hHeld ?_
  simp only [Act.put, List.setIfInBounds_toArray, List.set_cons_zero, List.set_cons_succ]
  refine wpAnyH_done (by kernel_rfl) ?_ _
  have HEND := Lib.hid (HBW6.out.trans (hB8.mono (by have := HBW6.out.size; omega)))
  clear hB7 hB8
  go_wp2_with fail
  go_ret
  exact ⟨rfl, HEND.out⟩
end Go.Proofs.Ytndkkgkcbbmnpaa
namespace Go.Pg
open Go.RowKit
section
variable {α : Type}
theorem step_append_any {P : Program} {ops : Array Oper} {o : Oper} {a : Act} {w : World} {K : Act → World → Prop} {Q : Exit → Act → World → Prop} {E : Prop} (hgd : o.guard = none) (s x : Operand) (t : TypeId)
    (ho : o.op = .call { callee := .builtin .append, args := #[s, x], argTypes := #[t, t] })
    (base : Nat) (e : TypeId) (i : TypeInfo) (z : Value) (sz bytes : Nat) (ht : P.underlying t = some (.slice e)) (hi : P.info? e = some i) (hz : i.zero = some z)
    (hsize : i.size = sz) (hby : i.bytes = bytes) (hzs : z.cells.size = sz) (hsz : 0 < sz) (hb0 : 0 < bytes)
    {R : List Value → α → Prop} (hR1 : ∀ cs x, R cs x → ∀ u ∈ cs, u.oneCell' = true)
    (v : Value) (l : List α) (hs : a.eval s = v) (hown : OwnAt w base e sz R v l)
    (u : Value) (m : List α) (F : Nat → Prop) (hx : a.eval x = u) (hsrc : SliceAt F w sz R u m)
    (hbytes : (l.length + m.length) * bytes ≤ 140737488355328) (hbase : base ≤ w.heap.size)
    (h : ∀ v' w', OwnAt w' base e sz R v' (l ++ m) → w.grownBy w' v.ownBlock → Moved w v v' → K (a.put o.dst v') w') :
    if Region.wanted o (yielded ops a.tmps) = true then Oper.wp P o a w K Q else E := by
  have hw : Region.wanted o (yielded ops a.tmps) = true := by simp [Region.wanted, hgd]
  rw [if_pos hw]
  obtain ⟨xs, h1, h2⟩ := hown
  have h63 : l.length + m.length ≤ maxLen := by
    have : l.length + m.length ≤ (l.length + m.length) * bytes := Nat.le_mul_of_pos_right _ hb0
    unfold maxLen; omega
  have done : ∀ (ad : Addr) (n c : Nat) (news : List Value), u = .slice (some ad) n c → n = m.length → Rows sz R news m → (∀ j u, news[j]? = some u → w.cell? (ad.add j) = some u) → Oper.wp P o a w K Q := by
    intro ad n c news hu hn hr hc
    subst hn
    obtain ⟨v', w', r1, r2, r3, r4⟩ := run_append_where (P := P) w base t o.type e i z sz bytes ht hi hz hsize hby hzs hsz v l.length xs h1 ad m.length c news hr.1 hc (hr.each hsz _ hR1) h63 hbytes hbase
    unfold Oper.wp execOp
    simp only [ho, resolve, invoke, builtin, Sem.run_bind, Sem.run_pure, Result.andThen_ok, List.map_toArray, List.map_cons, List.map_nil, hs, hx, hu, r1]
    exact h v' w' ⟨xs ++ news, by simpa using r2, h2.append hr⟩ r3 r4
  rcases SliceAt.cases hsrc with ⟨rfl, a', c, hv, hnc, hm⟩ | ⟨b, off, c, hv, hl, hc, hm, hF⟩
  · cases a' with
    | some ad => exact done ad 0 c [] hv rfl (Rows.nil _ _) (fun j u hu => by simp at hu)
    | none =>
      have := hnc rfl
      subst this
      have hrun := run_append_owned_none (P := P) (w := w) base t o.type e i sz ht hi v l.length xs h1
      have hxx := hx.trans hv
      unfold Oper.wp
      simp [execOp, ho, resolve, invoke, builtin, hs, hxx, hrun, Result.andThen]
      exact h v w ⟨xs, by simpa using h1, by simpa using h2⟩ ⟨rfl, rfl, rfl, Nat.le_refl _, fun _ _ _ => rfl⟩ (fun g hg => .inl hg)
  · subst hv
    obtain ⟨news, k1, k2⟩ := SliceAt.rows hsrc
    refine done ⟨b, off, none⟩ _ c news rfl rfl k1 fun j u hu => ?_
    have : (⟨b, off, none⟩ : Addr).add j = ⟨b, off + j, none⟩ := by unfold Addr.add; split <;> simp_all
    rw [this]; exact k2 j u hu
end
section
variable {P : Program}
/-- the load of a whole row, its guard decided -/
theorem wpL_load_row_w {ops : Array Oper} {rest : List Oper} {o : Oper} {a : Act} {w : World} {Q : Exit → Act → World → Prop} (ty : TypeId) (x : Operand) (g : Nat) (cs : Array Value) (t : TypeId) (d : TypeDesc)
    (hc : o.op = .load ty x ∧ a.eval x = .pointer (some ⟨g, 0, none⟩) ∧ Region.wanted o (yielded ops a.tmps) = true)
    (hf : w.heap[g]? = some (.cells cs t (0, 0)) ∧ P.underlying ty = some d ∧ (match d with | .struct _ | .array _ _ => true | _ => false) = true ∧ (P.info? ty).map (·.size) = some cs.size)
    (h : wpList P ops Q rest (a.put o.dst (.agg cs)) w) : wpList P ops Q (o :: rest) a w :=
  wpList_wanted hc.2.2 fun K hK => wp_load_row ty x hc.1 g hc.2.1 t cs (0, 0) d hf.1 hf.2.1 (by have := hf.2.2.1; cases d <;> exact this) hf.2.2.2 (hK _ _ h)
end
theorem text_whole_all (b : List UInt8) (h : b.length ≤ 16777215) : (It.text b).whole ≤ b.length + 4 := by
  have := number_le 3 b.length (by omega)
  simp only [It.whole]; unfold sz; repeat' split
  all_goals omega
theorem wholes_rows (l : List (List UInt8)) (n : Nat) (h : (l.map fun x => x.length + 1).sum = n) (hn : n ≤ 1048576) : It.wholes (l.map .text) ≤ 4 * n := by
  induction l generalizing n with
  | nil => simp [It.wholes]
  | cons x r ih =>
    simp only [List.map_cons, List.sum_cons] at h
    have h1 := text_whole_all x (by omega)
    have h2 := ih _ rfl (by omega)
    simp only [List.map_cons, It.wholes]; omega
theorem sz_le4 (n : Nat) (h : n ≤ 16777215) : sz n ≤ n + 4 := by
  have := number_le 3 n (by omega)
  unfold sz; split <;> omega
theorem blk_whole (b : Blk) (ho : b.ok) (n : Nat) (h : (b.T.map fun x => x.length + 1).sum = n) (hn : n ≤ 1048576) : (blkI b.p b.nn b.bb b.T).whole ≤ 16777215 := by
  have h1 := wholes_rows b.T n h hn
  have h2 := sz_le4 (It.wholes (b.T.map .text)) (by omega)
  have h3 : (textsI b.T).whole = sz (It.wholes (b.T.map .text)) := by simp [textsI, It.whole]
  have a1 := text_whole_le b.p (by rw [ho.p]; omega)
  have a2 := text_whole_le (wordB b.nn) (by have := wordB_le _ ho.nn; omega)
  have a3 := text_whole_le (wordB b.bb) (by have := wordB_le _ ho.bb; omega)
  have b2 := wordB_le _ ho.nn
  have b3 := wordB_le _ ho.bb
  have b1 := ho.p
  have h4 : (blkI b.p b.nn b.bb b.T).whole = sz (It.wholes [.text b.p, .text (wordB b.nn), .text (wordB b.bb), textsI b.T]) := by simp [blkI, It.whole]
  have h5 : It.wholes [.text b.p, .text (wordB b.nn), .text (wordB b.bb), textsI b.T] = (It.text b.p).whole + ((It.text (wordB b.nn)).whole + ((It.text (wordB b.bb)).whole + (textsI b.T).whole)) := by simp [It.wholes]
  have h6 := sz_le4 (It.wholes [.text b.p, .text (wordB b.nn), .text (wordB b.bb), textsI b.T]) (by omega)
  omega
/-- what is read is small -/
theorem blkDecode_small (bs : List UInt8) (b : Blk) (d : Nat) (h : blkDecode bs = (b, d)) : b.T.length ≤ bs.length ∧ (d = 0 → (blkI b.p b.nn b.bb b.T).whole = bs.length) := by
  rw [blkDecode_eq] at h
  unfold refBlkDecode at h
  split at h
  · rename_i x
    simp only [Prod.mk.injEq] at h
    obtain ⟨rfl, rfl⟩ := h
    obtain ⟨-, h2⟩ := blk_of_enc _ _ x.2.2
    have h3 := It.enc_length (blkOf (rdWhole bs).2.items).item
    rw [← h2] at h3
    refine ⟨?_, fun _ => h3.symm⟩
    generalize blkOf (rdWhole bs).2.items = b at h3 ⊢
    have e1 := items_le_whole (textsI b.T)
    have e2 : (textsI b.T).items.length = b.T.length := by rw [textsI_items, List.length_map]
    have e3 := whole_le_mem b.item.items (textsI b.T) (by unfold Blk.item; simp [blkI, It.items])
    have e4 := It.body_le_whole b.item
    have e5 := It.body_eq b.item
    omega
  · simp only [Prod.mk.injEq] at h
    obtain ⟨rfl, rfl⟩ := h
    exact ⟨by simp [blk0], fun h => by cases h⟩
end Go.Pg
namespace Go.Proofs.Ytndkkgkcbbmnpaa
open Go.RowKit Go.Pg
/-- a block's transactions are being copied into the box g -/
structure GTx (wc : World) (g : Nat) (p : List UInt8) (nn bb : Nat) (wr : World) (T : List (List UInt8)) (v : Value) : Prop where
  chg : Chg (fun k => k = g) wc wr
  box : wr.heap[g]? = some (.cells (blkCells p nn bb v) 40 (0, 0))
  own : OwnList rowR (fun b => wc.heap.size ≤ b) wc.heap.size wr 25 1 v T
  lt : g < wc.heap.size
  len : p.length = 32
theorem GTx.push {wc : World} {g : Nat} {p : List UInt8} {nn bb : Nat} {wr : World} {T : List (List UInt8)} {v : Value} (h : GTx wc g p nn bb wr T v) {w5 : World} (hb : Below wr.heap.size wr w5) {a : Option Addr} {n c : Nat} {y : List UInt8}
    (k1 : BytesAt (fun b => wr.heap.size ≤ b) w5 (.slice a n c) y) :
    ∃ R : List Value → List UInt8 → Prop, (∀ cs x, R cs x → ∀ u ∈ cs, u.oneCell' = true) ∧ OwnAt (w5.alloc (.cells #[.slice a n c] 25)) wc.heap.size 25 1 R v T ∧
      SliceAt (fun _ => True) (w5.alloc (.cells #[.slice a n c] 25)) 1 R (.slice (some ⟨w5.heap.size, 0, none⟩) 1 1) [y] ∧ wc.heap.size ≤ (w5.alloc (.cells #[.slice a n c] 25)).heap.size ∧
      w5.cell? ⟨g, 34, none⟩ = some v ∧ (w5.alloc (.cells #[.slice a n c] 25)).cell? ⟨g, 34, none⟩ = some v ∧
      (∀ k, k < wc.heap.size → k ≠ g → w5.heap[k]? = wc.heap[k]?) ∧ (∀ k, k < wc.heap.size → k ≠ g → (w5.alloc (.cells #[.slice a n c] 25)).heap[k]? = wc.heap[k]?) ∧
      ∀ g' cap n' W2, OwnAt W2 wc.heap.size 25 1 R (.slice (some ⟨g', 0, none⟩) n' cap) (T ++ [y]) → (w5.alloc (.cells #[.slice a n c] 25)).grownBy W2 v.ownBlock →
        Moved (w5.alloc (.cells #[.slice a n c] 25)) v (.slice (some ⟨g', 0, none⟩) n' cap) →
        W2.heap[g]? = some (.cells (blkCells p nn bb v) 40 (0, 0)) ∧ (∀ k, k < wc.heap.size → k ≠ g → W2.heap[k]? = wc.heap[k]?) ∧
        GTx wc g p nn bb (W2.setCell ⟨g, 34, none⟩ (.slice (some ⟨g', 0, none⟩) n' cap)) (T ++ [y]) (.slice (some ⟨g', 0, none⟩) n' cap) := by
  have hsz := h.chg.size
  have hown := h.own.own
  have hs5 := hb.size
  have hlt := h.lt
  have ho5 := h.own.call carriedRow hb
  have hbox5 := (hb.block g (by omega)).trans h.box
  have hold : ∀ k, k < wc.heap.size → k ≠ g → w5.heap[k]? = wc.heap[k]? := fun k hk hn => (hb.block k (by omega)).trans (h.chg.block k hk hn)
  have c34 := (blk_facts h.len hbox5).2.2.2
  have hboxA := (Below.heap_alloc w5 (.cells #[.slice a n c] 25) g (by omega)).trans hbox5
  obtain ⟨R, g1, g2, g3, g4⟩ := ho5.push carriedRow (H := fun b => wr.heap.size ≤ b) (cs := [.slice a n c]) (x := y) ⟨_, rfl, k1⟩ rfl (by decide) (fun b _ hb => ⟨by omega, fun e => by have := (hown b e).2; omega⟩) 25
  refine ⟨R, g1, g2, g3, by simp; omega, c34, (blk_facts h.len hboxA).2.2.2, hold, fun k hk hn => (Below.heap_alloc _ _ _ (by omega)).trans (hold k hk hn), fun g' cap n' W2 ho hg hm => ?_⟩
  have hOn := g4 _ W2 ho hg hm
  have hnew := hOn.own
  have hsg := hg.size
  simp only [World.size_alloc] at hsg
  have hW2 : ∀ k, k < wc.heap.size → W2.heap[k]? = w5.heap[k]? := fun k hk => by
    rw [hg.block k (by simp; omega) (fun e => by have := (hown k e.symm).1; omega)]
    exact Below.heap_alloc _ _ _ (by omega)
  have hbox2 := (hW2 g hlt).trans hbox5
  refine ⟨hbox2, fun k hk hn => (hW2 k hk).trans (hold k hk hn), ⟨?_, ?_, ?_, h.lt, h.len⟩⟩
  · refine ⟨hg.os.trans (hb.os.trans h.chg.os), hg.tape.trans (hb.tape.trans h.chg.tape), hg.output.trans (hb.output.trans h.chg.output), by simp [World.setCell]; omega, fun k hk hn => ?_⟩
    rw [Below.heap_setCell _ _ _ _ (by show k ≠ g; exact hn), hW2 k hk]
    exact hold k hk hn
  · have := blk_set (i := 34) (v := .slice (some ⟨g', 0, none⟩) n' cap) hbox2
    rw [blkCells_set _ _ _ _ _ h.len] at this
    exact this
  · exact hOn.carry carriedRow (by simp) (fun b hb hlt => Below.heap_setCell _ _ _ _ (by show b ≠ g; have : wc.heap.size ≤ b := hb; omega)) (fun k hk => Below.heap_setCell _ _ _ _ (by have := (hnew k hk).1; show k ≠ g; omega))
end Go.Proofs.Ytndkkgkcbbmnpaa
namespace Go.Proofs.Ytndkkgkcbbmnpaa
open Go.RowKit Go.Pg

/-- an item with the place behind it, or a fault -/
def RFirstd (w : World) (D en : Nat) (r : Nat × It × List UInt8) (e : Ending) (w' : World) : Prop :=
  ∃ l a1 n1 c1 a3 n3 c3 m, e = .returned (.tuple #[.agg #[.bool l, .slice a1 n1 c1, .slice a3 n3 c3], .int .i64 ((m : Nat) : Int), .int .i64 r.1]) ∧
    (r.1 = 0 → m + r.2.2.length = en) ∧ (r.1 ≠ 0 → m = 0) ∧ ItemAt (fresh w) w' D [.bool l, .slice a1 n1 c1, .slice a3 n3 c3] r.2.1 ∧ Below w.heap.size w w'
def RFirstC (f : Nat) : Prop := ∀ (F : Nat → Prop) (w : World) (a : Option Addr) (pi ei di : Int) (n c p en deep : Nat) (B : List UInt8), pi = p → ei = en → di = deep → BytesAt F w (.slice a n c) B → p ≤ en → en ≤ n → n ≤ 140737488351232 → deep + f = 8 →
  Calls Try.prog 96 #[.slice a n c, .int .i64 pi, .int .i64 ei, .int .i64 di] w (RFirstd w (f + 1) en (rdItem f (seg B p en)))
/-- a list with its end, or a fault -/
def RItemsd (w : World) (D en : Nat) (r : Nat × List It) (e : Ending) (w' : World) : Prop :=
  ∃ l a1 n1 c1 a3 n3 c3 m, e = .returned (.tuple #[.agg #[.bool l, .slice a1 n1 c1, .slice a3 n3 c3], .int .i64 ((m : Nat) : Int), .int .i64 r.1]) ∧
    (r.1 = 0 → m = en) ∧ (r.1 ≠ 0 → m = 0) ∧ ItemAt (fresh w) w' D [.bool l, .slice a1 n1 c1, .slice a3 n3 c3] (if r.1 = 0 then .list r.2 else .text []) ∧ Below w.heap.size w w'
def RItemsC (f : Nat) : Prop := ∀ (F : Nat → Prop) (w : World) (a : Option Addr) (pi ei di : Int) (n c p en deep : Nat) (B : List UInt8), pi = p → ei = en → di = deep → BytesAt F w (.slice a n c) B → p ≤ en → en ≤ p + 16777215 → en ≤ n → n ≤ 140737488351232 → deep + f = 8 →
  Calls Try.prog 112 #[.slice a n c, .int .i64 pi, .int .i64 ei, .int .i64 di] w (RItemsd w (f + 2) en (rdAll (rdItem f) (en - p) (seg B p en)))

/-- the end at a fault -/
theorem RFirstd.bad {w W : World} {D en k : Nat} {r : Nat × It × List UInt8} {i j : Int} (hr : r = (k, .text [], [])) (hk : k ≠ 0) (hi : i = 0) (hj : j = k) (h1 : Below w.heap.size w W) :
    RFirstd w (D + 1) en r (.returned (.tuple #[.agg #[.bool false, .slice none 0 0, .slice none 0 0], .int .i64 i, .int .i64 j])) W := by
  subst hi hj
  rw [hr]
  exact ⟨false, none, 0, 0, none, 0, 0, 0, rfl, fun h => absurd h hk, fun _ => rfl, ⟨_, _, rfl, BytesAt.nil _ _, SliceAt.nil _ _ _ _⟩, h1⟩

set_option maxRecDepth 100000 in
set_option maxHeartbeats 1000000 in
theorem rfirst_end (f : Nat) (w : World) (a : Option Addr) (n c p deep : Nat) (B : List UInt8) :
    Calls Try.prog 96 #[.slice a n c, .int .i64 p, .int .i64 p, .int .i64 deep] w (RFirstd w (f + 1) p (rdItem f (seg B p p))) := by
  have hr : rdItem f (seg B p p) = (22, .text [], []) := by rw [seg_nil B p p (Nat.le_refl _)]; cases f <;> rfl
  have HR := Lib.hid hr
  have hlt : ((p : Int) ≤ (p : Int)) := Int.le_refl _
  clear hr
  go_enter Try.func96, Try.ntmps96
  go_wp2_with fail
  refine bodyPost_ret (v := .tuple #[.agg #[.bool false, .slice none 0 0, .slice none 0 0], .int .i64 0, .int .i64 22]) (by simp [results, Try.results96, go_sem]) rfl ?_
  rw [HR.out]
  exact RFirstd.bad (k := 22) rfl (by decide) rfl rfl (Bel.alloc (Bel.refl w) _)

set_option maxRecDepth 100000 in
set_option maxHeartbeats 2000000 in
theorem rfirst_plain (f : Nat) (w : World) (n c p en deep : Nat) (B : List UInt8) (b o : Nat) (x : UInt8) (t : List UInt8)
    (HB : Hid (BytesAt (fun b => b < w.heap.size) w (.slice (some ⟨b, o, none⟩) n c) B)) (HNB : Hid (n = B.length)) (HCELL : Hid (∀ (i : Nat), i < B.length → w.cell? ⟨b, o + i, none⟩ = some (.int .u8 ((B.getD i 0).toNat : Int))))
    (hp : p < en) (hen : en ≤ n) (hn : n ≤ 140737488351232) (hd : deep + f = 8) (hnc : n ≤ c) (hcm : c ≤ 2 ^ 63 - 1) (hbw : b < w.heap.size) (hc0 : w.cell? ⟨b, o + p, none⟩ = some (.int .u8 (x.toNat : Int))) (HT : Hid (t = seg B (p + 1) en)) (h128 : (x.toNat : Int) < 128) :
    Calls Try.prog 96 #[.slice (some ⟨b, o, none⟩) n c, .int .i64 p, .int .i64 en, .int .i64 deep] w (RFirstd w (f + 1) en (rdItem f (x :: t))) := by
  have hxl := x.toNat_lt
  have hr1 : x.toNat < 128 := by omega
  have hr : rdItem f (x :: t) = (0, .text [x], t) := by unfold rdItem; rw [if_pos hr1]
  have HR := Lib.hid hr
  clear hr hr1
  go_enter Try.func96, Try.ntmps96
  go_wp2_with fail

  refine bodyPost_ret (v := .tuple #[.agg #[.bool false, .slice (some ⟨w.heap.size + 1, 0, none⟩) 1 1, .slice none 0 0], .int .i64 ((p : Int) + 1), .int .i64 0]) (by simp [results, Try.results96, go_sem]) rfl ?_
  rw [HR.out]
  refine ⟨false, some ⟨w.heap.size + 1, 0, none⟩, 1, 1, none, 0, 0, p + 1, rfl, fun _ => ?_, fun h => absurd rfl h, ⟨_, _, rfl, ?_, SliceAt.nil _ _ _ _⟩, Bel.alloc (Bel.alloc (Bel.refl w) _) _⟩
  · show p + 1 + t.length = en
    rw [HT.out, seg_len _ _ _ (by have := HNB.out; omega)]; omega
  · have := (OwnAt.lit' (w.alloc (.cells #[.bool false, .slice (some ⟨w.heap.size + 1, 0, none⟩) 1 1, .slice none 0 0] 65)) 5 x).at (F := fresh w) (fun g _ hg _ => by simp only [World.size_alloc] at hg; show w.heap.size ≤ g; omega) (by decide)
    simp only [World.size_alloc] at this
    exact this
set_option maxRecDepth 100000 in
set_option maxHeartbeats 2000000 in
theorem rfirst_deep (f : Nat) (w : World) (n c p en deep : Nat) (B : List UInt8) (b o : Nat) (x : UInt8) (t : List UInt8)
    (HB : Hid (BytesAt (fun b => b < w.heap.size) w (.slice (some ⟨b, o, none⟩) n c) B)) (HNB : Hid (n = B.length)) (HCELL : Hid (∀ (i : Nat), i < B.length → w.cell? ⟨b, o + i, none⟩ = some (.int .u8 ((B.getD i 0).toNat : Int))))
    (hp : p < en) (hen : en ≤ n) (hn : n ≤ 140737488351232) (hd : deep + f = 8) (hnc : n ≤ c) (hcm : c ≤ 2 ^ 63 - 1) (hbw : b < w.heap.size) (hc0 : w.cell? ⟨b, o + p, none⟩ = some (.int .u8 (x.toNat : Int))) (HT : Hid (t = seg B (p + 1) en)) (h192 : (192 : Int) ≤ (x.toNat : Int)) (hf : f = 0) :
    Calls Try.prog 96 #[.slice (some ⟨b, o, none⟩) n c, .int .i64 p, .int .i64 en, .int .i64 deep] w (RFirstd w (f + 1) en (rdItem f (x :: t))) := by
  have hxl := x.toNat_lt
  subst hf
  have hr1 : ¬ x.toNat < 128 := by omega
  have hr2 : ¬ x.toNat < 192 := by omega
  have hr : rdItem 0 (x :: t) = (21, .text [], []) := by unfold rdItem; rw [if_neg hr1, if_neg hr2]
  have HR := Lib.hid hr
  have hd8 : (8 : Int) ≤ (deep : Int) := by omega
  have h128 : ¬ (x.toNat : Int) < 128 := by omega
  clear hr hr1 hr2
  go_enter Try.func96, Try.ntmps96
  go_wp2_with fail

  refine bodyPost_ret (v := .tuple #[.agg #[.bool false, .slice none 0 0, .slice none 0 0], .int .i64 0, .int .i64 21]) (by simp [results, Try.results96, go_sem]) rfl ?_
  rw [HR.out]
  exact RFirstd.bad (k := 21) rfl (by decide) rfl rfl (Bel.alloc (Bel.refl w) _)
set_option maxRecDepth 100000 in
set_option maxHeartbeats 2000000 in
theorem rfirst_textB (f : Nat) (w : World) (n c p en deep : Nat) (B : List UInt8) (b o : Nat) (x : UInt8) (t : List UInt8) (m : Nat)
    (HB : Hid (BytesAt (fun b => b < w.heap.size) w (.slice (some ⟨b, o, none⟩) n c) B)) (HNB : Hid (n = B.length)) (HCELL : Hid (∀ (i : Nat), i < B.length → w.cell? ⟨b, o + i, none⟩ = some (.int .u8 ((B.getD i 0).toNat : Int))))
    (hp : p < en) (hen : en ≤ n) (hn : n ≤ 140737488351232) (hd : deep + f = 8) (hnc : n ≤ c) (hcm : c ≤ 2 ^ 63 - 1) (hbw : b < w.heap.size) (hc0 : w.cell? ⟨b, o + p, none⟩ = some (.int .u8 (x.toNat : Int))) (HT : Hid (t = seg B (p + 1) en)) (hm : x.toNat = m + 128) (hm2 : x.toNat < 192) (h58 : 58 < m) :
    Calls Try.prog 96 #[.slice (some ⟨b, o, none⟩) n c, .int .i64 p, .int .i64 en, .int .i64 deep] w (RFirstd w (f + 1) en (rdItem f (x :: t))) := by
  have hxl := x.toNat_lt
  have hmi : (x.toNat : Int) - 128 = (m : Int) := by omega
  have h128 : ¬ (x.toNat : Int) < 128 := by omega
  have h192 : ¬ (192 : Int) ≤ (x.toNat : Int) := by omega

  have hr1 : ¬ x.toNat < 128 := by omega
  have hr2 := hm2
  have hrt : rdItem f (x :: t) = rdText (readSize m t) := by unfold rdItem; rw [if_neg hr1, if_pos hr2, hm, Nat.add_sub_cancel]
  clear hm2
  have HRT := Lib.hid hrt
  have HM := Lib.hid hm
  clear hrt hm hr1 hr2

  have hr : rdItem f (x :: t) = (23, .text [], []) := by
    have h55 : ¬ m ≤ 55 := by omega
    have hs : readSize m t = (23, 0, t) := by unfold readSize; rw [if_neg h55, if_pos h58]
    rw [HRT.out, hs]; unfold rdText; rw [if_pos (by simp)]
  have HR := Lib.hid hr
  clear hr
  go_enter Try.func96, Try.ntmps96
  go_wp2_with fail

  refine bodyPost_ret (v := .tuple #[.agg #[.bool false, .slice none 0 0, .slice none 0 0], .int .i64 0, .int .i64 23]) (by simp [results, Try.results96, go_sem]) rfl ?_
  rw [HR.out]
  exact RFirstd.bad (k := 23) rfl (by decide) rfl rfl (Bel.alloc (Bel.refl w) _)
set_option maxRecDepth 100000 in
set_option maxHeartbeats 2000000 in
theorem rfirst_listB (f : Nat) (w : World) (n c p en deep : Nat) (B : List UInt8) (b o : Nat) (x : UInt8) (t : List UInt8) (m : Nat)
    (HB : Hid (BytesAt (fun b => b < w.heap.size) w (.slice (some ⟨b, o, none⟩) n c) B)) (HNB : Hid (n = B.length)) (HCELL : Hid (∀ (i : Nat), i < B.length → w.cell? ⟨b, o + i, none⟩ = some (.int .u8 ((B.getD i 0).toNat : Int))))
    (hp : p < en) (hen : en ≤ n) (hn : n ≤ 140737488351232) (hd : deep + f = 8) (hnc : n ≤ c) (hcm : c ≤ 2 ^ 63 - 1) (hbw : b < w.heap.size) (hc0 : w.cell? ⟨b, o + p, none⟩ = some (.int .u8 (x.toNat : Int))) (HT : Hid (t = seg B (p + 1) en)) (f' : Nat) (hf : f = f' + 1) (hm : x.toNat = m + 192) (HI : Hid (RItemsC f')) (h58 : 58 < m) :
    Calls Try.prog 96 #[.slice (some ⟨b, o, none⟩) n c, .int .i64 p, .int .i64 en, .int .i64 deep] w (RFirstd w (f + 1) en (rdItem f (x :: t))) := by
  have hxl := x.toNat_lt
  subst hf

  have hmi : (x.toNat : Int) - 192 = (m : Int) := by omega
  have h128 : ¬ (x.toNat : Int) < 128 := by omega
  have h192 : (192 : Int) ≤ (x.toNat : Int) := by omega
  have hd8 : ¬ (8 : Int) ≤ (deep : Int) := by omega
  have hr1 : ¬ x.toNat < 128 := by omega
  have hr2 : ¬ x.toNat < 192 := by omega
  have hrt : rdItem (f' + 1) (x :: t) = rdList (rdItem f') (readSize m t) := by rw [rdItem, if_neg hr1, if_neg hr2, hm, Nat.add_sub_cancel]

  have HRT := Lib.hid hrt
  have HM := Lib.hid hm
  clear hrt hm hr1 hr2

  have hr : rdItem (f' + 1) (x :: t) = (23, .text [], []) := by
    have h55 : ¬ m ≤ 55 := by omega
    have hs : readSize m t = (23, 0, t) := by unfold readSize; rw [if_neg h55, if_pos h58]
    rw [HRT.out, hs]; unfold rdList; rw [if_pos (by simp)]
  have HR := Lib.hid hr
  clear hr
  go_enter Try.func96, Try.ntmps96
  go_wp2_with fail

  refine bodyPost_ret (v := .tuple #[.agg #[.bool false, .slice none 0 0, .slice none 0 0], .int .i64 0, .int .i64 23]) (by simp [results, Try.results96, go_sem]) rfl ?_
  rw [HR.out]
  exact RFirstd.bad (k := 23) rfl (by decide) rfl rfl (Bel.alloc (Bel.refl w) _)
end Go.Proofs.Ytndkkgkcbbmnpaa
namespace Go.Proofs.Ytndkkgkcbbmnpaa
open Go.RowKit Go.Pg

set_option maxRecDepth 100000 in
set_option maxHeartbeats 2000000 in
theorem rfirst_textA (f : Nat) (w : World) (n c p en deep : Nat) (B : List UInt8) (b o : Nat) (x : UInt8) (t : List UInt8) (m : Nat)
    (HB : Hid (BytesAt (fun b => b < w.heap.size) w (.slice (some ⟨b, o, none⟩) n c) B)) (HNB : Hid (n = B.length)) (HCELL : Hid (∀ (i : Nat), i < B.length → w.cell? ⟨b, o + i, none⟩ = some (.int .u8 ((B.getD i 0).toNat : Int))))
    (hp : p < en) (hen : en ≤ n) (hn : n ≤ 140737488351232) (hd : deep + f = 8) (hnc : n ≤ c) (hcm : c ≤ 2 ^ 63 - 1) (hbw : b < w.heap.size) (hc0 : w.cell? ⟨b, o + p, none⟩ = some (.int .u8 (x.toNat : Int))) (HT : Hid (t = seg B (p + 1) en)) (hm : x.toNat = m + 128) (hm2 : x.toNat < 192) (h55 : m ≤ 55) :
    Calls Try.prog 96 #[.slice (some ⟨b, o, none⟩) n c, .int .i64 p, .int .i64 en, .int .i64 deep] w (RFirstd w (f + 1) en (rdItem f (x :: t))) := by
  have hxl := x.toNat_lt
  have hmi : (x.toNat : Int) - 128 = (m : Int) := by omega
  have h128 : ¬ (x.toNat : Int) < 128 := by omega
  have h192 : ¬ (192 : Int) ≤ (x.toNat : Int) := by omega

  have hr1 : ¬ x.toNat < 128 := by omega
  have hr2 := hm2
  have hrt : rdItem f (x :: t) = rdText (readSize m t) := by unfold rdItem; rw [if_neg hr1, if_pos hr2, hm, Nat.add_sub_cancel]
  clear hm2
  have HRT := Lib.hid hrt
  have HM := Lib.hid hm
  clear hrt hm hr1 hr2

  have hs : readSize m t = (0, m, seg B (p + 1) en) := by unfold readSize; rw [if_pos h55, HT.out]
  have HS := Lib.hid hs
  clear hs

  by_cases hsh : en < (p + 1) + m
  · have hr : rdItem f (x :: t) = (22, .text [], []) := by
      rw [HRT.out, HS.out, rdText, if_neg (by simp), if_pos (by simp only; rw [seg_len _ _ _ (by have := HNB.out; omega)]; omega)]
    have HR := Lib.hid hr
    clear hr
    go_enter Try.func96, Try.ntmps96
    go_wp2_with fail
    refine bodyPost_ret (v := .tuple #[.agg #[.bool false, .slice none 0 0, .slice none 0 0], .int .i64 0, .int .i64 22]) (by simp [results, Try.results96, go_sem]) rfl ?_
    rw [HR.out]
    exact RFirstd.bad (k := 22) rfl (by decide) rfl rfl (Bel.alloc (Bel.refl w) _)

  · have hq : (p + 1) + m ≤ n := by omega
    have hone : m = 1 → ∃ y : UInt8, seg B (p + 1) ((p + 1) + m) = [y] ∧ w.cell? ⟨b, o + ((p + 1)), none⟩ = some (.int .u8 (y.toNat : Int)) := fun h1 =>
      ⟨B.getD (p + 1) 0, by rw [seg_getD B (p + 1) ((p + 1) + m) (by omega) (by have := HNB.out; omega), seg_nil _ _ _ (by omega)], HCELL.out ((p + 1)) (by have := HNB.out; omega)⟩
    obtain ⟨L, hL⟩ : ∃ L, L = seg B (p + 1) ((p + 1) + m) := ⟨_, rfl⟩
    have hLl : L.length = m := by rw [hL, seg_len _ _ _ (by have := HNB.out; omega)]; omega
    have hrd : rdItem f (x :: t) = if m = 1 ∧ (L.headD 0).toNat < 128 then (23, .text [], []) else (0, .text L, seg B ((p + 1) + m) en) := by
      rw [HRT.out, HS.out, rdText, if_neg (by simp), if_neg (by simp only; rw [seg_len _ _ _ (by have := HNB.out; omega)]; omega)]
      simp only [seg_drop, seg_take B (p + 1) en m (by omega), ← hL]
      have hh : m = 1 → (seg B (p + 1) en).headD 0 = L.headD 0 := fun h1 => by
        rw [hL, seg_cons B (p + 1) en (by omega) (by have := HNB.out; omega), seg_cons B (p + 1) ((p + 1) + m) (by omega) (by have := HNB.out; omega)]; rfl
      by_cases h1 : m = 1
      · rw [hh h1]
      · rw [if_neg (fun h => h1 h.1), if_neg (fun h => h1 h.1)]
    have hcase : (m = 1 ∧ ∃ y : UInt8, L = [y] ∧ w.cell? ⟨b, o + ((p + 1)), none⟩ = some (.int .u8 (y.toNat : Int))) ∨ ((m : Int) == 1) = false := by
      by_cases h1 : m = 1
      · obtain ⟨y, hy, hc⟩ := hone h1
        exact .inl ⟨h1, y, by rw [hL]; exact hy, hc⟩
      · exact .inr (by simp; omega)
    have HRD := Lib.hid hrd
    have HL := Lib.hid hL
    have HLL := Lib.hid hLl
    clear hrd hL hLl hone
    by_cases hbad : m = 1 ∧ (L.headD 0).toNat < 128
    · rcases hcase with ⟨h1, y, hy, hc⟩ | h1
      · have hr : rdItem f (x :: t) = (23, .text [], []) := by rw [HRD.out, if_pos hbad]
        have HR := Lib.hid hr
        have hb1 : ((m : Int) == 1) = true := by simp; omega
        have hqn : (p + 1) < n := by omega
        have hy8 : (y.toNat : Int) < 128 := by have := hbad.2; rw [hy] at this; simp at this; omega
        clear hr h1 hbad hy
        go_enter Try.func96, Try.ntmps96
        go_wp2_with fail
        refine bodyPost_ret (v := .tuple #[.agg #[.bool false, .slice none 0 0, .slice none 0 0], .int .i64 0, .int .i64 23]) (by simp [results, Try.results96, go_sem]) rfl ?_
        rw [HR.out]
        exact RFirstd.bad (k := 23) rfl (by decide) rfl rfl (Bel.alloc (Bel.refl w) _)
      · have := hbad.1; simp at h1; omega
    · have hr : rdItem f (x :: t) = (0, .text L, seg B ((p + 1) + m) en) := by rw [HRD.out, if_neg hbad]
      have HR := Lib.hid hr
      have hcase2 : (((m : Int) == 1) = true ∧ (p + 1) < n ∧ ¬ c = (p + 1) ∧ ∃ y : UInt8, w.cell? ⟨b, o + ((p + 1)), none⟩ = some (.int .u8 (y.toNat : Int)) ∧ ¬ (y.toNat : Int) < 128) ∨ (((m : Int) == 1) = false ∧ ¬ c = (p + 1)) ∨ (((m : Int) == 1) = false ∧ c = (p + 1)) := by
        rcases hcase with ⟨h1, y, hy, hc⟩ | h1
        · exact .inl ⟨by simp; omega, by omega, by omega, y, hc, fun h => hbad ⟨h1, by rw [hy]; simp; omega⟩⟩
        · by_cases hcq : c = (p + 1)
          · exact .inr (.inr ⟨h1, hcq⟩)
          · exact .inr (.inl ⟨h1, hcq⟩)
      have hargB : c = (p + 1) → m = 0 ∧ L = [] := fun hcq => by
        have h0 : m = 0 := by omega
        exact ⟨h0, List.eq_nil_of_length_eq_zero (by rw [HLL.out]; exact h0)⟩
      have hargA : ¬ c = (p + 1) → BytesAt (fun b => b < w.heap.size) w (.slice (some ⟨b, o + ((p + 1)), none⟩) m (c - ((p + 1)))) L := fun hcq => by
        have := BytesAt.seg HB.out ((p + 1)) ((p + 1) + m) (by omega) hq rfl
        rw [if_neg hcq, show (p + 1) + m - ((p + 1)) = m by omega, ← HL.out, addr_map_add] at this
        exact this
      have HARGA := Lib.hid hargA
      have HARGB := Lib.hid hargB
      have hbox := heap_alloc_new w (.cells #[.bool false, .slice none 0 0, .slice none 0 0] 65)
      have HBOX := Lib.hid hbox
      have hLb : L.length ≤ 140737488351232 := by rw [HLL.out]; omega
      have hsegl : (seg B ((p + 1) + m) en).length = en - ((p + 1) + m) := seg_len _ _ _ (by have := HNB.out; omega)
      have HSL := Lib.hid hsegl
      clear hr hbad hcase hargA hargB hbox hsegl
      rcases hcase2 with ⟨h1, hqn, hcq, y, hc, hy⟩ | ⟨h1, hcq⟩ | ⟨h1, hcq⟩
      all_goals
        go_enter Try.func96, Try.ntmps96
        go_wp2_with fail
        refine (copied_any (fun b => b < w.heap.size) _ _ L ?_ hLb).mono ?_
        · first
            | exact BytesAt.below (HARGA.out hcq) (Bel.alloc (Bel.refl w) _)
            | (obtain ⟨e1, e2⟩ := HARGB.out hcq; rw [e2, e1]; exact SliceAt.empty _ _ _ _ _ _ (by unfold maxLen; omega) (fun h => by cases h))
        rintro e w1 ⟨v4, rfl, ho4, hb4⟩
        obtain ⟨a4, c4, rfl, -, -, -⟩ := ho4.len
        have hs4 := hb4.size
        simp only [World.size_alloc] at hs4
        have hlt4 : w.heap.size < w1.heap.size := by omega
        have hb1 := (hb4.block w.heap.size (by simp)).trans HBOX.out
        have HB1 := Lib.hid hb1
        have HBL1 := Lib.hid (Below.trans (Bel.alloc (Bel.refl w) _) (hb4.mono (by simp)))
        have HAT := Lib.hid (ho4.at (F := fun b => w.heap.size + 1 ≤ b) (fun g _ hg _ => by simpa using hg) (by decide))
        obtain ⟨q0, q1, q2⟩ := cells3 hb1
        have f0 := frozen_of_row w1 w.heap.size 0 _ _ hb1
        have f1 := frozen_of_row w1 w.heap.size 1 _ _ hb1
        have f2 := frozen_of_row w1 w.heap.size 2 _ _ hb1
        obtain ⟨n4, hn4⟩ : ∃ n4, n4 = L.length := ⟨_, rfl⟩
        rw [← hn4] at HAT ⊢
        clear hb1 hb4 ho4 hs4 hn4
        go_wp2_with fail
        have hbx := box3 HB1.out (.bool false) (.slice a4 n4 c4) (.slice none 0 0)
        obtain ⟨W, hW⟩ : ∃ W, W = ((w1.setCell ⟨w.heap.size, 0, none⟩ (.bool false)).setCell ⟨w.heap.size, 1, none⟩ (.slice a4 n4 c4)).setCell ⟨w.heap.size, 2, none⟩ (.slice none 0 0) := ⟨_, rfl⟩
        rw [← hW] at hbx ⊢
        obtain ⟨r0, r1, r2⟩ := cells3 hbx.at_
        refine bodyPost_ret (v := .tuple #[.agg #[.bool false, .slice a4 n4 c4, .slice none 0 0], .int .i64 ((p : Int) + 1 + (m : Int)), .int .i64 0]) (by simp [results, Try.results96, go_sem, r0, r1, r2]) rfl ?_
        rw [HR.out]
        refine ⟨false, a4, n4, c4, none, 0, 0, (p + 1) + m, ?_, fun _ => ?_, fun h => absurd rfl h, ⟨_, _, rfl, ?_, SliceAt.nil _ _ _ _⟩, HBL1.out.trans (hbx.chg.toBelowAt (by omega) (fun k hk e => by omega))⟩
        · rfl
        · show (p + 1) + m + (seg B ((p + 1) + m) en).length = en
          rw [HSL.out]; omega
        · exact BytesAt.carry HAT.out (fun b _ hb => by show w.heap.size ≤ b; have : w.heap.size + 1 ≤ b := hb; omega) (fun b hb _ => hbx.other b (by have : w.heap.size + 1 ≤ b := hb; omega))
end Go.Proofs.Ytndkkgkcbbmnpaa
