/-
  Every header's bytes and name; every text of bytes is read as its header, or refused (the statement BlockHeaders).
-/
import Derived.Test.YtndkkgkcbbmnpaaQeAA
namespace Go.Pg
open Go.RowKit
section
variable {P : Program} {ops : Array Oper} {Q : Exit → Act → World → Prop} {md : Region.Mode}
theorem wpAnyH_under {S S' : World → Prop} (h : ∀ w, S' w → S w) : ∀ (fuel : Nat) (listed : Array Bool) (a : Act) (w : World), wpAnyH P md ops Q S' fuel listed a w → wpAnyH P md ops Q S fuel listed a w
  | 0, _, _, _, k => k
  | fuel + 1, _, _, _, k => ⟨k.1, fun i hi => wpOp_mono (fun a' w' h' => ⟨h w' h'.1, wpAnyH_under h fuel _ a' w' h'.2⟩) (k.2 i hi)⟩
end
end Go.Pg
namespace Go.Proofs.Ytndkkgkcbbmnpaa
open Go.RowKit Go.Pg

set_option maxRecDepth 100000 in
set_option maxHeartbeats 8000000 in
theorem headers_walk (F : Nat → Prop) (w : World) (h : Hdr) (ho : h.ok) (ab : Option Addr) (nb cb : Nat) (B : List UInt8) (hB : BytesAt F w (.slice ab nb cb) B) (hBl : nb ≤ 140737488351232) :
    Calls Try.prog 8 #[.agg (hdrCells h), .slice ab nb cb] w fun e w' => e = .returned (.bool true) ∧ Below w.heap.size w w' := by
  obtain ⟨ZH, hZH⟩ : ∃ ZR : Array Value, ZR = Try.zeroCells47 := ⟨_, rfl⟩
  have hZH2 : ZH.size = 131 := by rw [hZH]; kernel_rfl
  obtain ⟨HC, hHC⟩ : ∃ C, C = hdrCells h := ⟨_, rfl⟩
  obtain ⟨X, hX⟩ : ∃ X, X = hdrDecode B := ⟨_, rfl⟩
  have hXo : X.1.ok := by rw [hX]; exact hdrDecode_ok B
  have hXr : refHdrDecode B = X := by rw [hX, hdrDecode_eq]
  obtain ⟨XH, xe⟩ := X
  try simp only at hXo
  obtain ⟨XC, hXC⟩ : ∃ C, C = hdrCells XH := ⟨_, rfl⟩
  obtain ⟨E, hE⟩ : ∃ B, B = hdrBytes h := ⟨_, rfl⟩
  obtain ⟨D, hD⟩ : ∃ D, D = digestOf E := ⟨_, rfl⟩
  have hDl : D.length = 32 := by rw [hD]; exact digestOf_length _
  have he1 := fun (W : World) => encHdr_any W h ho (by have := hdr_whole h ho; omega)
  have he2 := fun (W : World) => rencHdr_any W h ho (by have := hdr_whole h ho; omega)
  have hn1 := fun (W : World) => bName_any W h ho
  have hn2 := fun (W : World) => rName_any W h ho
  rw [← hHC, ← hE] at he1 he2 hn1 hn2
  rw [← hD] at hn1 hn2
  have heq : ∀ W : World, (Op.equalIn 10000 37 (.agg (cellsOf D)) (.agg (cellsOf D))).run Try.prog W = .ok true W := fun W => by
    have h := digEq D D hDl hDl W
    rw [decide_eq_true rfl] at h
    exact h
  have heh : ∀ W : World, (Op.equalIn 10000 47 (.agg XC) (.agg XC)).run Try.prog W = .ok true W := fun W => by rw [hXC]; exact hdrEq XH hXo W
  have hsx : XC.size = 131 := by rw [hXC]; exact hdrCells_size _ hXo
  have hsh : HC.size = 131 := by rw [hHC]; exact hdrCells_size _ ho
  obtain ⟨fs, hu⟩ := underlyingHdr
  obtain ⟨W0, hW0⟩ : ∃ W : World, W = w.alloc (.cells HC 47) := ⟨_, rfl⟩
  have hb0 : Below w.heap.size w W0 := by rw [hW0]; exact Bel.alloc (Bel.refl w) _
  have hk0 : W0.heap[w.heap.size]? = some (.cells HC 47 (0, 0)) := by rw [hW0]; exact heap_alloc_new w _
  have hd1 := bhdec_any F W0 ab nb cb B (BytesAt.below hB hb0) (by omega)
  rw [← hX] at hd1
  try simp only at hd1
  have HIXC := Lib.hid (show (Try.prog.info? 47).map (·.size) = some XC.size by rw [hsx]; exact infoHdr)
  have HIHC := Lib.hid (show (Try.prog.info? 47).map (·.size) = some HC.size by rw [hsh]; exact infoHdr)
  have HSX := Lib.hid (show ZH.size = XC.size by rw [hsx, hZH2])
  have HOX := Lib.hid (show XC.all (·.oneCell') = true by rw [hXC]; exact hdrCells_one _)
  have HZH := Lib.hid hZH
  have HXR := Lib.hid hXr
  have HXC := Lib.hid hXC
  have HE1 := Lib.hid he1
  have HE2 := Lib.hid he2
  have HN1 := Lib.hid hn1
  have HN2 := Lib.hid hn2
  have HEQ := Lib.hid heq
  have HEH := Lib.hid heh
  have HU := Lib.hid hu
  have HW0 := Lib.hid hW0
  have HB0 := Lib.hid hb0
  have HK0 := Lib.hid hk0
  have HD1 := Lib.hid hd1
  have HBB := Lib.hid hB
  rw [← hHC]
  clear hZH hZH2 hHC hX hXo hXr hXC hE hD hDl he1 he2 hn1 hn2 heq heh hsx hsh hu hW0 hb0 hk0 hd1 hB
  go_enter Try.func8, Try.ntmps8
  go_wp2_with fail
  rw [← HW0.out]
  refine HD1.out.mono ?_
  rintro e w1 ⟨rfl, hb1⟩
  try simp only
  rw [← HXC.out]
  obtain ⟨W1, hW1⟩ : ∃ W : World, W = (w1.alloc (.cells ZH 47)).setRow w1.heap.size XC := ⟨_, rfl⟩
  have hz1 : (w1.alloc (.cells ZH 47)).heap[w1.heap.size]? = some (.cells ZH 47 (0, 0)) := heap_alloc_new w1 _
  have hk1 : W1.heap[w1.heap.size]? = some (.cells XC 47 (0, 0)) := by rw [hW1]; exact setRow_heap _ _ _ _ _ _ hz1
  have hbW1 : Below W0.heap.size W0 W1 := Bel.call hb1 (by rw [hW1]; exact below_setRow (Bel.alloc (Bel.refl w1) _) (Nat.le_refl _) _)
  have hd2 := rhdec_any F W1 ab nb cb B (BytesAt.below (BytesAt.below HBB.out HB0.out) hbW1) (by omega)
  rw [HXR.out] at hd2
  try simp only at hd2
  have HZ1 := Lib.hid hz1
  have HK1 := Lib.hid hk1
  have HW1 := Lib.hid hW1
  have HBW1 := Lib.hid hbW1
  have HD2 := Lib.hid hd2
  clear hz1 hk1 hW1 hbW1 hd2 hb1
  go_wp2_with (rw [← HZH.out]; (with_reducible refine wpL_store_row 47 (.tmp 5) (.tmp 12) w1.heap.size XC 47 ZH ?_ ⟨HZ1.out, HIXC.out, HSX.out, HOX.out⟩ ?_); (exact ⟨rfl, rfl, rfl, rfl⟩); rw [← HW1.out])
  refine HD2.out.mono ?_
  rintro e w2 ⟨rfl, hb2⟩
  try simp only
  rw [← HXC.out]
  obtain ⟨W2, hW2⟩ : ∃ W : World, W = (w2.alloc (.cells ZH 47)).setRow w2.heap.size XC := ⟨_, rfl⟩
  have hz2 : (w2.alloc (.cells ZH 47)).heap[w2.heap.size]? = some (.cells ZH 47 (0, 0)) := heap_alloc_new w2 _
  have hk2 : W2.heap[w2.heap.size]? = some (.cells XC 47 (0, 0)) := by rw [hW2]; exact setRow_heap _ _ _ _ _ _ hz2
  have hb12 : Below W1.heap.size W1 W2 := Bel.call hb2 (by rw [hW2]; exact below_setRow (Bel.alloc (Bel.refl w2) _) (Nat.le_refl _) _)
  have hl1 := (Array.getElem?_eq_some_iff.1 HK1.out).1
  have hl0 := (Array.getElem?_eq_some_iff.1 HK0.out).1
  have hl2 := (Array.getElem?_eq_some_iff.1 hk2).1
  have hb02 : Below W0.heap.size W0 W2 := Bel.call HBW1.out hb12
  have hr0 : ∀ W : World, Below W2.heap.size W2 W → W.heap[w.heap.size]? = some (.cells HC 47 (0, 0)) := fun W hW => by
    have := hb02.size
    exact (hW.block _ (by omega)).trans ((hb02.block _ hl0).trans HK0.out)
  have hr1 : ∀ W : World, Below W2.heap.size W2 W → W.heap[w1.heap.size]? = some (.cells XC 47 (0, 0)) := fun W hW => by
    have := hb12.size
    exact (hW.block _ (by omega)).trans ((hb12.block _ hl1).trans HK1.out)
  have hr2 : ∀ W : World, Below W2.heap.size W2 W → W.heap[w2.heap.size]? = some (.cells XC 47 (0, 0)) := fun W hW => (hW.block _ hl2).trans hk2
  have hbw2 : Below w.heap.size w W2 := Bel.call HB0.out hb02
  have HZ2 := Lib.hid hz2
  have HW2 := Lib.hid hW2
  have HR0 := Lib.hid hr0
  have HR1 := Lib.hid hr1
  have HR2 := Lib.hid hr2
  have HBW2 := Lib.hid hbw2
  obtain ⟨S, hS⟩ : ∃ S : World → Prop, S = fun W => Below W2.heap.size W2 W := ⟨_, rfl⟩
  have hHd : S W2.drew := by rw [hS]; exact Bel.drew (Bel.refl W2)
  have HHD := Lib.hid hHd
  have hS' := Lib.hid hS
  clear hz2 hk2 hW2 hb12 hl1 hl0 hl2 hb02 hr0 hr1 hr2 hbw2 hHd hS hb2
  go_wp2_with (rw [← HZH.out]; (with_reducible refine wpL_store_row 47 (.tmp 7) (.tmp 17) w2.heap.size XC 47 ZH ?_ ⟨HZ2.out, HIXC.out, HSX.out, HOX.out⟩ ?_); (exact ⟨rfl, rfl, rfl, rfl⟩); rw [← HW2.out])
  refine wp_region_held_drew (S := S) (by kernel_rfl) HHD.out (fun hHeld => ?_)
  have hS := hS'.out
  have hBdrew : Below W2.heap.size W2 W2.drew := Bel.drew (Bel.refl W2)
  refine wpAnyH_ready (rs := [0]) (by kernel_rfl) (by simp) (AllReadyH.cons (op_at rfl) (fun K hK => ?_) AllReadyH.nil)
  clear hHeld
  go_simp
  go_at_call 21
  refine (alive19_any W2.drew).mono ?_
  rintro e w3 ⟨rfl, hb⟩
  have hdw3 : Below W2.heap.size W2 w3 := Bel.call hBdrew hb
  have hsw3 : S w3 := by rw [hS]; exact hdw3
  clear hb
  go_wp2_with fail
  refine hK.out _ _ hsw3 (fun hHeld0 => ?_)
  clear hK K hHeld0 hsw3
  try simp only [Act.put, List.setIfInBounds_toArray, List.set_cons_zero, List.set_cons_succ]
  obtain ⟨S3, hS3⟩ : ∃ S : World → Prop, S = fun W => Below w3.heap.size w3 W := ⟨_, rfl⟩
  refine wpAnyH_under (S' := S3) (fun W h => by rw [hS3] at h; rw [hS]; exact Bel.call hdw3 h) _ _ _ _ ?_
  have hHeld : S3 w3 := by rw [hS3]; exact Bel.refl _
  have hBw3 : Below W2.heap.size W2 w3 := hdw3
  refine wpAnyH_take (i := 1) (op_at rfl) (by kernel_rfl) (by kernel_rfl) (by kernel_rfl) (fun _ _ _ h => h) (Or.inl ⟨by rfl, by intro W hSw; go_simp; (try with_reducible rfl)⟩) hHeld ?_
  simp only [Act.put, List.setIfInBounds_toArray, List.set_cons_zero, List.set_cons_succ]
  refine wpAnyH_take (i := 2) (op_at rfl) (by kernel_rfl) (by kernel_rfl) (by kernel_rfl) (fun _ _ _ h => h) (yieldsIf_load_row (by rfl) 47 (.tmp 2) rfl w.heap.size rfl HC 47 (.struct fs) (fun W h => HR0.out W (by rw [hS3] at h; exact Bel.call hBw3 h)) HU.out rfl HIHC.out) hHeld ?_
  simp only [Act.put, List.setIfInBounds_toArray, List.set_cons_zero, List.set_cons_succ]
  refine wpAnyH_take (i := 5) (op_at rfl) (by kernel_rfl) (by kernel_rfl) (by kernel_rfl) (fun _ _ _ h => h) (yieldsIf_load_row (by rfl) 47 (.tmp 2) rfl w.heap.size rfl HC 47 (.struct fs) (fun W h => HR0.out W (by rw [hS3] at h; exact Bel.call hBw3 h)) HU.out rfl HIHC.out) hHeld ?_
  simp only [Act.put, List.setIfInBounds_toArray, List.set_cons_zero, List.set_cons_succ]
  refine wpAnyH_ready (rs := [3]) (by kernel_rfl) (by simp) (AllReadyH.cons (op_at rfl) (fun K hK => ?_) AllReadyH.nil)
  clear hHeld
  go_simp
  go_at_call 27
  refine (HE1.out w3).mono ?_
  rintro e w4 ⟨v4, rfl, ho, hb⟩
  obtain ⟨a4, c4, rfl, -, -, -⟩ := ho.len
  have hat := ho.at (F := fun _ => True) (fun _ _ _ _ => trivial) (by decide)
  obtain ⟨m4, hm4⟩ : ∃ m, m = E.length := ⟨_, rfl⟩
  rw [← hm4] at hat ⊢
  have HAT4 := Lib.hid hat
  clear ho hat hm4
  have hdw4 : Below w3.heap.size w3 w4 := hb
  have hsw4 : S3 w4 := by rw [hS3]; exact hdw4
  clear hb
  go_wp2_with fail
  refine hK.out _ _ hsw4 (fun hHeld0 => ?_)
  clear hK K hHeld0 hsw4
  try simp only [Act.put, List.setIfInBounds_toArray, List.set_cons_zero, List.set_cons_succ]
  obtain ⟨S4, hS4⟩ : ∃ S : World → Prop, S = fun W => Below w4.heap.size w4 W := ⟨_, rfl⟩
  refine wpAnyH_under (S' := S4) (fun W h => by rw [hS4] at h; rw [hS3]; exact Bel.call hdw4 h) _ _ _ _ ?_
  have hHeld : S4 w4 := by rw [hS4]; exact Bel.refl _
  have hBw4 : Below W2.heap.size W2 w4 := Bel.call hBw3 hdw4
  refine wpAnyH_take (i := 4) (op_at rfl) (by kernel_rfl) (by kernel_rfl) (by kernel_rfl) (fun _ _ _ h => h) (Or.inl ⟨by rfl, by intro W hSw; have hc := run_string_at (P := Try.prog) (BytesAt.below HAT4.out (show Below w4.heap.size w4 W by rw [hS4] at hSw; exact hSw)) 25 5 9 Try.underlying25 Try.underlying5 Try.underlying9; go_simp; (try with_reducible rfl)⟩) hHeld ?_
  simp only [Act.put, List.setIfInBounds_toArray, List.set_cons_zero, List.set_cons_succ]
  refine wpAnyH_ready (rs := [6]) (by kernel_rfl) (by simp) (AllReadyH.cons (op_at rfl) (fun K hK => ?_) AllReadyH.nil)
  clear hHeld
  go_simp
  go_at_call 28
  refine (HE2.out w4).mono ?_
  rintro e w5 ⟨v5, rfl, ho, hb⟩
  obtain ⟨a5, c5, rfl, -, -, -⟩ := ho.len
  have hat := ho.at (F := fun _ => True) (fun _ _ _ _ => trivial) (by decide)
  obtain ⟨m5, hm5⟩ : ∃ m, m = E.length := ⟨_, rfl⟩
  rw [← hm5] at hat ⊢
  have HAT5 := Lib.hid hat
  clear ho hat hm5
  have hdw5 : Below w4.heap.size w4 w5 := hb
  have hsw5 : S4 w5 := by rw [hS4]; exact hdw5
  clear hb
  go_wp2_with fail
  refine hK.out _ _ hsw5 (fun hHeld0 => ?_)
  clear hK K hHeld0 hsw5
  try simp only [Act.put, List.setIfInBounds_toArray, List.set_cons_zero, List.set_cons_succ]
  obtain ⟨S5, hS5⟩ : ∃ S : World → Prop, S = fun W => Below w5.heap.size w5 W := ⟨_, rfl⟩
  refine wpAnyH_under (S' := S5) (fun W h => by rw [hS5] at h; rw [hS4]; exact Bel.call hdw5 h) _ _ _ _ ?_
  have hHeld : S5 w5 := by rw [hS5]; exact Bel.refl _
  have hBw5 : Below W2.heap.size W2 w5 := Bel.call hBw4 hdw5
  refine wpAnyH_take (i := 7) (op_at rfl) (by kernel_rfl) (by kernel_rfl) (by kernel_rfl) (fun _ _ _ h => h) (Or.inl ⟨by rfl, by intro W hSw; have hc := run_string_at (P := Try.prog) (BytesAt.below HAT5.out (show Below w5.heap.size w5 W by rw [hS5] at hSw; exact hSw)) 25 5 9 Try.underlying25 Try.underlying5 Try.underlying9; go_simp; (try with_reducible rfl)⟩) hHeld ?_
  simp only [Act.put, List.setIfInBounds_toArray, List.set_cons_zero, List.set_cons_succ]
  refine wpAnyH_take (i := 8) (op_at rfl) (by kernel_rfl) (by kernel_rfl) (by kernel_rfl) (fun _ _ _ h => h) (Or.inl ⟨by rfl, by intro W hSw; go_simp; (try with_reducible rfl)⟩) hHeld ?_
  simp only [Act.put, List.setIfInBounds_toArray, List.set_cons_zero, List.set_cons_succ]
  refine wpAnyH_take (i := 9) (op_at rfl) (by kernel_rfl) (by kernel_rfl) (by kernel_rfl) (fun _ _ _ h => h) (Or.inl ⟨by rfl, by intro W hSw; go_simp; (try with_reducible rfl)⟩) hHeld ?_
  simp only [Act.put, List.setIfInBounds_toArray, List.set_cons_zero, List.set_cons_succ]
  refine wpAnyH_take (i := 10) (op_at rfl) (by kernel_rfl) (by kernel_rfl) (by kernel_rfl) (fun _ _ _ h => h) (Or.inl ⟨by rfl, by intro W hSw; go_simp; (try with_reducible rfl)⟩) hHeld ?_
  simp only [Act.put, List.setIfInBounds_toArray, List.set_cons_zero, List.set_cons_succ]
  refine wpAnyH_take (i := 11) (op_at rfl) (by kernel_rfl) (by kernel_rfl) (by kernel_rfl) (fun _ _ _ h => h) (yieldsIf_load_row (by rfl) 47 (.tmp 2) rfl w.heap.size rfl HC 47 (.struct fs) (fun W h => HR0.out W (by rw [hS5] at h; exact Bel.call hBw5 h)) HU.out rfl HIHC.out) hHeld ?_
  simp only [Act.put, List.setIfInBounds_toArray, List.set_cons_zero, List.set_cons_succ]
  refine wpAnyH_take (i := 13) (op_at rfl) (by kernel_rfl) (by kernel_rfl) (by kernel_rfl) (fun _ _ _ h => h) (yieldsIf_load_row (by rfl) 47 (.tmp 2) rfl w.heap.size rfl HC 47 (.struct fs) (fun W h => HR0.out W (by rw [hS5] at h; exact Bel.call hBw5 h)) HU.out rfl HIHC.out) hHeld ?_
  simp only [Act.put, List.setIfInBounds_toArray, List.set_cons_zero, List.set_cons_succ]
  refine wpAnyH_ready (rs := [12]) (by kernel_rfl) (by simp) (AllReadyH.cons (op_at rfl) (fun K hK => ?_) AllReadyH.nil)
  clear hHeld
  go_simp
  go_at_call 29
  refine (HN1.out w5).mono ?_
  rintro e w6 ⟨rfl, hb⟩
  have hdw6 : Below w5.heap.size w5 w6 := hb
  have hsw6 : S5 w6 := by rw [hS5]; exact hdw6
  clear hb
  go_wp2_with fail
  refine hK.out _ _ hsw6 (fun hHeld0 => ?_)
  clear hK K hHeld0 hsw6
  try simp only [Act.put, List.setIfInBounds_toArray, List.set_cons_zero, List.set_cons_succ]
  obtain ⟨S6, hS6⟩ : ∃ S : World → Prop, S = fun W => Below w6.heap.size w6 W := ⟨_, rfl⟩
  refine wpAnyH_under (S' := S6) (fun W h => by rw [hS6] at h; rw [hS5]; exact Bel.call hdw6 h) _ _ _ _ ?_
  have hHeld : S6 w6 := by rw [hS6]; exact Bel.refl _
  have hBw6 : Below W2.heap.size W2 w6 := Bel.call hBw5 hdw6
  refine wpAnyH_ready (rs := [14]) (by kernel_rfl) (by simp) (AllReadyH.cons (op_at rfl) (fun K hK => ?_) AllReadyH.nil)
  clear hHeld
  go_simp
  go_at_call 30
  refine (HN2.out w6).mono ?_
  rintro e w7 ⟨rfl, hb⟩
  have hdw7 : Below w6.heap.size w6 w7 := hb
  have hsw7 : S6 w7 := by rw [hS6]; exact hdw7
  clear hb
  go_wp2_with fail
  refine hK.out _ _ hsw7 (fun hHeld0 => ?_)
  clear hK K hHeld0 hsw7
  try simp only [Act.put, List.setIfInBounds_toArray, List.set_cons_zero, List.set_cons_succ]
  obtain ⟨S7, hS7⟩ : ∃ S : World → Prop, S = fun W => Below w7.heap.size w7 W := ⟨_, rfl⟩
  refine wpAnyH_under (S' := S7) (fun W h => by rw [hS7] at h; rw [hS6]; exact Bel.call hdw7 h) _ _ _ _ ?_
  have hHeld : S7 w7 := by rw [hS7]; exact Bel.refl _
  have hBw7 : Below W2.heap.size W2 w7 := Bel.call hBw6 hdw7
  refine wpAnyH_take (i := 15) (op_at rfl) (by kernel_rfl) (by kernel_rfl) (by kernel_rfl) (fun _ _ _ h => h) (Or.inl ⟨by rfl, by intro W hSw; have hc := HEQ.out W; go_simp; (try with_reducible rfl)⟩) hHeld ?_
  simp only [Act.put, List.setIfInBounds_toArray, List.set_cons_zero, List.set_cons_succ]
  refine wpAnyH_take (i := 16) (op_at rfl) (by kernel_rfl) (by kernel_rfl) (by kernel_rfl) (fun _ _ _ h => h) (Or.inl ⟨by rfl, by intro W hSw; go_simp; (try with_reducible rfl)⟩) hHeld ?_
  simp only [Act.put, List.setIfInBounds_toArray, List.set_cons_zero, List.set_cons_succ]
  refine wpAnyH_take (i := 17) (op_at rfl) (by kernel_rfl) (by kernel_rfl) (by kernel_rfl) (fun _ _ _ h => h) (Or.inl ⟨by rfl, by intro W hSw; go_simp; (try with_reducible rfl)⟩) hHeld ?_
  simp only [Act.put, List.setIfInBounds_toArray, List.set_cons_zero, List.set_cons_succ]
  refine wpAnyH_take (i := 18) (op_at rfl) (by kernel_rfl) (by kernel_rfl) (by kernel_rfl) (fun _ _ _ h => h) (yieldsIf_load_row (by rfl) 47 (.tmp 5) rfl w1.heap.size rfl XC 47 (.struct fs) (fun W h => HR1.out W (by rw [hS7] at h; exact Bel.call hBw7 h)) HU.out rfl HIXC.out) hHeld ?_
  simp only [Act.put, List.setIfInBounds_toArray, List.set_cons_zero, List.set_cons_succ]
  refine wpAnyH_take (i := 19) (op_at rfl) (by kernel_rfl) (by kernel_rfl) (by kernel_rfl) (fun _ _ _ h => h) (yieldsIf_load_row (by rfl) 47 (.tmp 7) rfl w2.heap.size rfl XC 47 (.struct fs) (fun W h => HR2.out W (by rw [hS7] at h; exact Bel.call hBw7 h)) HU.out rfl HIXC.out) hHeld ?_
  simp only [Act.put, List.setIfInBounds_toArray, List.set_cons_zero, List.set_cons_succ]
  refine wpAnyH_take (i := 20) (op_at rfl) (by kernel_rfl) (by kernel_rfl) (by kernel_rfl) (fun _ _ _ h => h) (yieldsIf_eql_agg (by rfl) 47 (.tmp 37) (.tmp 38) 47 rfl XC XC rfl rfl (by kernel_rfl) true HEH.out) hHeld ?_
  simp only [Act.put, List.setIfInBounds_toArray, List.set_cons_zero, List.set_cons_succ]
  refine wpAnyH_take (i := 21) (op_at rfl) (by kernel_rfl) (by kernel_rfl) (by kernel_rfl) (fun _ _ _ h => h) (Or.inl ⟨by rfl, by intro W hSw; go_simp; (try with_reducible rfl)⟩) hHeld ?_
  simp only [Act.put, List.setIfInBounds_toArray, List.set_cons_zero, List.set_cons_succ]
  refine wpAnyH_take (i := 22) (op_at rfl) (by kernel_rfl) (by kernel_rfl) (by kernel_rfl) (fun _ _ _ h => h) (Or.inl ⟨by rfl, by intro W hSw; go_simp; (try with_reducible rfl)⟩) hHeld ?_
  simp only [Act.put, List.setIfInBounds_toArray, List.set_cons_zero, List.set_cons_succ]
  refine wpAnyH_take (i := 23) (op_at rfl) (by kernel_rfl) (by kernel_rfl) (by kernel_rfl) (fun _ _ _ h => h) (Or.inl ⟨by rfl, by intro W hSw; go_simp; (try with_reducible rfl)⟩) hHeld ?_
  simp only [Act.put, List.setIfInBounds_toArray, List.set_cons_zero, List.set_cons_succ]
  refine wpAnyH_take (i := 24) (op_at rfl) (by kernel_rfl) (by kernel_rfl) (by kernel_rfl) (fun _ _ _ h => h) (Or.inl ⟨by rfl, by intro W hSw; go_simp; (try with_reducible rfl)⟩) hHeld ?_
  simp only [Act.put, List.setIfInBounds_toArray, List.set_cons_zero, List.set_cons_succ]
  refine wpAnyH_take (i := 25) (op_at rfl) (by kernel_rfl) (by kernel_rfl) (by kernel_rfl) (fun _ _ _ h => h) (Or.inl ⟨by rfl, by intro W hSw; go_simp; (try with_reducible rfl)⟩) hHeld ?_
  simp only [Act.put, List.setIfInBounds_toArray, List.set_cons_zero, List.set_cons_succ]
  refine wpAnyH_take (i := 26) (op_at rfl) (by kernel_rfl) (by kernel_rfl) (by kernel_rfl) (fun _ _ _ h => h) (Or.inl ⟨by rfl, by intro W hSw; go_simp; (try with_reducible rfl)⟩) hHeld ?_
  simp only [Act.put, List.setIfInBounds_toArray, List.set_cons_zero, List.set_cons_succ]
  refine wpAnyH_take (i := 27) (op_at rfl) (by kernel_rfl) (by kernel_rfl) (by kernel_rfl) (fun _ _ _ h => h) (Or.inl ⟨by rfl, by intro W hSw; go_simp; (try with_reducible rfl)⟩) hHeld ?_
  simp only [Act.put, List.setIfInBounds_toArray, List.set_cons_zero, List.set_cons_succ]
  refine wpAnyH_done (by kernel_rfl) ?_ _
  have HEND := Lib.hid (Bel.call HBW2.out hBw7)
  clear hBw3 hBw4 hBw5 hBw6 hBw7 hdw3 hdw4 hdw5 hdw6 hdw7 hS hS3 hS4 hS5 hS6 hS7 hBdrew
  go_wp2_with fail
  go_ret
  exact ⟨rfl, HEND.out⟩
end Go.Proofs.Ytndkkgkcbbmnpaa
