/-
  Every header's bytes and name; every text of bytes is read as its header, or refused (the statement BlockHeaders, where what is read is of bulk at most 1048576).
  The frame of a law's proof: how arguments open (bytes, rows of bytes), what the bound on their bulk gives, that arguments read behind the call as before.
  How an argument that is a header, or a block, opens.
-/
import Derived.Test.YtndkkgkcbbmnpaaHdAQ
import Derived.Test.YtndkkgkcbbmnpaaRows
import Derived.ProofKit
import Derived.OpenShut
import Derived.JoinedCond
import Derived.ChangeSame
import Derived.Carry
import Derived.Deep.Matrix
import Derived.Lib.SmallJoins
namespace Go.Pg
open Go.RowKit
section
variable {P : Program} {ops : Array Oper} {Q : Exit → Act → World → Prop} {md : Region.Mode}
theorem wpAnyH_under {S S' : World → Prop} (h : ∀ w, S' w → S w) : ∀ (fuel : Nat) (listed : Array Bool) (a : Act) (w : World), wpAnyH P md ops Q S' fuel listed a w → wpAnyH P md ops Q S fuel listed a w
  | 0, _, _, _, k => k
  | fuel + 1, _, _, _, k => ⟨k.1, fun i hi => wpOp_mono (fun a' w' h' => ⟨h w' h'.1, wpAnyH_under h fuel _ a' w' h'.2⟩) (k.2 i hi)⟩
end
end Go.Pg
namespace Go.Proofs.Ytndkkgkcbbmnpaa
open Go.RowKit Go.Pg

set_option maxRecDepth 100000 in
set_option maxHeartbeats 8000000 in
theorem headers_walk (F : Nat → Prop) (w : World) (h : Hdr) (ho : h.ok) (ab : Option Addr) (nb cb : Nat) (B : List UInt8) (hB : BytesAt F w (.slice ab nb cb) B) (hBl : nb ≤ 1099511627776) :
    Calls Try.prog 8 #[.agg (hdrCells h), .slice ab nb cb] w fun e w' => e = .returned (.bool true) ∧ Below w.heap.size w w' := by
  obtain ⟨ZH, hZH⟩ : ∃ ZR : Array Value, ZR = Try.zeroCells47 := ⟨_, rfl⟩
  have hZH2 : ZH.size = 131 := by rw [hZH]; kernel_rfl
  obtain ⟨HC, hHC⟩ : ∃ C, C = hdrCells h := ⟨_, rfl⟩
  obtain ⟨X, hX⟩ : ∃ X, X = hdrDecode B := ⟨_, rfl⟩
  have hXo : X.1.ok := by rw [hX]; exact hdrDecode_ok B
  have hXr : refHdrDecode B = X := by rw [hX, hdrDecode_eq]
  obtain ⟨XH, xe⟩ := X
  try simp only at hXo
  obtain ⟨XC, hXC⟩ : ∃ C, C = hdrCells XH := ⟨_, rfl⟩
  obtain ⟨E, hE⟩ : ∃ B, B = hdrBytes h := ⟨_, rfl⟩
  obtain ⟨D, hD⟩ : ∃ D, D = digestOf E := ⟨_, rfl⟩
  have hDl : D.length = 32 := by rw [hD]; exact digestOf_length _
  have he1 := fun (W : World) => encHdr_any W h ho (by have := hdr_whole h ho; omega)
  have he2 := fun (W : World) => rencHdr_any W h ho (by have := hdr_whole h ho; omega)
  have hn1 := fun (W : World) => bName_any W h ho
  have hn2 := fun (W : World) => rName_any W h ho
  rw [← hHC, ← hE] at he1 he2 hn1 hn2
  rw [← hD] at hn1 hn2
  have heq : ∀ W : World, (Op.equalIn 10000 37 (.agg (cellsOf D)) (.agg (cellsOf D))).run Try.prog W = .ok true W := fun W => by
    have h := digEq D D hDl hDl W
    rw [decide_eq_true rfl] at h
    exact h
  have heh : ∀ W : World, (Op.equalIn 10000 47 (.agg XC) (.agg XC)).run Try.prog W = .ok true W := fun W => by rw [hXC]; exact hdrEq XH hXo W
  have hsx : XC.size = 131 := by rw [hXC]; exact hdrCells_size _ hXo
  have hsh : HC.size = 131 := by rw [hHC]; exact hdrCells_size _ ho
  obtain ⟨fs, hu⟩ := underlyingHdr
  obtain ⟨W0, hW0⟩ : ∃ W : World, W = w.alloc (.cells HC 47) := ⟨_, rfl⟩
  have hb0 : Below w.heap.size w W0 := by rw [hW0]; exact Bel.alloc (Bel.refl w) _
  have hk0 : W0.heap[w.heap.size]? = some (.cells HC 47 (0, 0)) := by rw [hW0]; exact heap_alloc_new w _
  have hd1 := bhdec_any F W0 ab nb cb B (BytesAt.below hB hb0) (by omega)
  rw [← hX] at hd1
  try simp only at hd1
  have HIXC := Lib.hid (show (Try.prog.info? 47).map (·.size) = some XC.size by rw [hsx]; exact infoHdr)
  have HIHC := Lib.hid (show (Try.prog.info? 47).map (·.size) = some HC.size by rw [hsh]; exact infoHdr)
  have HSX := Lib.hid (show ZH.size = XC.size by rw [hsx, hZH2])
  have HOX := Lib.hid (show XC.all (·.oneCell') = true by rw [hXC]; exact hdrCells_one _)
  have HZH := Lib.hid hZH
  have HXR := Lib.hid hXr
  have HXC := Lib.hid hXC
  have HE1 := Lib.hid he1
  have HE2 := Lib.hid he2
  have HN1 := Lib.hid hn1
  have HN2 := Lib.hid hn2
  have HEQ := Lib.hid heq
  have HEH := Lib.hid heh
  have HU := Lib.hid hu
  have HW0 := Lib.hid hW0
  have HB0 := Lib.hid hb0
  have HK0 := Lib.hid hk0
  have HD1 := Lib.hid hd1
  have HBB := Lib.hid hB
  rw [← hHC]
  clear hZH hZH2 hHC hX hXo hXr hXC hE hD hDl he1 he2 hn1 hn2 heq heh hsx hsh hu hW0 hb0 hk0 hd1 hB
  go_enter Try.func8, Try.ntmps8
  go_wp2_with fail
  rw [← HW0.out]
  refine HD1.out.mono ?_
  rintro e w1 ⟨rfl, hb1⟩
  try simp only
  rw [← HXC.out]
  obtain ⟨W1, hW1⟩ : ∃ W : World, W = (w1.alloc (.cells ZH 47)).setRow w1.heap.size XC := ⟨_, rfl⟩
  have hz1 : (w1.alloc (.cells ZH 47)).heap[w1.heap.size]? = some (.cells ZH 47 (0, 0)) := heap_alloc_new w1 _
  have hk1 : W1.heap[w1.heap.size]? = some (.cells XC 47 (0, 0)) := by rw [hW1]; exact setRow_heap _ _ _ _ _ _ hz1
  have hbW1 : Below W0.heap.size W0 W1 := Bel.call hb1 (by rw [hW1]; exact below_setRow (Bel.alloc (Bel.refl w1) _) (Nat.le_refl _) _)
  have hd2 := rhdec_any F W1 ab nb cb B (BytesAt.below (BytesAt.below HBB.out HB0.out) hbW1) (by omega)
  rw [HXR.out] at hd2
  try simp only at hd2
  have HZ1 := Lib.hid hz1
  have HK1 := Lib.hid hk1
  have HW1 := Lib.hid hW1
  have HBW1 := Lib.hid hbW1
  have HD2 := Lib.hid hd2
  clear hz1 hk1 hW1 hbW1 hd2 hb1
  go_wp2_with (rw [← HZH.out]; (with_reducible refine wpL_store_row 47 (.tmp 5) (.tmp 12) w1.heap.size XC 47 ZH ?_ ⟨HZ1.out, HIXC.out, HSX.out, HOX.out⟩ ?_); (exact ⟨rfl, rfl, rfl, rfl⟩); rw [← HW1.out])
  refine HD2.out.mono ?_
  rintro e w2 ⟨rfl, hb2⟩
  try simp only
  rw [← HXC.out]
  obtain ⟨W2, hW2⟩ : ∃ W : World, W = (w2.alloc (.cells ZH 47)).setRow w2.heap.size XC := ⟨_, rfl⟩
  have hz2 : (w2.alloc (.cells ZH 47)).heap[w2.heap.size]? = some (.cells ZH 47 (0, 0)) := heap_alloc_new w2 _
  have hk2 : W2.heap[w2.heap.size]? = some (.cells XC 47 (0, 0)) := by rw [hW2]; exact setRow_heap _ _ _ _ _ _ hz2
  have hb12 : Below W1.heap.size W1 W2 := Bel.call hb2 (by rw [hW2]; exact below_setRow (Bel.alloc (Bel.refl w2) _) (Nat.le_refl _) _)
  have hl1 := (Array.getElem?_eq_some_iff.1 HK1.out).1
  have hl0 := (Array.getElem?_eq_some_iff.1 HK0.out).1
  have hl2 := (Array.getElem?_eq_some_iff.1 hk2).1
  have hb02 : Below W0.heap.size W0 W2 := Bel.call HBW1.out hb12
  have hr0 : ∀ W : World, Below W2.heap.size W2 W → W.heap[w.heap.size]? = some (.cells HC 47 (0, 0)) := fun W hW => by
    have := hb02.size
    exact (hW.block _ (by omega)).trans ((hb02.block _ hl0).trans HK0.out)
  have hr1 : ∀ W : World, Below W2.heap.size W2 W → W.heap[w1.heap.size]? = some (.cells XC 47 (0, 0)) := fun W hW => by
    have := hb12.size
    exact (hW.block _ (by omega)).trans ((hb12.block _ hl1).trans HK1.out)
  have hr2 : ∀ W : World, Below W2.heap.size W2 W → W.heap[w2.heap.size]? = some (.cells XC 47 (0, 0)) := fun W hW => (hW.block _ hl2).trans hk2
  have hbw2 : Below w.heap.size w W2 := Bel.call HB0.out hb02
  have HZ2 := Lib.hid hz2
  have HW2 := Lib.hid hW2
  have HR0 := Lib.hid hr0
  have HR1 := Lib.hid hr1
  have HR2 := Lib.hid hr2
  have HBW2 := Lib.hid hbw2
  obtain ⟨S, hS⟩ : ∃ S : World → Prop, S = fun W => Below W2.heap.size W2 W := ⟨_, rfl⟩
  have hHd : S W2.drew := by rw [hS]; exact Bel.drew (Bel.refl W2)
  have HHD := Lib.hid hHd
  have hS' := Lib.hid hS
  clear hz2 hk2 hW2 hb12 hl1 hl0 hl2 hb02 hr0 hr1 hr2 hbw2 hHd hS hb2
  go_wp2_with (rw [← HZH.out]; (with_reducible refine wpL_store_row 47 (.tmp 7) (.tmp 17) w2.heap.size XC 47 ZH ?_ ⟨HZ2.out, HIXC.out, HSX.out, HOX.out⟩ ?_); (exact ⟨rfl, rfl, rfl, rfl⟩); rw [← HW2.out])
  refine wp_region_held_drew (S := S) (by kernel_rfl) HHD.out (fun hHeld => ?_)
  have hS := hS'.out
  have hBdrew : Below W2.heap.size W2 W2.drew := Bel.drew (Bel.refl W2)
  refine wpAnyH_ready (rs := [0]) (by kernel_rfl) (by simp) (AllReadyH.cons (op_at rfl) (fun K hK => ?_) AllReadyH.nil)
  clear hHeld
  go_simp
  go_at_call 21
  refine (alive19_any W2.drew).mono ?_
  rintro e w3 ⟨rfl, hb⟩
  have hdw3 : Below W2.heap.size W2 w3 := Bel.call hBdrew hb
  have hsw3 : S w3 := by rw [hS]; exact hdw3
  clear hb
  go_wp2_with fail
  refine hK.out _ _ hsw3 (fun hHeld0 => ?_)
  clear hK K hHeld0 hsw3
  try simp only [Act.put, List.setIfInBounds_toArray, List.set_cons_zero, List.set_cons_succ]
  obtain ⟨S3, hS3⟩ : ∃ S : World → Prop, S = fun W => Below w3.heap.size w3 W := ⟨_, rfl⟩
  refine wpAnyH_under (S' := S3) (fun W h => by rw [hS3] at h; rw [hS]; exact Bel.call hdw3 h) _ _ _ _ ?_
  have hHeld : S3 w3 := by rw [hS3]; exact Bel.refl _
  have hBw3 : Below W2.heap.size W2 w3 := hdw3
  refine wpAnyH_take (i := 1) (op_at rfl) (by kernel_rfl) (by kernel_rfl) (by kernel_rfl) (fun _ _ _ h => h) (Or.inl ⟨by rfl, by intro W hSw; go_simp; (try with_reducible rfl)⟩) hHeld ?_
  simp only [Act.put, List.setIfInBounds_toArray, List.set_cons_zero, List.set_cons_succ]
  refine wpAnyH_take (i := 2) (op_at rfl) (by kernel_rfl) (by kernel_rfl) (by kernel_rfl) (fun _ _ _ h => h) (yieldsIf_load_row (by rfl) 47 (.tmp 2) rfl w.heap.size rfl HC 47 (.struct fs) (fun W h => HR0.out W (by rw [hS3] at h; exact Bel.call hBw3 h)) HU.out rfl HIHC.out) hHeld ?_
  simp only [Act.put, List.setIfInBounds_toArray, List.set_cons_zero, List.set_cons_succ]
  refine wpAnyH_take (i := 5) (op_at rfl) (by kernel_rfl) (by kernel_rfl) (by kernel_rfl) (fun _ _ _ h => h) (yieldsIf_load_row (by rfl) 47 (.tmp 2) rfl w.heap.size rfl HC 47 (.struct fs) (fun W h => HR0.out W (by rw [hS3] at h; exact Bel.call hBw3 h)) HU.out rfl HIHC.out) hHeld ?_
  simp only [Act.put, List.setIfInBounds_toArray, List.set_cons_zero, List.set_cons_succ]
  refine wpAnyH_ready (rs := [3]) (by kernel_rfl) (by simp) (AllReadyH.cons (op_at rfl) (fun K hK => ?_) AllReadyH.nil)
  clear hHeld
  go_simp
  go_at_call 27
  refine (HE1.out w3).mono ?_
  rintro e w4 ⟨v4, rfl, ho, hb⟩
  obtain ⟨a4, c4, rfl, -, -, -⟩ := ho.len
  have hat := ho.at (F := fun _ => True) (fun _ _ _ _ => trivial) (by decide)
  obtain ⟨m4, hm4⟩ : ∃ m, m = E.length := ⟨_, rfl⟩
  rw [← hm4] at hat ⊢
  have HAT4 := Lib.hid hat
  clear ho hat hm4
  have hdw4 : Below w3.heap.size w3 w4 := hb
  have hsw4 : S3 w4 := by rw [hS3]; exact hdw4
  clear hb
  go_wp2_with fail
  refine hK.out _ _ hsw4 (fun hHeld0 => ?_)
  clear hK K hHeld0 hsw4
  try simp only [Act.put, List.setIfInBounds_toArray, List.set_cons_zero, List.set_cons_succ]
  obtain ⟨S4, hS4⟩ : ∃ S : World → Prop, S = fun W => Below w4.heap.size w4 W := ⟨_, rfl⟩
  refine wpAnyH_under (S' := S4) (fun W h => by rw [hS4] at h; rw [hS3]; exact Bel.call hdw4 h) _ _ _ _ ?_
  have hHeld : S4 w4 := by rw [hS4]; exact Bel.refl _
  have hBw4 : Below W2.heap.size W2 w4 := Bel.call hBw3 hdw4
  refine wpAnyH_take (i := 4) (op_at rfl) (by kernel_rfl) (by kernel_rfl) (by kernel_rfl) (fun _ _ _ h => h) (Or.inl ⟨by rfl, by intro W hSw; have hc := run_string_at (P := Try.prog) (BytesAt.below HAT4.out (show Below w4.heap.size w4 W by rw [hS4] at hSw; exact hSw)) 25 5 9 Try.underlying25 Try.underlying5 Try.underlying9; go_simp; (try with_reducible rfl)⟩) hHeld ?_
  simp only [Act.put, List.setIfInBounds_toArray, List.set_cons_zero, List.set_cons_succ]
  refine wpAnyH_ready (rs := [6]) (by kernel_rfl) (by simp) (AllReadyH.cons (op_at rfl) (fun K hK => ?_) AllReadyH.nil)
  clear hHeld
  go_simp
  go_at_call 28
  refine (HE2.out w4).mono ?_
  rintro e w5 ⟨v5, rfl, ho, hb⟩
  obtain ⟨a5, c5, rfl, -, -, -⟩ := ho.len
  have hat := ho.at (F := fun _ => True) (fun _ _ _ _ => trivial) (by decide)
  obtain ⟨m5, hm5⟩ : ∃ m, m = E.length := ⟨_, rfl⟩
  rw [← hm5] at hat ⊢
  have HAT5 := Lib.hid hat
  clear ho hat hm5
  have hdw5 : Below w4.heap.size w4 w5 := hb
  have hsw5 : S4 w5 := by rw [hS4]; exact hdw5
  clear hb
  go_wp2_with fail
  refine hK.out _ _ hsw5 (fun hHeld0 => ?_)
  clear hK K hHeld0 hsw5
  try simp only [Act.put, List.setIfInBounds_toArray, List.set_cons_zero, List.set_cons_succ]
  obtain ⟨S5, hS5⟩ : ∃ S : World → Prop, S = fun W => Below w5.heap.size w5 W := ⟨_, rfl⟩
  refine wpAnyH_under (S' := S5) (fun W h => by rw [hS5] at h; rw [hS4]; exact Bel.call hdw5 h) _ _ _ _ ?_
  have hHeld : S5 w5 := by rw [hS5]; exact Bel.refl _
  have hBw5 : Below W2.heap.size W2 w5 := Bel.call hBw4 hdw5
  refine wpAnyH_take (i := 7) (op_at rfl) (by kernel_rfl) (by kernel_rfl) (by kernel_rfl) (fun _ _ _ h => h) (Or.inl ⟨by rfl, by intro W hSw; have hc := run_string_at (P := Try.prog) (BytesAt.below HAT5.out (show Below w5.heap.size w5 W by rw [hS5] at hSw; exact hSw)) 25 5 9 Try.underlying25 Try.underlying5 Try.underlying9; go_simp; (try with_reducible rfl)⟩) hHeld ?_
  simp only [Act.put, List.setIfInBounds_toArray, List.set_cons_zero, List.set_cons_succ]
  refine wpAnyH_take (i := 8) (op_at rfl) (by kernel_rfl) (by kernel_rfl) (by kernel_rfl) (fun _ _ _ h => h) (Or.inl ⟨by rfl, by intro W hSw; go_simp; (try with_reducible rfl)⟩) hHeld ?_
  simp only [Act.put, List.setIfInBounds_toArray, List.set_cons_zero, List.set_cons_succ]
  refine wpAnyH_take (i := 9) (op_at rfl) (by kernel_rfl) (by kernel_rfl) (by kernel_rfl) (fun _ _ _ h => h) (Or.inl ⟨by rfl, by intro W hSw; go_simp; (try with_reducible rfl)⟩) hHeld ?_
  simp only [Act.put, List.setIfInBounds_toArray, List.set_cons_zero, List.set_cons_succ]
  refine wpAnyH_take (i := 10) (op_at rfl) (by kernel_rfl) (by kernel_rfl) (by kernel_rfl) (fun _ _ _ h => h) (Or.inl ⟨by rfl, by intro W hSw; go_simp; (try with_reducible rfl)⟩) hHeld ?_
  simp only [Act.put, List.setIfInBounds_toArray, List.set_cons_zero, List.set_cons_succ]
  refine wpAnyH_take (i := 11) (op_at rfl) (by kernel_rfl) (by kernel_rfl) (by kernel_rfl) (fun _ _ _ h => h) (yieldsIf_load_row (by rfl) 47 (.tmp 2) rfl w.heap.size rfl HC 47 (.struct fs) (fun W h => HR0.out W (by rw [hS5] at h; exact Bel.call hBw5 h)) HU.out rfl HIHC.out) hHeld ?_
  simp only [Act.put, List.setIfInBounds_toArray, List.set_cons_zero, List.set_cons_succ]
  refine wpAnyH_take (i := 13) (op_at rfl) (by kernel_rfl) (by kernel_rfl) (by kernel_rfl) (fun _ _ _ h => h) (yieldsIf_load_row (by rfl) 47 (.tmp 2) rfl w.heap.size rfl HC 47 (.struct fs) (fun W h => HR0.out W (by rw [hS5] at h; exact Bel.call hBw5 h)) HU.out rfl HIHC.out) hHeld ?_
  simp only [Act.put, List.setIfInBounds_toArray, List.set_cons_zero, List.set_cons_succ]
  refine wpAnyH_ready (rs := [12]) (by kernel_rfl) (by simp) (AllReadyH.cons (op_at rfl) (fun K hK => ?_) AllReadyH.nil)
  clear hHeld
  go_simp
  go_at_call 29
  refine (HN1.out w5).mono ?_
  rintro e w6 ⟨rfl, hb⟩
  have hdw6 : Below w5.heap.size w5 w6 := hb
  have hsw6 : S5 w6 := by rw [hS5]; exact hdw6
  clear hb
  go_wp2_with fail
  refine hK.out _ _ hsw6 (fun hHeld0 => ?_)
  clear hK K hHeld0 hsw6
  try simp only [Act.put, List.setIfInBounds_toArray, List.set_cons_zero, List.set_cons_succ]
  obtain ⟨S6, hS6⟩ : ∃ S : World → Prop, S = fun W => Below w6.heap.size w6 W := ⟨_, rfl⟩
  refine wpAnyH_under (S' := S6) (fun W h => by rw [hS6] at h; rw [hS5]; exact Bel.call hdw6 h) _ _ _ _ ?_
  have hHeld : S6 w6 := by rw [hS6]; exact Bel.refl _
  have hBw6 : Below W2.heap.size W2 w6 := Bel.call hBw5 hdw6
  refine wpAnyH_ready (rs := [14]) (by kernel_rfl) (by simp) (AllReadyH.cons (op_at rfl) (fun K hK => ?_) AllReadyH.nil)
  clear hHeld
  go_simp
  go_at_call 30
  refine (HN2.out w6).mono ?_
  rintro e w7 ⟨rfl, hb⟩
  have hdw7 : Below w6.heap.size w6 w7 := hb
  have hsw7 : S6 w7 := by rw [hS6]; exact hdw7
  clear hb
  go_wp2_with fail
  refine hK.out _ _ hsw7 (fun hHeld0 => ?_)
  clear hK K hHeld0 hsw7
  try simp only [Act.put, List.setIfInBounds_toArray, List.set_cons_zero, List.set_cons_succ]
  obtain ⟨S7, hS7⟩ : ∃ S : World → Prop, S = fun W => Below w7.heap.size w7 W := ⟨_, rfl⟩
  refine wpAnyH_under (S' := S7) (fun W h => by rw [hS7] at h; rw [hS6]; exact Bel.call hdw7 h) _ _ _ _ ?_
  have hHeld : S7 w7 := by rw [hS7]; exact Bel.refl _
  have hBw7 : Below W2.heap.size W2 w7 := Bel.call hBw6 hdw7
  refine wpAnyH_take (i := 15) (op_at rfl) (by kernel_rfl) (by kernel_rfl) (by kernel_rfl) (fun _ _ _ h => h) (Or.inl ⟨by rfl, by intro W hSw; have hc := HEQ.out W; go_simp; (try with_reducible rfl)⟩) hHeld ?_
  simp only [Act.put, List.setIfInBounds_toArray, List.set_cons_zero, List.set_cons_succ]
  refine wpAnyH_take (i := 16) (op_at rfl) (by kernel_rfl) (by kernel_rfl) (by kernel_rfl) (fun _ _ _ h => h) (Or.inl ⟨by rfl, by intro W hSw; go_simp; (try with_reducible rfl)⟩) hHeld ?_
  simp only [Act.put, List.setIfInBounds_toArray, List.set_cons_zero, List.set_cons_succ]
  refine wpAnyH_take (i := 17) (op_at rfl) (by kernel_rfl) (by kernel_rfl) (by kernel_rfl) (fun _ _ _ h => h) (Or.inl ⟨by rfl, by intro W hSw; go_simp; (try with_reducible rfl)⟩) hHeld ?_
  simp only [Act.put, List.setIfInBounds_toArray, List.set_cons_zero, List.set_cons_succ]
  refine wpAnyH_take (i := 18) (op_at rfl) (by kernel_rfl) (by kernel_rfl) (by kernel_rfl) (fun _ _ _ h => h) (yieldsIf_load_row (by rfl) 47 (.tmp 5) rfl w1.heap.size rfl XC 47 (.struct fs) (fun W h => HR1.out W (by rw [hS7] at h; exact Bel.call hBw7 h)) HU.out rfl HIXC.out) hHeld ?_
  simp only [Act.put, List.setIfInBounds_toArray, List.set_cons_zero, List.set_cons_succ]
  refine wpAnyH_take (i := 19) (op_at rfl) (by kernel_rfl) (by kernel_rfl) (by kernel_rfl) (fun _ _ _ h => h) (yieldsIf_load_row (by rfl) 47 (.tmp 7) rfl w2.heap.size rfl XC 47 (.struct fs) (fun W h => HR2.out W (by rw [hS7] at h; exact Bel.call hBw7 h)) HU.out rfl HIXC.out) hHeld ?_
  simp only [Act.put, List.setIfInBounds_toArray, List.set_cons_zero, List.set_cons_succ]
  refine wpAnyH_take (i := 20) (op_at rfl) (by kernel_rfl) (by kernel_rfl) (by kernel_rfl) (fun _ _ _ h => h) (yieldsIf_eql_agg (by rfl) 47 (.tmp 37) (.tmp 38) 47 rfl XC XC rfl rfl (by kernel_rfl) true HEH.out) hHeld ?_
  simp only [Act.put, List.setIfInBounds_toArray, List.set_cons_zero, List.set_cons_succ]
  refine wpAnyH_take (i := 21) (op_at rfl) (by kernel_rfl) (by kernel_rfl) (by kernel_rfl) (fun _ _ _ h => h) (Or.inl ⟨by rfl, by intro W hSw; go_simp; (try with_reducible rfl)⟩) hHeld ?_
  simp only [Act.put, List.setIfInBounds_toArray, List.set_cons_zero, List.set_cons_succ]
  refine wpAnyH_take (i := 22) (op_at rfl) (by kernel_rfl) (by kernel_rfl) (by kernel_rfl) (fun _ _ _ h => h) (Or.inl ⟨by rfl, by intro W hSw; go_simp; (try with_reducible rfl)⟩) hHeld ?_
  simp only [Act.put, List.setIfInBounds_toArray, List.set_cons_zero, List.set_cons_succ]
  refine wpAnyH_take (i := 23) (op_at rfl) (by kernel_rfl) (by kernel_rfl) (by kernel_rfl) (fun _ _ _ h => h) (Or.inl ⟨by rfl, by intro W hSw; go_simp; (try with_reducible rfl)⟩) hHeld ?_
  simp only [Act.put, List.setIfInBounds_toArray, List.set_cons_zero, List.set_cons_succ]
  refine wpAnyH_take (i := 24) (op_at rfl) (by kernel_rfl) (by kernel_rfl) (by kernel_rfl) (fun _ _ _ h => h) (Or.inl ⟨by rfl, by intro W hSw; go_simp; (try with_reducible rfl)⟩) hHeld ?_
  simp only [Act.put, List.setIfInBounds_toArray, List.set_cons_zero, List.set_cons_succ]
  refine wpAnyH_take (i := 25) (op_at rfl) (by kernel_rfl) (by kernel_rfl) (by kernel_rfl) (fun _ _ _ h => h) (Or.inl ⟨by rfl, by intro W hSw; go_simp; (try with_reducible rfl)⟩) hHeld ?_
  simp only [Act.put, List.setIfInBounds_toArray, List.set_cons_zero, List.set_cons_succ]
  refine wpAnyH_take (i := 26) (op_at rfl) (by kernel_rfl) (by kernel_rfl) (by kernel_rfl) (fun _ _ _ h => h) (Or.inl ⟨by rfl, by intro W hSw; go_simp; (try with_reducible rfl)⟩) hHeld ?_
  simp only [Act.put, List.setIfInBounds_toArray, List.set_cons_zero, List.set_cons_succ]
  refine wpAnyH_take (i := 27) (op_at rfl) (by kernel_rfl) (by kernel_rfl) (by kernel_rfl) (fun _ _ _ h => h) (Or.inl ⟨by rfl, by intro W hSw; go_simp; (try with_reducible rfl)⟩) hHeld ?_
  simp only [Act.put, List.setIfInBounds_toArray, List.set_cons_zero, List.set_cons_succ]
  refine wpAnyH_done (by kernel_rfl) ?_ _
  have HEND := Lib.hid (Bel.call HBW2.out hBw7)
  clear hBw3 hBw4 hBw5 hBw6 hBw7 hdw3 hdw4 hdw5 hdw6 hdw7 hS hS3 hS4 hS5 hS6 hS7 hBdrew
  go_wp2_with fail
  go_ret
  exact ⟨rfl, HEND.out⟩
end Go.Proofs.Ytndkkgkcbbmnpaa
namespace Go.Proofs.Ytndkkgkcbbmnpaa
open Go.ChangeShapes Go.WideShapes Go.ChangeAt Go.RowKit Go.Pg

/-! ## What the bound gives -/
theorem bulk_one {H : Type} (d : DataW H) : 1 ≤ Rows.uptoBulk d := by
  cases d with
  | lit l => cases l <;> simp [Rows.uptoBulk]
  | nil => simp [Rows.uptoBulk]
  | ptr d => simp [Rows.uptoBulk]
  | slice elems spare => simp [Rows.uptoBulk]
  | agg parts => simp [Rows.uptoBulk]
  | iface t d => simp [Rows.uptoBulk]
  | map entries => simp [Rows.uptoBulk]
  | held h => simp [Rows.uptoBulk]
theorem bulk_len {H : Type} (l : List (DataW H)) : l.length ≤ Rows.uptoBulkAll l := by
  induction l with
  | nil => simp [Rows.uptoBulkAll]
  | cons x r ih => have := bulk_one x; simp only [Rows.uptoBulkAll, List.length_cons]; omega
theorem bulk_map {H α : Type} (g : α → DataW H) (f : α → Nat) (l : List α) (h : ∀ r, r ∈ l → f r ≤ Rows.uptoBulk (g r)) : (l.map f).sum ≤ Rows.uptoBulkAll (l.map g) := by
  induction l with
  | nil => simp
  | cons x r ih =>
    have h1 := h x (List.mem_cons_self ..)
    have h2 := ih (fun y hy => h y (List.mem_cons_of_mem _ hy))
    simp only [List.map_cons, List.sum_cons, Rows.uptoBulkAll]; omega
theorem bulk_bound {H : Type} {l : List (DataW H)} (hk : Rows.uptoSmall H l = true) : Rows.uptoBulkAll l ≤ 1048576 := of_decide_eq_true hk
/-- how much rows of bytes take, each with its own place -/
def rowsSum (l : List (List UInt8)) : Nat := (l.map fun x => x.length + 1).sum
theorem rowsSum_len (l : List (List UInt8)) : l.length ≤ rowsSum l := by
  unfold rowsSum
  induction l with
  | nil => simp
  | cons x r ih => simp only [List.map_cons, List.sum_cons, List.length_cons]; omega
theorem rowsSum_mem (l : List (List UInt8)) (x : List UInt8) (h : x ∈ l) : x.length ≤ rowsSum l := by
  unfold rowsSum
  induction l with
  | nil => cases h
  | cons y r ih =>
    simp only [List.map_cons, List.sum_cons]
    rcases List.mem_cons.1 h with rfl | h
    · omega
    · have := ih h; omega

/-! ## How arguments open -/
section
variable {H : Type} {enc : TypeId × Value → H} {P : Program} {w : World} {held : Bool}
theorem byte_of_wf {n : Int} (h : (Lit.int .u8 n).wf = true) : ((UInt8.ofNat n.toNat).toNat : Int) = n := by
  have h1 : 0 ≤ n ∧ n ≤ 255 := by simpa [Lit.wf, IntKind.min, IntKind.max, IntKind.signed, IntKind.bits] using h
  rw [UInt8.toNat_ofNat']
  omega
theorem cell_spot {a : Addr} {v : Value} (h : w.cell? a = some v) : a = ⟨a.block, a.off, none⟩ := by
  unfold World.cell? at h
  split at h
  · split at h
    · cases h
    · rename_i hs
      obtain ⟨b, o, s⟩ := a
      cases s with
      | none => rfl
      | some x => simp at hs
  · cases h
theorem add_at (b o k : Nat) : (⟨b, o, none⟩ : Addr).add k = ⟨b, o + k, none⟩ := by unfold Addr.add; split <;> simp_all
theorem add_zero' (a : Addr) : a.add 0 = a := by unfold Addr.add; rw [if_pos rfl]
/-- cells of bytes, as a slice of them -/
theorem bytes_at {A : Option Addr} {L C : Nat} {Z : List Int} (hLC : L ≤ C) (hC : C ≤ maxLen) (hZ : Z.length = C) (hwf : ∀ n ∈ Z, (Lit.int .u8 n).wf = true) (hA : A = none → C = 0)
    (hc : ∀ a, A = some a → ∀ c, c < C → w.cell? (a.add c) = some (.int .u8 (Z.getD c 0))) (hfz : ∀ a, A = some a → ∀ c, c < C → w.frozen? ⟨a.block, a.off + c, none⟩ = false) :
    BytesAt (fun b => b < w.heap.size) w (.slice A L C) ((Z.take L).map fun n => UInt8.ofNat n.toNat) := by
  have hlen : ((Z.take L).map fun n => UInt8.ofNat n.toNat).length = L := by rw [List.length_map, List.length_take]; omega
  refine ⟨A, C, by rw [hlen], by omega, hC, hA, fun hp => ?_, fun b o j ha hj => by subst ha; exact hfz _ rfl j (by rw [hlen] at hj; omega)⟩
  cases A with
  | none => have := hA rfl; omega
  | some a =>
    have h0 := hc a rfl 0 (by omega)
    rw [add_zero'] at h0
    have hs := cell_spot h0
    refine ⟨a.block, a.off, by rw [← hs], cell_lt (by rw [← hs]; exact h0), fun i x hx => ?_⟩
    rw [List.getElem?_map, Option.map_eq_some_iff] at hx
    obtain ⟨n, hn, rfl⟩ := hx
    rw [List.getElem?_take] at hn
    split at hn
    · rename_i hi
      have hcell := hc a rfl i (by omega)
      rw [hs, add_at] at hcell
      have hg : Z.getD i 0 = n := by rw [List.getD_eq_getElem?_getD, hn]; rfl
      refine ⟨[.int .u8 ((UInt8.ofNat n.toNat).toNat : Int)], rfl, rfl, fun j u hu => ?_⟩
      match j, hu with
      | 0, hu =>
        have hw := byte_of_wf (hwf n (List.mem_of_getElem? hn))
        simp only [List.getElem?_cons_zero, Option.some.injEq] at hu
        subst hu
        rw [hw, ← hg]
        simpa using hcell
    · cases hn
/-- an argument that is a slice of bytes -/
theorem open_bytes {t e : TypeId} {fuel : Nat} {v : Value} {x : DataW H × List MemPlace} (ht : P.underlying t = some (.slice e)) (he : P.underlying e = some (.int .u8)) (hc : P.cellsOf e = 1)
    (h : DataW.trod enc P w 0 (fun _ => true) held fuel t [v] = some x) (hfz : ∀ b o, MemPlace.cell b o ∈ x.2 → w.frozen? ⟨b, o, none⟩ = false) :
    ∃ bs a c, v = .slice a bs.length c ∧ BytesAt (fun b => b < w.heap.size) w v bs ∧ bs.length + 1 ≤ Rows.uptoBulk x.1 := by
  rcases open_ints ht he hc h with ⟨hv, rfl⟩ | ⟨a, len, cap, zs, hv, -, hl, hm, hz, rfl, hcell, hwf⟩
  · simp only [List.cons.injEq, and_true] at hv
    subst hv
    exact ⟨[], none, 0, rfl, BytesAt.nil _ _, by simp [Rows.uptoBulk]⟩
  · simp only [List.cons.injEq, and_true] at hv
    subst hv
    simp only [if_true] at hz
    have hb := bytes_at (w := w) (A := some a) (L := len) (C := cap) (Z := zs) hl hm hz hwf (fun h => by cases h) (fun a' ha c hc => by cases ha; exact hcell c (by omega)) (fun a' ha c hc => by cases ha; exact hfz _ _ (List.mem_map.2 ⟨c, List.mem_range.2 (by omega), rfl⟩))
    have hlen : ((zs.take len).map fun n => UInt8.ofNat n.toNat).length = len := by rw [List.length_map, List.length_take]; omega
    refine ⟨_, some a, cap, by rw [hlen], hb, ?_⟩
    have h1 := bulk_len (H := H) (lits .u8 (zs.take len))
    have h2 : (lits (H := H) .u8 (zs.take len)).length = len := by simp [lits]; omega
    simp only [Rows.uptoBulk]; omega
/-- an argument that is a slice of slices of bytes -/
theorem open_rows {t e q : TypeId} {fuel : Nat} {v : Value} {x : DataW H × List MemPlace} (ht : P.underlying t = some (.slice e)) (he : P.underlying e = some (.slice q)) (hq : P.underlying q = some (.int .u8))
    (ce : P.cellsOf e = 1) (cq : P.cellsOf q = 1) (h : DataW.trod enc P w 0 (fun _ => true) held fuel t [v] = some x) (hfz : ∀ b o, MemPlace.cell b o ∈ x.2 → w.frozen? ⟨b, o, none⟩ = false) :
    ∃ l a c, v = .slice a l.length c ∧ RowsAt (fun b => b < w.heap.size) w v l ∧ rowsSum l + 1 ≤ Rows.uptoBulk x.1 := by
  rcases Deep.open_int_rows ht he hq ce cq h with ⟨hv, rfl⟩ | ⟨a, len, cap, A, L, C, Z, hv, -, hl, hm, rfl, hr⟩
  · simp only [List.cons.injEq, and_true] at hv
    subst hv
    exact ⟨[], none, 0, rfl, SliceAt.nil _ _ _ _, by simp [Rows.uptoBulk, rowsSum]⟩
  · simp only [List.cons.injEq, and_true] at hv
    subst hv
    have hlen : ((List.range len).map fun r => ((Z r).take (L r)).map fun n => UInt8.ofNat n.toNat).length = len := by simp
    have hrl : ∀ r, r < cap → (((Z r).take (L r)).map fun n => UInt8.ofNat n.toNat).length = L r := fun r hr' => by
      obtain ⟨-, h1, -, h2, -⟩ := hr r hr'
      rw [List.length_map, List.length_take]; omega
    refine ⟨(List.range len).map fun r => ((Z r).take (L r)).map fun n => UInt8.ofNat n.toNat, some a, cap, by rw [hlen], ?_, ?_⟩
    · refine ⟨some a, cap, by rw [hlen], by omega, hm, (fun h => by cases h), fun hp => ?_, fun b o j ha hj => ?_⟩
      rotate_left
      · simp only [Option.some.injEq] at ha
        subst ha
        exact hfz _ _ (List.mem_append_left _ (List.mem_map.2 ⟨j, List.mem_range.2 (by rw [hlen] at hj; omega), rfl⟩))
      have h0 := (hr 0 (by omega)).1
      rw [add_zero'] at h0
      have hs := cell_spot h0
      refine ⟨a.block, a.off, by rw [← hs], cell_lt (by rw [← hs]; exact h0), fun i y hy => ?_⟩
      rw [List.getElem?_map, Option.map_eq_some_iff] at hy
      obtain ⟨r, hr1, rfl⟩ := hy
      obtain ⟨hi, rfl⟩ := List.getElem?_eq_some_iff.1 hr1
      simp only [List.getElem_range, List.length_range] at hi ⊢
      obtain ⟨g1, g2, g3, g4, g5, g6, g7⟩ := hr i (by omega)
      rw [hs, add_at] at g1
      refine ⟨[.slice (A i) (L i) (C i)], rfl, ⟨_, rfl, bytes_at g2 g3 g4 g5 g6 (fun a' ha c hc => (g7 a' ha).2 c hc) (fun a' ha c hc => hfz _ _ (List.mem_append_right _ (List.mem_flatMap.2 ⟨i, List.mem_range.2 (by omega), by unfold Deep.intRowPlaces; rw [ha]; exact List.mem_map.2 ⟨c, List.mem_range.2 (by omega), rfl⟩⟩)))⟩, fun j u hu => ?_⟩
      match j, hu with
      | 0, hu => simp at hu; subst hu; simpa using g1
    · simp only [Rows.uptoBulk]
      have h1 := bulk_map (H := H) (fun r => Deep.intRow .u8 (A r) (L r) (Z r)) (fun r => (((Z r).take (L r)).map fun n => UInt8.ofNat n.toNat).length + 1) (List.range len) (fun r hr' => by
        have hrc : r < cap := by have := List.mem_range.1 hr'; omega
        rw [hrl r hrc]
        obtain ⟨-, g2, -, g4, -, g6, -⟩ := hr r hrc
        unfold Deep.intRow
        cases hA : A r with
        | none => have := g6 hA; simp only [Rows.uptoBulk]; omega
        | some a' =>
          simp only [Rows.uptoBulk]
          have h1 := bulk_len (H := H) (lits .u8 ((Z r).take (L r)))
          have h2 : (lits (H := H) .u8 ((Z r).take (L r))).length = L r := by simp [lits]; omega
          omega)
      have h2 : rowsSum ((List.range len).map fun r => ((Z r).take (L r)).map fun n => UInt8.ofNat n.toNat) = ((List.range len).map fun r => (((Z r).take (L r)).map fun n => UInt8.ofNat n.toNat).length + 1).sum := by
        unfold rowsSum; rw [List.map_map]; rfl
      rw [h2]
      omega
end

/-! ## The end of a law -/
section
variable {H : Type} {enc : TypeId × Value → H} {P : Program}
theorem args_stay (hl : laidOutB P = true) {W W' : World} (hb : Below W.heap.size W W') {sp : Nat → Bool} : ∀ {ts : List TypeId} {vs : List Value} {ds : List (DataW H)} {ps : List MemPlace},
    (∀ t ∈ ts, P.readableRec t = true ∧ t < P.types.size) → DataW.TrodAll enc P W 0 (fun _ => true) true ts vs ds ps → (∀ p ∈ ps, p.block < W.heap.size) → (∀ p ∈ ps, sp p.block = true) → DataW.TrodAll enc P W' 0 sp true ts vs ds ps
  | [], vs, ds, ps, _, h, _, _ => by
    obtain ⟨rfl, rfl, rfl⟩ := trodAll_nil h
    exact trodAll_mk0
  | t :: ts, vs, ds, ps, ht, h, hlt, hs => by
    obtain ⟨v, vs1, d, ds1, a, b, rfl, rfl, rfl, h1, h2⟩ := trodAll_cons h
    obtain ⟨r1, r2⟩ := ht t (List.mem_cons_self ..)
    refine trodAll_cons_mk (WideElems.Trod_stays hl r1 r2 h1 (fun x hx => hb.same (hlt x (List.mem_append_left _ hx))) (fun x hx => hs x (List.mem_append_left _ hx))) ?_
    exact args_stay hl hb (fun t' ht' => ht t' (List.mem_cons_of_mem _ ht')) h2 (fun x hx => hlt x (List.mem_append_right _ hx)) (fun x hx => hs x (List.mem_append_right _ hx))
/-- the law has told true, and nothing of what came in has turned -/
theorem law_done {f : Func} {s : ChangeSpec} {apart fresh handsOn again : Bool} {W W' : World} {args : Array Value} {ds gs : List (DataW H)} {before : List MemPlace} {tb : TypeId}
    (hl : laidOutB P = true) (hts : ∀ t ∈ f.params.toList, P.readableRec t = true ∧ t < P.types.size) (htb : P.underlying tb = some .bool) (hres : f.resultTypes = #[tb]) (hvs : s.vars = [])
    (hW : DataW.Whole enc P f.params.toList s.vars apart W args.toList ds gs before) (hfn : s.fn H (ds ++ gs) = { results := [.lit (.bool true)], args := ds }) (hb : Below W.heap.size W W') :
    s.post enc P f apart fresh handsOn again W args (.bool true) W' := by
  have hW' := hW
  obtain ⟨p, q, hA, hV, rfl, hfz, hnd⟩ := hW
  rw [hvs] at hV
  obtain ⟨rfl, rfl⟩ := trodVars_none hV
  have hlt : ∀ x ∈ p ++ [], x.block < W.heap.size := fun x hx => hW'.lt x hx
  have hold : ∀ x ∈ p ++ [], (fun b => decide (b < W.heap.size)) x.block = true := fun x hx => by simpa using hlt x hx
  have hargs : ∀ sp : Nat → Bool, (∀ x ∈ p ++ [], sp x.block = true) → DataW.TrodAll enc P W' 0 sp true f.params.toList args.toList (s.fn H (ds ++ [])).args p := fun sp hsp => by
    rw [hfn]
    exact args_stay hl hb hts hA (fun x hx => hlt x (by simpa using hx)) (fun x hx => hsp x (by simpa using hx))
  have hres' : ∀ (b : Nat) (sp : Nat → Bool) (hd : Bool), DataW.TrodAll enc P W' b sp hd f.resultTypes.toList ((Value.bool true).resultList f.resultTypes.size) (s.fn H (ds ++ [])).results [] := fun b sp hd => by
    rw [hres, hfn]
    exact trodAll_cons_mk (shut_bool htb _) trodAll_mk0
  have hvars : ∀ sp : Nat → Bool, (∀ x ∈ p ++ [], sp x.block = true) → DataW.TrodVars enc P W' sp s.vars (s.fn H (ds ++ [])).vars [] := fun sp _ => by
    rw [hfn, hvs]; rfl
  refine ⟨ds, [], p ++ [], [], p, [], hW', hres' _ _ _, hargs _ hold, hvars _ hold, World.keptBut_mono (fun x hx => ⟨hx, ?_⟩) (hb.frame (· ∈ p ++ [])), fun _ => ?_⟩
  · exact Or.inr (by simpa using hx)
  · refine ⟨ok_one hres rfl (okWide_bool_mk htb _), _, _, ([] ++ p) ++ [], ⟨[] ++ p, [], trodAll_append (hargs _ (fun _ _ => rfl)) (hres' _ _ _), hvars _ (fun _ _ => rfl), rfl, ?_, ?_⟩, ?_⟩
    · intro b off hp
      have hin : MemPlace.cell b off ∈ p ++ [] := by simpa using hp
      rw [hb.frozen (hlt _ hin)]
      exact hfz b off hin
    · intro ha
      simpa using hnd ha
    · intro x hx _
      simpa using hx
end
end Go.Proofs.Ytndkkgkcbbmnpaa
namespace Go.Proofs.Ytndkkgkcbbmnpaa
open Go.ChangeShapes Go.WideShapes Go.ChangeAt Go.RowKit Go.Pg

section
variable {H : Type} {enc : TypeId × Value → H} {P : Program} {w : World} {base : Nat} {sp : Nat → Bool} {held : Bool}
theorem open_digest {t e : TypeId} {fuel : Nat} {cs : List Value} {x : DataW H × List MemPlace} (ht : P.underlying t = some (.array 32 e)) (he : P.underlying e = some (.int .u8)) (hc : P.cellsOf e = 1) (h32 : P.cellsOf t = 32)
    (h : DataW.trod enc P w base sp held fuel t cs = some x) : ∃ l : List UInt8, l.length = 32 ∧ cs = cellsL l := by
  obtain ⟨xs, m, rfl, rfl, hl, hxs, hi⟩ := DataW.trod_array ht h
  rw [h32] at hl
  have hget : ∀ i, i < 32 → ∃ b : UInt8, cs[i]? = some (.int .u8 (b.toNat : Int)) := fun i hlt => by
    have h1 := hi i hlt
    rw [hc, Nat.mul_one] at h1
    have hx : i < xs.length := by omega
    rw [List.getElem?_eq_getElem hx] at h1
    obtain ⟨n, hn, -, hwf⟩ := DataW.trod_int he h1
    obtain ⟨h0, h255⟩ := bounds_u8 hwf
    refine ⟨UInt8.ofNat n.toNat, ?_⟩
    have h2 := congrArg (fun l : List Value => l[0]?) hn
    simp only [List.getElem?_take, List.getElem?_drop, Nat.add_zero, Nat.lt_one_iff, if_true] at h2
    rw [h2]
    simp only [List.getElem?_cons_zero, Option.some.injEq, Value.int.injEq, true_and, UInt8.toNat_ofNat']
    omega
  refine ⟨cs.map fun v => match v with | .int _ n => UInt8.ofNat n.toNat | _ => 0, by simpa using hl, ?_⟩
  unfold cellsL
  refine List.ext_getElem? fun i => ?_
  rcases Nat.lt_or_ge i 32 with hlt | hge
  · obtain ⟨b, hb⟩ := hget i hlt
    rw [List.getElem?_map, List.getElem?_map, hb]
    simp
  · rw [List.getElem?_eq_none (by omega), List.getElem?_eq_none (by simp; omega)]
theorem open_word {t : TypeId} {fuel : Nat} {cs : List Value} {x : DataW H × List MemPlace} (ht : P.underlying t = some (.int .u64))
    (h : DataW.trod enc P w base sp held fuel t cs = some x) : ∃ n : Nat, (n : Int) < 18446744073709551616 ∧ cs = [.int .u64 (n : Int)] := by
  obtain ⟨n, rfl, -, hwf⟩ := DataW.trod_int ht h
  obtain ⟨h0, h1⟩ := bounds_u64 hwf
  exact ⟨n.toNat, by omega, by rw [Int.toNat_of_nonneg h0]⟩
end
theorem fieldAt {P : Program} {t : TypeId} {i : Nat} {u : TypeId} {o : Nat} (h : ((P.fieldsOf t)[i]?).map (fun f => (f.type, f.offset)) = some (u, o)) : ∃ f, (P.fieldsOf t)[i]? = some f ∧ f.type = u ∧ f.offset = o := by
  cases hf : (P.fieldsOf t)[i]? with
  | none => simp [hf] at h
  | some f => simp [hf] at h; exact ⟨f, rfl, h.1, h.2⟩
theorem cut_at (l : List Value) (a b : Nat) : l.drop a = (l.drop a).take b ++ l.drop (a + b) := by rw [← List.drop_drop]; exact (List.take_append_drop ..).symm

section
variable {H : Type} {enc : TypeId × Value → H} {w W : World} {base b0 : Nat} {sp : Nat → Bool} {held : Bool} {r : Reach}
set_option maxRecDepth 100000 in
theorem open_header {v : Value} {d : DataW H} {p : List MemPlace} (hv : Value.okWide Try.prog W r b0 47 v) (h : DataW.Trod enc Try.prog w base sp held 47 v d p) : ∃ x : Hdr, x.ok ∧ v = .agg (hdrCells x) := by
  have hu : Try.prog.underlying 47 = some (.struct (Try.prog.fieldsOf 47)) := by kernel_rfl
  obtain ⟨cs, rfl, hsz⟩ := okWide_struct hu hv
  obtain ⟨fuel, hf⟩ := h
  obtain ⟨xs, n, -, -, hl, hxl, hi⟩ := DataW.trod_struct hu hf
  have hn : xs.length = 7 := by rw [hxl]; kernel_rfl
  have hl' : cs.toList.length = 131 := by rw [show cs.toList = (Value.agg cs).cells.toList from rfl, hl]; kernel_rfl
  have c1 : Try.prog.cellsOf 5 = 1 := by kernel_rfl
  have c32 : Try.prog.cellsOf 37 = 32 := by kernel_rfl
  have c64 : Try.prog.cellsOf 38 = 1 := by kernel_rfl
  have key : ∀ (i : Nat) (u : TypeId) (o : Nat), ((Try.prog.fieldsOf 47)[i]?).map (fun f => (f.type, f.offset)) = some (u, o) → i < 7 → ∃ y, DataW.trod enc Try.prog w base sp held n u ((cs.toList.drop o).take (Try.prog.cellsOf u)) = some y := fun i u o hio hlt => by
    obtain ⟨f, hf1, rfl, rfl⟩ := fieldAt hio
    have := hi i f hf1
    rw [List.getElem?_eq_getElem (by omega)] at this
    exact ⟨_, this⟩
  obtain ⟨y0, k0⟩ := key 0 37 0 (by kernel_rfl) (by decide)
  obtain ⟨y1, k1⟩ := key 1 38 32 (by kernel_rfl) (by decide)
  obtain ⟨y2, k2⟩ := key 2 38 33 (by kernel_rfl) (by decide)
  obtain ⟨y3, k3⟩ := key 3 38 34 (by kernel_rfl) (by decide)
  obtain ⟨y4, k4⟩ := key 4 37 35 (by kernel_rfl) (by decide)
  obtain ⟨y5, k5⟩ := key 5 37 67 (by kernel_rfl) (by decide)
  obtain ⟨y6, k6⟩ := key 6 37 99 (by kernel_rfl) (by decide)
  obtain ⟨l0, n0, e0⟩ := open_digest underlyingDig Try.underlying5 c1 c32 k0
  obtain ⟨l1, n1, e1⟩ := open_word Try.underlying38 k1
  obtain ⟨l2, n2, e2⟩ := open_word Try.underlying38 k2
  obtain ⟨l3, n3, e3⟩ := open_word Try.underlying38 k3
  obtain ⟨l4, n4, e4⟩ := open_digest underlyingDig Try.underlying5 c1 c32 k4
  obtain ⟨l5, n5, e5⟩ := open_digest underlyingDig Try.underlying5 c1 c32 k5
  obtain ⟨l6, n6, e6⟩ := open_digest underlyingDig Try.underlying5 c1 c32 k6
  rw [c32] at e0 e4 e5 e6
  rw [c64] at e1 e2 e3
  refine ⟨⟨l0, l1, l2, l3, l4, l5, l6⟩, ⟨n0, n4, n5, n6, n1, n2, n3⟩, ?_⟩
  unfold hdrCells
  refine congrArg Value.agg (Array.ext' ?_)
  have hd : cs.toList.drop 131 = [] := List.drop_eq_nil_of_le (by omega)
  have a0 := cut_at cs.toList 0 32
  have a1 := cut_at cs.toList 32 1
  have a2 := cut_at cs.toList 33 1
  have a3 := cut_at cs.toList 34 1
  have a4 := cut_at cs.toList 35 32
  have a5 := cut_at cs.toList 67 32
  have a6 := cut_at cs.toList 99 32
  simp only [Nat.reduceAdd] at a0 a1 a2 a3 a4 a5 a6
  rw [hd, List.append_nil, e6] at a6
  rw [a6, e5] at a5
  rw [a5, e4] at a4
  rw [a4, e3] at a3
  rw [a3, e2] at a2
  rw [a2, e1] at a1
  rw [a1, e0, List.drop_zero] at a0
  rw [a0]
  simp

set_option maxRecDepth 100000 in
theorem open_block {v : Value} {d : DataW H} {p : List MemPlace} (hv : Value.okWide Try.prog W r b0 40 v) (h : DataW.Trod enc Try.prog w 0 (fun _ => true) held 40 v d p) (hfz : ∀ b o, MemPlace.cell b o ∈ p → w.frozen? ⟨b, o, none⟩ = false) :
    ∃ (x : Blk) (a : Option Addr) (c : Nat), x.ok ∧ v = .agg (blkCells x.p x.nn x.bb (.slice a x.T.length c)) ∧ RowsAt (fun b => b < w.heap.size) w (.slice a x.T.length c) x.T ∧ rowsSum x.T + 1 ≤ Rows.uptoBulk d := by
  have hu : Try.prog.underlying 40 = some (.struct (Try.prog.fieldsOf 40)) := by kernel_rfl
  obtain ⟨cs, rfl, hsz⟩ := okWide_struct hu hv
  obtain ⟨fuel, hf⟩ := h
  obtain ⟨xs, n, -, he, hl, hxl, hi⟩ := DataW.trod_struct hu hf
  have hn : xs.length = 4 := by rw [hxl]; kernel_rfl
  have hl' : cs.toList.length = 35 := by rw [show cs.toList = (Value.agg cs).cells.toList from rfl, hl]; kernel_rfl
  have c1 : Try.prog.cellsOf 5 = 1 := by kernel_rfl
  have c32 : Try.prog.cellsOf 37 = 32 := by kernel_rfl
  have c64 : Try.prog.cellsOf 38 = 1 := by kernel_rfl
  have cT : Try.prog.cellsOf 22 = 1 := by kernel_rfl
  have key : ∀ (i : Nat) (u : TypeId) (o : Nat), ((Try.prog.fieldsOf 40)[i]?).map (fun f => (f.type, f.offset)) = some (u, o) → i < 4 → ∃ y, xs[i]? = some y ∧ DataW.trod enc Try.prog w 0 (fun _ => true) held n u ((cs.toList.drop o).take (Try.prog.cellsOf u)) = some y := fun i u o hio hlt => by
    obtain ⟨f, hf1, rfl, rfl⟩ := fieldAt hio
    have := hi i f hf1
    rw [List.getElem?_eq_getElem (by omega)] at this
    exact ⟨_, List.getElem?_eq_getElem (by omega), this⟩
  obtain ⟨y0, -, k0⟩ := key 0 37 0 (by kernel_rfl) (by decide)
  obtain ⟨y1, -, k1⟩ := key 1 38 32 (by kernel_rfl) (by decide)
  obtain ⟨y2, -, k2⟩ := key 2 38 33 (by kernel_rfl) (by decide)
  obtain ⟨y3, x3, k3⟩ := key 3 22 34 (by kernel_rfl) (by decide)
  obtain ⟨l0, n0, e0⟩ := open_digest underlyingDig Try.underlying5 c1 c32 k0
  obtain ⟨l1, n1, e1⟩ := open_word Try.underlying38 k1
  obtain ⟨l2, n2, e2⟩ := open_word Try.underlying38 k2
  rw [c32] at e0
  rw [c64] at e1 e2
  rw [cT] at k3
  have hc : ∃ vT, (cs.toList.drop 34).take 1 = [vT] := by
    have : ((cs.toList.drop 34).take 1).length = 1 := by rw [List.length_take, List.length_drop, hl']; decide
    exact List.length_eq_one_iff.1 this
  obtain ⟨vT, e3⟩ := hc
  rw [e3] at k3
  simp only [Prod.mk.injEq] at he
  obtain ⟨rfl, rfl⟩ := he
  have hm : y3 ∈ xs := List.mem_of_getElem? x3
  obtain ⟨T, a, c, rfl, hT, bT⟩ := open_rows Try.underlying22 Try.underlying25 Try.underlying5 (by kernel_rfl) (by kernel_rfl) k3 (fun b o h => hfz b o (List.mem_flatMap.2 ⟨y3, hm, h⟩))
  refine ⟨⟨l0, l1, l2, T⟩, a, c, ⟨n0, n1, n2⟩, ?_, hT, ?_⟩
  · unfold blkCells
    refine congrArg Value.agg (Array.ext' ?_)
    have hd : cs.toList.drop 35 = [] := List.drop_eq_nil_of_le (by omega)
    have a0 := cut_at cs.toList 0 32
    have a1 := cut_at cs.toList 32 1
    have a2 := cut_at cs.toList 33 1
    have a3 := cut_at cs.toList 34 1
    simp only [Nat.reduceAdd] at a0 a1 a2 a3
    rw [hd, List.append_nil, e3] at a3
    rw [a3, e2] at a2
    rw [a2, e1] at a1
    rw [a1, e0, List.drop_zero] at a0
    rw [a0]
    simp
  · have hb : ∀ l : List (DataW H × List MemPlace), y3 ∈ l → Rows.uptoBulk y3.1 ≤ Rows.uptoBulkAll (l.map (·.1)) := by
      intro l
      induction l with
      | nil => intro h; cases h
      | cons z l ih =>
        intro h
        simp only [List.map_cons, Rows.uptoBulkAll]
        rcases List.mem_cons.1 h with rfl | h
        · omega
        · have := ih h; omega
    have := hb xs hm
    simp only [Rows.uptoBulk]
    omega
end
end Go.Proofs.Ytndkkgkcbbmnpaa
