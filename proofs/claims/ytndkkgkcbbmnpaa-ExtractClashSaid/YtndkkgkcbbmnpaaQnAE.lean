/-
  Contracts of block.EncodeHeader, pergolaref19.EncodeHeader.
  Contract of pergolaref01.Padded.
-/
import Derived.Test.YtndkkgkcbbmnpaaQnAD
namespace Go.Pg
open Go.RowKit
/-- a header -/
structure Hdr where
  p : List UInt8
  nn : Nat
  bb : Nat
  gg : Nat
  tx : List UInt8
  st : List UInt8
  rc : List UInt8
structure Hdr.ok (h : Hdr) : Prop where
  p : h.p.length = 32
  tx : h.tx.length = 32
  st : h.st.length = 32
  rc : h.rc.length = 32
  nn : (h.nn : Int) < 18446744073709551616
  bb : (h.bb : Int) < 18446744073709551616
  gg : (h.gg : Int) < 18446744073709551616
/-- a header as an item, and its bytes -/
def hdrI (h : Hdr) : It := .list [.text h.p, .text (wordB h.nn), .text (wordB h.bb), .text (wordB h.gg), .text h.tx, .text h.st, .text h.rc]
def hdrBytes (h : Hdr) : List UInt8 := (hdrI h).encode.1
def hdrCells (h : Hdr) : Array Value := (cellsL h.p ++ [Value.int .u64 (h.nn : Int), Value.int .u64 (h.bb : Int), Value.int .u64 (h.gg : Int)] ++ cellsL h.tx ++ cellsL h.st ++ cellsL h.rc).toArray
theorem hdr_facts {w : World} {g : Nat} {t : TypeId} {h : Hdr} (ho : h.ok) (hw : w.heap[g]? = some (.cells (hdrCells h) t (0, 0))) :
    w.rangeAt g 0 (cellsL h.p) ∧ w.cell? ⟨g, 32, none⟩ = some (.int .u64 h.nn) ∧ w.cell? ⟨g, 33, none⟩ = some (.int .u64 h.bb) ∧ w.cell? ⟨g, 34, none⟩ = some (.int .u64 h.gg) ∧ w.rangeAt g 35 (cellsL h.tx) ∧ w.rangeAt g 67 (cellsL h.st) ∧ w.rangeAt g 99 (cellsL h.rc) := by
  have l0 : (cellsL h.p).length = 32 := by rw [cellsL_length, ho.p]
  have l1 : (cellsL h.tx).length = 32 := by rw [cellsL_length, ho.tx]
  have l2 : (cellsL h.st).length = 32 := by rw [cellsL_length, ho.st]
  have l3 : (cellsL h.rc).length = 32 := by rw [cellsL_length, ho.rc]
  unfold hdrCells at hw
  refine ⟨?_, ?_, ?_, ?_, ?_, ?_, ?_⟩
  · exact range_at [] (cellsL h.p) ([Value.int .u64 (h.nn : Int), Value.int .u64 (h.bb : Int), Value.int .u64 (h.gg : Int)] ++ cellsL h.tx ++ cellsL h.st ++ cellsL h.rc) (by simpa using hw)
  · have := cell_at (cellsL h.p) (.int .u64 (h.nn : Int)) ([.int .u64 (h.bb : Int), .int .u64 (h.gg : Int)] ++ cellsL h.tx ++ cellsL h.st ++ cellsL h.rc) (by simpa using hw)
    simpa [l0] using this
  · have := cell_at (cellsL h.p ++ [.int .u64 (h.nn : Int)]) (.int .u64 (h.bb : Int)) ([.int .u64 (h.gg : Int)] ++ cellsL h.tx ++ cellsL h.st ++ cellsL h.rc) (by simpa using hw)
    simpa [l0] using this
  · have := cell_at (cellsL h.p ++ [.int .u64 (h.nn : Int), .int .u64 (h.bb : Int)]) (.int .u64 (h.gg : Int)) (cellsL h.tx ++ cellsL h.st ++ cellsL h.rc) (by simpa using hw)
    simpa [l0] using this
  · have := range_at (cellsL h.p ++ [.int .u64 (h.nn : Int), .int .u64 (h.bb : Int), .int .u64 (h.gg : Int)]) (cellsL h.tx) (cellsL h.st ++ cellsL h.rc) (by simpa using hw)
    simpa [l0] using this
  · have := range_at (cellsL h.p ++ [.int .u64 (h.nn : Int), .int .u64 (h.bb : Int), .int .u64 (h.gg : Int)] ++ cellsL h.tx) (cellsL h.st) (cellsL h.rc) (by simpa using hw)
    simpa [l0, l1] using this
  · have := range_at (cellsL h.p ++ [.int .u64 (h.nn : Int), .int .u64 (h.bb : Int), .int .u64 (h.gg : Int)] ++ cellsL h.tx ++ cellsL h.st) (cellsL h.rc) [] (by simpa using hw)
    simpa [l0, l1, l2] using this
end Go.Pg
namespace Go.Proofs.Ytndkkgkcbbmnpaa
open Go.RowKit Go.Pg

theorem septI {F : Nat → Prop} {w : World} {p0 p1 p2 p3 p4 p5 p6 : Value} {x0 x1 x2 x3 x4 x5 x6 : It} (h0 : ItemAt F w 2 [.bool false, p0, .slice none 0 0] x0) (h1 : ItemAt F w 2 [.bool false, p1, .slice none 0 0] x1) (h2 : ItemAt F w 2 [.bool false, p2, .slice none 0 0] x2) (h3 : ItemAt F w 2 [.bool false, p3, .slice none 0 0] x3) (h4 : ItemAt F w 2 [.bool false, p4, .slice none 0 0] x4) (h5 : ItemAt F w 2 [.bool false, p5, .slice none 0 0] x5) (h6 : ItemAt F w 2 [.bool false, p6, .slice none 0 0] x6) (hF : F w.heap.size) (t : TypeId) :
    ItemsAt F (w.alloc (.cells #[.bool false, p0, .slice none 0 0, .bool false, p1, .slice none 0 0, .bool false, p2, .slice none 0 0, .bool false, p3, .slice none 0 0, .bool false, p4, .slice none 0 0, .bool false, p5, .slice none 0 0, .bool false, p6, .slice none 0 0] t)) 2 (.slice (some ⟨w.heap.size, 0, none⟩) 7 7) [x0, x1, x2, x3, x4, x5, x6] :=
  rows_alloc (l := [x0, x1, x2, x3, x4, x5, x6]) (carriedItem 2) (((((((Rows.one h0 rfl).append (Rows.one h1 rfl)).append (Rows.one h2 rfl)).append (Rows.one h3 rfl)).append (Rows.one h4 rfl)).append (Rows.one h5 rfl)).append (Rows.one h6 rfl)) (show 7 ≤ maxLen by decide) (fun _ _ x => x) hF t
theorem itUp {W0 W W1 W2 : World} {cs : List Value} {x : It} (h0 : W0.heap.size ≤ W.heap.size) (hc : Below W1.heap.size W1 W2) (h : ItemAt (fresh W) W1 1 cs x) : ItemAt (fun b => W0.heap.size ≤ b) W2 2 cs x :=
  ItemAt.deeper 1 2 _ _ (by omega) (ItemAt.carry (fun b _ h => by have : W.heap.size ≤ b := h; omega) (fun b _ hlt => hc.block b hlt) 1 _ _ h)

/-- a header's bytes are told -/
def HBytes (w : World) (bs : List UInt8) (e : Ending) (w' : World) : Prop := ∃ v', e = .returned v' ∧ OwnAt w' w.heap.size 5 1 byteR v' bs ∧ Below w.heap.size w w'
theorem op_at {l : List Oper} {i : Nat} {o : Oper} (h : l[i]? = some o) : l.toArray[i]? = some o := by simpa using h

set_option maxRecDepth 100000 in
set_option maxHeartbeats 8000000 in
theorem encHdr_any (w : World) (h : Hdr) (ho : h.ok) (hw : (hdrI h).whole ≤ 140737488351232) : Calls Try.prog 27 #[.agg (hdrCells h)] w (HBytes w (hdrBytes h)) := by
  obtain ⟨BC, hBC⟩ : ∃ BC, BC = hdrCells h := ⟨_, rfl⟩
  obtain ⟨I, hI⟩ : ∃ I, I = hdrI h := ⟨_, rfl⟩
  have hbf : ∀ W : World, W.heap[w.heap.size]? = some (.cells BC 47 (0, 0)) → _ := fun W hW => hdr_facts (w := W) (g := w.heap.size) (t := 47) ho (by rw [hBC] at hW; exact hW)
  have hres : hdrBytes h = I.encode.1 := by rw [hI]; rfl
  rw [hres, ← hBC]
  obtain ⟨p, nn, bb, gg, tx, st, rc⟩ := h
  obtain ⟨o1, o2, o3, o4, o5, o6, o7⟩ := ho
  simp only at hbf o1 o2 o3 o4 o5 o6 o7
  have hI2 : I = .list [.text p, .text (wordB nn), .text (wordB bb), .text (wordB gg), .text tx, .text st, .text rc] := hI
  rw [← hI] at hw
  obtain ⟨W0, hW0⟩ : ∃ W, W = w.alloc (.cells BC 47) := ⟨_, rfl⟩
  have hb0 : Below w.heap.size w W0 := by rw [hW0]; exact Bel.alloc (Bel.refl w) _
  have hk0 : W0.heap[w.heap.size]? = some (.cells BC 47 (0, 0)) := by rw [hW0]; exact heap_alloc_new w _
  have hsw := (Array.getElem?_eq_some_iff.1 hk0).1
  obtain ⟨S, hS⟩ : ∃ S : World → Prop, S = fun w' => w'.rangeAt w.heap.size 0 (cellsL p) ∧ w'.cell? ⟨w.heap.size, 32, none⟩ = some (.int .u64 nn) ∧ w'.cell? ⟨w.heap.size, 33, none⟩ = some (.int .u64 bb) ∧ w'.cell? ⟨w.heap.size, 34, none⟩ = some (.int .u64 gg) ∧ w'.rangeAt w.heap.size 35 (cellsL tx) ∧ w'.rangeAt w.heap.size 67 (cellsL st) ∧ w'.rangeAt w.heap.size 99 (cellsL rc) := ⟨_, rfl⟩
  have hkeep : ∀ W : World, Below W0.heap.size W0 W → S W := fun W hW => by rw [hS]; exact hbf W ((hW.block _ hsw).trans hk0)
  have hget : ∀ W : World, S W → W.rangeAt w.heap.size 0 (cellsL p) ∧ W.cell? ⟨w.heap.size, 32, none⟩ = some (.int .u64 nn) ∧ W.cell? ⟨w.heap.size, 33, none⟩ = some (.int .u64 bb) ∧ W.cell? ⟨w.heap.size, 34, none⟩ = some (.int .u64 gg) ∧ W.rangeAt w.heap.size 35 (cellsL tx) ∧ W.rangeAt w.heap.size 67 (cellsL st) ∧ W.rangeAt w.heap.size 99 (cellsL rc) := fun W hW => by rw [hS] at hW; exact hW
  have HKP := Lib.hid hkeep
  have HS := Lib.hid hget
  have HW0 := Lib.hid hW0
  have HB0 := Lib.hid hb0
  have HI := Lib.hid hI2
  have HW := Lib.hid hw
  have O1 := Lib.hid o1
  have O2 := Lib.hid o2
  have O3 := Lib.hid o3
  have O4 := Lib.hid o4
  have O5 := Lib.hid o5
  have O6 := Lib.hid o6
  have O7 := Lib.hid o7
  clear hBC hI hbf hres hI2 hw hW0 hb0 hk0 hkeep hget hS o1 o2 o3 o4 o5 o6 o7
  go_enter Try.func27, Try.ntmps27
  go_wp2_with fail
  rw [← HW0.out]
  have HUD := underlyingDig
  have e0 : (Try.prog.info? 37).map (·.size) = some (cellsL p).length := by rw [cellsL_length, O1.out]; exact infoDig
  have e4 : (Try.prog.info? 37).map (·.size) = some (cellsL tx).length := by rw [cellsL_length, O2.out]; exact infoDig
  have e5 : (Try.prog.info? 37).map (·.size) = some (cellsL st).length := by rw [cellsL_length, O3.out]; exact infoDig
  have e6 : (Try.prog.info? 37).map (·.size) = some (cellsL rc).length := by rw [cellsL_length, O4.out]; exact infoDig
  refine wp_region_held_drew (S := S) (by kernel_rfl) (HKP.out _ (Bel.drew (Bel.refl W0))) (fun hHeld => ?_)
  refine wpAnyH_take (i := 0) (op_at rfl) (by kernel_rfl) (by kernel_rfl) (by kernel_rfl) (fun _ _ _ h => h) (Or.inl ⟨by rfl, by intro w hSw; go_simp; (try with_reducible rfl)⟩) hHeld ?_
  simp only [Act.put, List.setIfInBounds_toArray, List.set_cons_zero, List.set_cons_succ]
  refine wpAnyH_take (i := 1) (op_at rfl) (by kernel_rfl) (by kernel_rfl) (by kernel_rfl) (fun _ _ _ h => h) (yieldsIf_load_mid (by rfl) _ _ rfl _ _ rfl _ _ (fun W hW => (HS.out W hW).1) HUD rfl e0) hHeld ?_
  simp only [Act.put, List.setIfInBounds_toArray, List.set_cons_zero, List.set_cons_succ]
  refine wpAnyH_take (i := 3) (op_at rfl) (by kernel_rfl) (by kernel_rfl) (by kernel_rfl) (fun _ _ _ h => h) (Or.inl ⟨by rfl, by intro w hSw; go_simp; (try with_reducible rfl)⟩) hHeld ?_
  simp only [Act.put, List.setIfInBounds_toArray, List.set_cons_zero, List.set_cons_succ]
  refine wpAnyH_take (i := 4) (op_at rfl) (by kernel_rfl) (by kernel_rfl) (by kernel_rfl) (fun _ _ _ h => h) (Or.inl ⟨by rfl, by intro W hSw; have hc := (HS.out W hSw).2.1; go_simp; (try with_reducible rfl)⟩) hHeld ?_
  simp only [Act.put, List.setIfInBounds_toArray, List.set_cons_zero, List.set_cons_succ]
  refine wpAnyH_take (i := 6) (op_at rfl) (by kernel_rfl) (by kernel_rfl) (by kernel_rfl) (fun _ _ _ h => h) (Or.inl ⟨by rfl, by intro w hSw; go_simp; (try with_reducible rfl)⟩) hHeld ?_
  simp only [Act.put, List.setIfInBounds_toArray, List.set_cons_zero, List.set_cons_succ]
  refine wpAnyH_take (i := 7) (op_at rfl) (by kernel_rfl) (by kernel_rfl) (by kernel_rfl) (fun _ _ _ h => h) (Or.inl ⟨by rfl, by intro W hSw; have hc := (HS.out W hSw).2.2.1; go_simp; (try with_reducible rfl)⟩) hHeld ?_
  simp only [Act.put, List.setIfInBounds_toArray, List.set_cons_zero, List.set_cons_succ]
  refine wpAnyH_take (i := 9) (op_at rfl) (by kernel_rfl) (by kernel_rfl) (by kernel_rfl) (fun _ _ _ h => h) (Or.inl ⟨by rfl, by intro w hSw; go_simp; (try with_reducible rfl)⟩) hHeld ?_
  simp only [Act.put, List.setIfInBounds_toArray, List.set_cons_zero, List.set_cons_succ]
  refine wpAnyH_take (i := 10) (op_at rfl) (by kernel_rfl) (by kernel_rfl) (by kernel_rfl) (fun _ _ _ h => h) (Or.inl ⟨by rfl, by intro W hSw; have hc := (HS.out W hSw).2.2.2.1; go_simp; (try with_reducible rfl)⟩) hHeld ?_
  simp only [Act.put, List.setIfInBounds_toArray, List.set_cons_zero, List.set_cons_succ]
  refine wpAnyH_take (i := 12) (op_at rfl) (by kernel_rfl) (by kernel_rfl) (by kernel_rfl) (fun _ _ _ h => h) (Or.inl ⟨by rfl, by intro w hSw; go_simp; (try with_reducible rfl)⟩) hHeld ?_
  simp only [Act.put, List.setIfInBounds_toArray, List.set_cons_zero, List.set_cons_succ]
  refine wpAnyH_take (i := 13) (op_at rfl) (by kernel_rfl) (by kernel_rfl) (by kernel_rfl) (fun _ _ _ h => h) (yieldsIf_load_mid (by rfl) _ _ rfl _ _ rfl _ _ (fun W hW => (HS.out W hW).2.2.2.2.1) HUD rfl e4) hHeld ?_
  simp only [Act.put, List.setIfInBounds_toArray, List.set_cons_zero, List.set_cons_succ]
  refine wpAnyH_take (i := 15) (op_at rfl) (by kernel_rfl) (by kernel_rfl) (by kernel_rfl) (fun _ _ _ h => h) (Or.inl ⟨by rfl, by intro w hSw; go_simp; (try with_reducible rfl)⟩) hHeld ?_
  simp only [Act.put, List.setIfInBounds_toArray, List.set_cons_zero, List.set_cons_succ]
  refine wpAnyH_take (i := 16) (op_at rfl) (by kernel_rfl) (by kernel_rfl) (by kernel_rfl) (fun _ _ _ h => h) (yieldsIf_load_mid (by rfl) _ _ rfl _ _ rfl _ _ (fun W hW => (HS.out W hW).2.2.2.2.2.1) HUD rfl e5) hHeld ?_
  simp only [Act.put, List.setIfInBounds_toArray, List.set_cons_zero, List.set_cons_succ]
  refine wpAnyH_take (i := 18) (op_at rfl) (by kernel_rfl) (by kernel_rfl) (by kernel_rfl) (fun _ _ _ h => h) (Or.inl ⟨by rfl, by intro w hSw; go_simp; (try with_reducible rfl)⟩) hHeld ?_
  simp only [Act.put, List.setIfInBounds_toArray, List.set_cons_zero, List.set_cons_succ]
  refine wpAnyH_take (i := 19) (op_at rfl) (by kernel_rfl) (by kernel_rfl) (by kernel_rfl) (fun _ _ _ h => h) (yieldsIf_load_mid (by rfl) _ _ rfl _ _ rfl _ _ (fun W hW => (HS.out W hW).2.2.2.2.2.2) HUD rfl e6) hHeld ?_
  simp only [Act.put, List.setIfInBounds_toArray, List.set_cons_zero, List.set_cons_succ]
  refine wpAnyH_ready (rs := [2]) (by kernel_rfl) (by simp) (AllReadyH.cons (op_at rfl) (fun K hK => ?_) AllReadyH.nil)
  clear hHeld
  go_simp
  go_at_call_of 51 (Value.agg (cellsL p).toArray)
  refine (bname_any p _ O1.out).mono ?_
  rintro e W1 ⟨v1, rfl, it1, hb1⟩
  have hB1 : Below W0.heap.size W0 W1 := Bel.call (Bel.drew (Bel.refl W0)) hb1
  obtain ⟨-, a1, n1, c1, a1', n1', c1', rfl, -, -, -⟩ := ItemAt.form it1
  go_wp2_with fail
  refine hK.out _ _ (HKP.out _ (hB1)) (fun hHeld => ?_)
  clear hK K
  try simp only [Act.put, List.setIfInBounds_toArray, List.set_cons_zero, List.set_cons_succ]
  refine wpAnyH_ready (rs := [5]) (by kernel_rfl) (by simp) (AllReadyH.cons (op_at rfl) (fun K hK => ?_) AllReadyH.nil)
  clear hHeld
  go_simp
  go_at_call_of 52 (Value.int .u64 (nn : Int))
  refine (bword_any nn _ O5.out).mono ?_
  rintro e W2 ⟨v2, rfl, it2, hb2⟩
  have hB2 : Below W0.heap.size W0 W2 := Bel.call hB1 hb2
  have c1_2 : Below W1.heap.size W1 W2 := Bel.call (Bel.refl W1) hb2
  obtain ⟨-, a2, n2, c2, a2', n2', c2', rfl, -, -, -⟩ := ItemAt.form it2
  go_wp2_with fail
  refine hK.out _ _ (HKP.out _ (hB2)) (fun hHeld => ?_)
  clear hK K
  try simp only [Act.put, List.setIfInBounds_toArray, List.set_cons_zero, List.set_cons_succ]
  refine wpAnyH_ready (rs := [8]) (by kernel_rfl) (by simp) (AllReadyH.cons (op_at rfl) (fun K hK => ?_) AllReadyH.nil)
  clear hHeld
  go_simp
  go_at_call_of 52 (Value.int .u64 (bb : Int))
  refine (bword_any bb _ O6.out).mono ?_
  rintro e W3 ⟨v3, rfl, it3, hb3⟩
  have hB3 : Below W0.heap.size W0 W3 := Bel.call hB2 hb3
  have c1_3 : Below W1.heap.size W1 W3 := Bel.call c1_2 hb3
  have c2_3 : Below W2.heap.size W2 W3 := Bel.call (Bel.refl W2) hb3
  obtain ⟨-, a3, n3, c3, a3', n3', c3', rfl, -, -, -⟩ := ItemAt.form it3
  go_wp2_with fail
  refine hK.out _ _ (HKP.out _ (hB3)) (fun hHeld => ?_)
  clear hK K
  try simp only [Act.put, List.setIfInBounds_toArray, List.set_cons_zero, List.set_cons_succ]
  refine wpAnyH_ready (rs := [11]) (by kernel_rfl) (by simp) (AllReadyH.cons (op_at rfl) (fun K hK => ?_) AllReadyH.nil)
  clear hHeld
  go_simp
  go_at_call_of 52 (Value.int .u64 (gg : Int))
  refine (bword_any gg _ O7.out).mono ?_
  rintro e W4 ⟨v4, rfl, it4, hb4⟩
  have hB4 : Below W0.heap.size W0 W4 := Bel.call hB3 hb4
  have c1_4 : Below W1.heap.size W1 W4 := Bel.call c1_3 hb4
  have c2_4 : Below W2.heap.size W2 W4 := Bel.call c2_3 hb4
  have c3_4 : Below W3.heap.size W3 W4 := Bel.call (Bel.refl W3) hb4
  obtain ⟨-, a4, n4, c4, a4', n4', c4', rfl, -, -, -⟩ := ItemAt.form it4
  go_wp2_with fail
  refine hK.out _ _ (HKP.out _ (hB4)) (fun hHeld => ?_)
  clear hK K
  try simp only [Act.put, List.setIfInBounds_toArray, List.set_cons_zero, List.set_cons_succ]
  refine wpAnyH_ready (rs := [14]) (by kernel_rfl) (by simp) (AllReadyH.cons (op_at rfl) (fun K hK => ?_) AllReadyH.nil)
  clear hHeld
  go_simp
  go_at_call_of 51 (Value.agg (cellsL tx).toArray)
  refine (bname_any tx _ O2.out).mono ?_
  rintro e W5 ⟨v5, rfl, it5, hb5⟩
  have hB5 : Below W0.heap.size W0 W5 := Bel.call hB4 hb5
  have c1_5 : Below W1.heap.size W1 W5 := Bel.call c1_4 hb5
  have c2_5 : Below W2.heap.size W2 W5 := Bel.call c2_4 hb5
  have c3_5 : Below W3.heap.size W3 W5 := Bel.call c3_4 hb5
  have c4_5 : Below W4.heap.size W4 W5 := Bel.call (Bel.refl W4) hb5
  obtain ⟨-, a5, n5, c5, a5', n5', c5', rfl, -, -, -⟩ := ItemAt.form it5
  go_wp2_with fail
  refine hK.out _ _ (HKP.out _ (hB5)) (fun hHeld => ?_)
  clear hK K
  try simp only [Act.put, List.setIfInBounds_toArray, List.set_cons_zero, List.set_cons_succ]
  refine wpAnyH_ready (rs := [17]) (by kernel_rfl) (by simp) (AllReadyH.cons (op_at rfl) (fun K hK => ?_) AllReadyH.nil)
  clear hHeld
  go_simp
  go_at_call_of 51 (Value.agg (cellsL st).toArray)
  refine (bname_any st _ O3.out).mono ?_
  rintro e W6 ⟨v6, rfl, it6, hb6⟩
  have hB6 : Below W0.heap.size W0 W6 := Bel.call hB5 hb6
  have c1_6 : Below W1.heap.size W1 W6 := Bel.call c1_5 hb6
  have c2_6 : Below W2.heap.size W2 W6 := Bel.call c2_5 hb6
  have c3_6 : Below W3.heap.size W3 W6 := Bel.call c3_5 hb6
  have c4_6 : Below W4.heap.size W4 W6 := Bel.call c4_5 hb6
  have c5_6 : Below W5.heap.size W5 W6 := Bel.call (Bel.refl W5) hb6
  obtain ⟨-, a6, n6, c6, a6', n6', c6', rfl, -, -, -⟩ := ItemAt.form it6
  go_wp2_with fail
  refine hK.out _ _ (HKP.out _ (hB6)) (fun hHeld => ?_)
  clear hK K
  try simp only [Act.put, List.setIfInBounds_toArray, List.set_cons_zero, List.set_cons_succ]
  refine wpAnyH_ready (rs := [20]) (by kernel_rfl) (by simp) (AllReadyH.cons (op_at rfl) (fun K hK => ?_) AllReadyH.nil)
  clear hHeld
  go_simp
  go_at_call_of 51 (Value.agg (cellsL rc).toArray)
  refine (bname_any rc _ O4.out).mono ?_
  rintro e W7 ⟨v7, rfl, it7, hb7⟩
  have hB7 : Below W0.heap.size W0 W7 := Bel.call hB6 hb7
  have c1_7 : Below W1.heap.size W1 W7 := Bel.call c1_6 hb7
  have c2_7 : Below W2.heap.size W2 W7 := Bel.call c2_6 hb7
  have c3_7 : Below W3.heap.size W3 W7 := Bel.call c3_6 hb7
  have c4_7 : Below W4.heap.size W4 W7 := Bel.call c4_6 hb7
  have c5_7 : Below W5.heap.size W5 W7 := Bel.call c5_6 hb7
  have c6_7 : Below W6.heap.size W6 W7 := Bel.call (Bel.refl W6) hb7
  obtain ⟨-, a7, n7, c7, a7', n7', c7', rfl, -, -, -⟩ := ItemAt.form it7
  go_wp2_with fail
  refine hK.out _ _ (HKP.out _ (hB7)) (fun hHeld => ?_)
  clear hK K
  try simp only [Act.put, List.setIfInBounds_toArray, List.set_cons_zero, List.set_cons_succ]
  refine wpAnyH_ready (rs := [21]) (by kernel_rfl) (by simp) (AllReadyH.cons (op_at rfl) (fun K hK => ?_) AllReadyH.nil)
  clear hHeld
  go_simp
  go_wp2_with fail
  refine hK.out _ _ (HKP.out _ (Bel.alloc hB7 _)) (fun hHeld => ?_)
  clear hK K
  try simp only [Act.put, List.setIfInBounds_toArray, List.set_cons_zero, List.set_cons_succ]
  refine wpAnyH_ready (rs := [22]) (by kernel_rfl) (by simp) (AllReadyH.cons (op_at rfl) (fun K hK => ?_) AllReadyH.nil)
  clear hHeld
  go_simp
  go_at_call 42
  refine (list_any (fun b => W0.heap.size ≤ b) _ _ 2 [.text p, .text (wordB nn), .text (wordB bb), .text (wordB gg), .text tx, .text st, .text rc] (septI (itUp (Nat.le_refl _) c1_7 it1) (itUp hB1.size c2_7 it2) (itUp hB2.size c3_7 it3) (itUp hB3.size c4_7 it4) (itUp hB4.size c5_7 it5) (itUp hB5.size c6_7 it6) (itUp hB6.size (Bel.refl W7) it7) hB7.size _) (show 7 ≤ 1099511627776 by omega)).mono ?_
  rintro e W8 ⟨v8, rfl, it8, hb8⟩
  have hB8 : Below W0.heap.size W0 W8 := Bel.call (Bel.alloc hB7 _) hb8
  obtain ⟨-, a8, n8, c8, a8', n8', c8', -, rfl, -, -⟩ := ItemAt.form it8
  go_wp2_with fail
  refine hK.out _ _ (HKP.out _ (hB8)) (fun hHeld => ?_)
  clear hK K
  try simp only [Act.put, List.setIfInBounds_toArray, List.set_cons_zero, List.set_cons_succ]
  refine wpAnyH_ready (rs := [23]) (by kernel_rfl) (by simp) (AllReadyH.cons (op_at rfl) (fun K hK => ?_) AllReadyH.nil)
  clear hHeld
  go_simp
  go_at_call 41
  refine (encode_any _ W8 3 I _ _ _ (by rw [HI.out]; exact it8) HW.out).mono ?_
  rintro e W9 ⟨v9, rfl, ho9, hb9⟩
  have hB9 : Below W0.heap.size W0 W9 := Bel.call hB8 hb9
  have ho := ho9.lower (Nat.le_trans HB0.out.size hB8.size)
  go_wp2_with fail
  refine hK.out _ _ (HKP.out _ (hB9)) (fun hHeld => ?_)
  clear hK K
  try simp only [Act.put, List.setIfInBounds_toArray, List.set_cons_zero, List.set_cons_succ]
  refine wpAnyH_take (i := 24) (op_at rfl) (by kernel_rfl) (by kernel_rfl) (by kernel_rfl) (fun _ _ _ h => h) (Or.inl ⟨by rfl, by intro w hSw; go_simp; (try with_reducible rfl)⟩) hHeld ?_
  simp only [Act.put, List.setIfInBounds_toArray, List.set_cons_zero, List.set_cons_succ]
  refine wpAnyH_take (i := 25) (op_at rfl) (by kernel_rfl) (by kernel_rfl) (by kernel_rfl) (fun _ _ _ h => h) (Or.inl ⟨by rfl, by intro w hSw; go_simp; (try with_reducible rfl)⟩) hHeld ?_
  simp only [Act.put, List.setIfInBounds_toArray, List.set_cons_zero, List.set_cons_succ]
  refine wpAnyH_take (i := 26) (op_at rfl) (by kernel_rfl) (by kernel_rfl) (by kernel_rfl) (fun _ _ _ h => h) (Or.inl ⟨by rfl, by intro w hSw; go_simp; (try with_reducible rfl)⟩) hHeld ?_
  simp only [Act.put, List.setIfInBounds_toArray, List.set_cons_zero, List.set_cons_succ]
  refine wpAnyH_take (i := 27) (op_at rfl) (by kernel_rfl) (by kernel_rfl) (by kernel_rfl) (fun _ _ _ h => h) (Or.inl ⟨by rfl, by intro w hSw; go_simp; (try with_reducible rfl)⟩) hHeld ?_
  simp only [Act.put, List.setIfInBounds_toArray, List.set_cons_zero, List.set_cons_succ]
  refine wpAnyH_take (i := 28) (op_at rfl) (by kernel_rfl) (by kernel_rfl) (by kernel_rfl) (fun _ _ _ h => h) (Or.inl ⟨by rfl, by intro w hSw; go_simp; (try with_reducible rfl)⟩) hHeld ?_
  simp only [Act.put, List.setIfInBounds_toArray, List.set_cons_zero, List.set_cons_succ]
  refine wpAnyH_done (by kernel_rfl) ?_ _
  have HEND := Lib.hid (HB0.out.trans (hB9.mono HB0.out.size))
  have HO := Lib.hid ho
  clear ho ho9 hb9 hB9
  go_wp2
  go_ret
  exact ⟨v9, rfl, HO.out, HEND.out⟩

set_option maxRecDepth 100000 in
set_option maxHeartbeats 8000000 in
theorem rencHdr_any (w : World) (h : Hdr) (ho : h.ok) (hw : (hdrI h).whole ≤ 140737488351232) : Calls Try.prog 28 #[.agg (hdrCells h)] w (HBytes w (hdrBytes h)) := by
  obtain ⟨BC, hBC⟩ : ∃ BC, BC = hdrCells h := ⟨_, rfl⟩
  obtain ⟨I, hI⟩ : ∃ I, I = hdrI h := ⟨_, rfl⟩
  have hbf : ∀ W : World, W.heap[w.heap.size]? = some (.cells BC 47 (0, 0)) → _ := fun W hW => hdr_facts (w := W) (g := w.heap.size) (t := 47) ho (by rw [hBC] at hW; exact hW)
  have hres : hdrBytes h = I.encode.1 := by rw [hI]; rfl
  rw [hres, ← hBC]
  obtain ⟨p, nn, bb, gg, tx, st, rc⟩ := h
  obtain ⟨o1, o2, o3, o4, o5, o6, o7⟩ := ho
  simp only at hbf o1 o2 o3 o4 o5 o6 o7
  have hI2 : I = .list [.text p, .text (wordB nn), .text (wordB bb), .text (wordB gg), .text tx, .text st, .text rc] := hI
  rw [← hI] at hw
  obtain ⟨W0, hW0⟩ : ∃ W, W = w.alloc (.cells BC 47) := ⟨_, rfl⟩
  have hb0 : Below w.heap.size w W0 := by rw [hW0]; exact Bel.alloc (Bel.refl w) _
  have hk0 : W0.heap[w.heap.size]? = some (.cells BC 47 (0, 0)) := by rw [hW0]; exact heap_alloc_new w _
  have hsw := (Array.getElem?_eq_some_iff.1 hk0).1
  obtain ⟨S, hS⟩ : ∃ S : World → Prop, S = fun w' => w'.rangeAt w.heap.size 0 (cellsL p) ∧ w'.cell? ⟨w.heap.size, 32, none⟩ = some (.int .u64 nn) ∧ w'.cell? ⟨w.heap.size, 33, none⟩ = some (.int .u64 bb) ∧ w'.cell? ⟨w.heap.size, 34, none⟩ = some (.int .u64 gg) ∧ w'.rangeAt w.heap.size 35 (cellsL tx) ∧ w'.rangeAt w.heap.size 67 (cellsL st) ∧ w'.rangeAt w.heap.size 99 (cellsL rc) := ⟨_, rfl⟩
  have hkeep : ∀ W : World, Below W0.heap.size W0 W → S W := fun W hW => by rw [hS]; exact hbf W ((hW.block _ hsw).trans hk0)
  have hget : ∀ W : World, S W → W.rangeAt w.heap.size 0 (cellsL p) ∧ W.cell? ⟨w.heap.size, 32, none⟩ = some (.int .u64 nn) ∧ W.cell? ⟨w.heap.size, 33, none⟩ = some (.int .u64 bb) ∧ W.cell? ⟨w.heap.size, 34, none⟩ = some (.int .u64 gg) ∧ W.rangeAt w.heap.size 35 (cellsL tx) ∧ W.rangeAt w.heap.size 67 (cellsL st) ∧ W.rangeAt w.heap.size 99 (cellsL rc) := fun W hW => by rw [hS] at hW; exact hW
  have HKP := Lib.hid hkeep
  have HS := Lib.hid hget
  have HW0 := Lib.hid hW0
  have HB0 := Lib.hid hb0
  have HI := Lib.hid hI2
  have HW := Lib.hid hw
  have O1 := Lib.hid o1
  have O2 := Lib.hid o2
  have O3 := Lib.hid o3
  have O4 := Lib.hid o4
  have O5 := Lib.hid o5
  have O6 := Lib.hid o6
  have O7 := Lib.hid o7
  clear hBC hI hbf hres hI2 hw hW0 hb0 hk0 hkeep hget hS o1 o2 o3 o4 o5 o6 o7
  go_enter Try.func28, Try.ntmps28
  go_wp2_with fail
  rw [← HW0.out]
  have HUD := underlyingDig
  have e0 : (Try.prog.info? 37).map (·.size) = some (cellsL p).length := by rw [cellsL_length, O1.out]; exact infoDig
  have e4 : (Try.prog.info? 37).map (·.size) = some (cellsL tx).length := by rw [cellsL_length, O2.out]; exact infoDig
  have e5 : (Try.prog.info? 37).map (·.size) = some (cellsL st).length := by rw [cellsL_length, O3.out]; exact infoDig
  have e6 : (Try.prog.info? 37).map (·.size) = some (cellsL rc).length := by rw [cellsL_length, O4.out]; exact infoDig
  refine wp_region_held_drew (S := S) (by kernel_rfl) (HKP.out _ (Bel.drew (Bel.refl W0))) (fun hHeld => ?_)
  refine wpAnyH_take (i := 0) (op_at rfl) (by kernel_rfl) (by kernel_rfl) (by kernel_rfl) (fun _ _ _ h => h) (Or.inl ⟨by rfl, by intro w hSw; go_simp; (try with_reducible rfl)⟩) hHeld ?_
  simp only [Act.put, List.setIfInBounds_toArray, List.set_cons_zero, List.set_cons_succ]
  refine wpAnyH_take (i := 1) (op_at rfl) (by kernel_rfl) (by kernel_rfl) (by kernel_rfl) (fun _ _ _ h => h) (yieldsIf_load_mid (by rfl) _ _ rfl _ _ rfl _ _ (fun W hW => (HS.out W hW).1) HUD rfl e0) hHeld ?_
  simp only [Act.put, List.setIfInBounds_toArray, List.set_cons_zero, List.set_cons_succ]
  refine wpAnyH_take (i := 3) (op_at rfl) (by kernel_rfl) (by kernel_rfl) (by kernel_rfl) (fun _ _ _ h => h) (Or.inl ⟨by rfl, by intro w hSw; go_simp; (try with_reducible rfl)⟩) hHeld ?_
  simp only [Act.put, List.setIfInBounds_toArray, List.set_cons_zero, List.set_cons_succ]
  refine wpAnyH_take (i := 4) (op_at rfl) (by kernel_rfl) (by kernel_rfl) (by kernel_rfl) (fun _ _ _ h => h) (Or.inl ⟨by rfl, by intro W hSw; have hc := (HS.out W hSw).2.1; go_simp; (try with_reducible rfl)⟩) hHeld ?_
  simp only [Act.put, List.setIfInBounds_toArray, List.set_cons_zero, List.set_cons_succ]
  refine wpAnyH_take (i := 6) (op_at rfl) (by kernel_rfl) (by kernel_rfl) (by kernel_rfl) (fun _ _ _ h => h) (Or.inl ⟨by rfl, by intro w hSw; go_simp; (try with_reducible rfl)⟩) hHeld ?_
  simp only [Act.put, List.setIfInBounds_toArray, List.set_cons_zero, List.set_cons_succ]
  refine wpAnyH_take (i := 7) (op_at rfl) (by kernel_rfl) (by kernel_rfl) (by kernel_rfl) (fun _ _ _ h => h) (Or.inl ⟨by rfl, by intro W hSw; have hc := (HS.out W hSw).2.2.1; go_simp; (try with_reducible rfl)⟩) hHeld ?_
  simp only [Act.put, List.setIfInBounds_toArray, List.set_cons_zero, List.set_cons_succ]
  refine wpAnyH_take (i := 9) (op_at rfl) (by kernel_rfl) (by kernel_rfl) (by kernel_rfl) (fun _ _ _ h => h) (Or.inl ⟨by rfl, by intro w hSw; go_simp; (try with_reducible rfl)⟩) hHeld ?_
  simp only [Act.put, List.setIfInBounds_toArray, List.set_cons_zero, List.set_cons_succ]
  refine wpAnyH_take (i := 10) (op_at rfl) (by kernel_rfl) (by kernel_rfl) (by kernel_rfl) (fun _ _ _ h => h) (Or.inl ⟨by rfl, by intro W hSw; have hc := (HS.out W hSw).2.2.2.1; go_simp; (try with_reducible rfl)⟩) hHeld ?_
  simp only [Act.put, List.setIfInBounds_toArray, List.set_cons_zero, List.set_cons_succ]
  refine wpAnyH_take (i := 12) (op_at rfl) (by kernel_rfl) (by kernel_rfl) (by kernel_rfl) (fun _ _ _ h => h) (Or.inl ⟨by rfl, by intro w hSw; go_simp; (try with_reducible rfl)⟩) hHeld ?_
  simp only [Act.put, List.setIfInBounds_toArray, List.set_cons_zero, List.set_cons_succ]
  refine wpAnyH_take (i := 13) (op_at rfl) (by kernel_rfl) (by kernel_rfl) (by kernel_rfl) (fun _ _ _ h => h) (yieldsIf_load_mid (by rfl) _ _ rfl _ _ rfl _ _ (fun W hW => (HS.out W hW).2.2.2.2.1) HUD rfl e4) hHeld ?_
  simp only [Act.put, List.setIfInBounds_toArray, List.set_cons_zero, List.set_cons_succ]
  refine wpAnyH_take (i := 15) (op_at rfl) (by kernel_rfl) (by kernel_rfl) (by kernel_rfl) (fun _ _ _ h => h) (Or.inl ⟨by rfl, by intro w hSw; go_simp; (try with_reducible rfl)⟩) hHeld ?_
  simp only [Act.put, List.setIfInBounds_toArray, List.set_cons_zero, List.set_cons_succ]
  refine wpAnyH_take (i := 16) (op_at rfl) (by kernel_rfl) (by kernel_rfl) (by kernel_rfl) (fun _ _ _ h => h) (yieldsIf_load_mid (by rfl) _ _ rfl _ _ rfl _ _ (fun W hW => (HS.out W hW).2.2.2.2.2.1) HUD rfl e5) hHeld ?_
  simp only [Act.put, List.setIfInBounds_toArray, List.set_cons_zero, List.set_cons_succ]
  refine wpAnyH_take (i := 18) (op_at rfl) (by kernel_rfl) (by kernel_rfl) (by kernel_rfl) (fun _ _ _ h => h) (Or.inl ⟨by rfl, by intro w hSw; go_simp; (try with_reducible rfl)⟩) hHeld ?_
  simp only [Act.put, List.setIfInBounds_toArray, List.set_cons_zero, List.set_cons_succ]
  refine wpAnyH_take (i := 19) (op_at rfl) (by kernel_rfl) (by kernel_rfl) (by kernel_rfl) (fun _ _ _ h => h) (yieldsIf_load_mid (by rfl) _ _ rfl _ _ rfl _ _ (fun W hW => (HS.out W hW).2.2.2.2.2.2) HUD rfl e6) hHeld ?_
  simp only [Act.put, List.setIfInBounds_toArray, List.set_cons_zero, List.set_cons_succ]
  refine wpAnyH_ready (rs := [2]) (by kernel_rfl) (by simp) (AllReadyH.cons (op_at rfl) (fun K hK => ?_) AllReadyH.nil)
  clear hHeld
  go_simp
  go_at_call_of 53 (Value.agg (cellsL p).toArray)
  refine (rname_any p _ O1.out).mono ?_
  rintro e W1 ⟨v1, rfl, it1, hb1⟩
  have hB1 : Below W0.heap.size W0 W1 := Bel.call (Bel.drew (Bel.refl W0)) hb1
  obtain ⟨-, a1, n1, c1, a1', n1', c1', rfl, -, -, -⟩ := ItemAt.form it1
  go_wp2_with fail
  refine hK.out _ _ (HKP.out _ (hB1)) (fun hHeld => ?_)
  clear hK K
  try simp only [Act.put, List.setIfInBounds_toArray, List.set_cons_zero, List.set_cons_succ]
  refine wpAnyH_ready (rs := [5]) (by kernel_rfl) (by simp) (AllReadyH.cons (op_at rfl) (fun K hK => ?_) AllReadyH.nil)
  clear hHeld
  go_simp
  go_at_call_of 54 (Value.int .u64 (nn : Int))
  refine (rwordI_any nn _ O5.out).mono ?_
  rintro e W2 ⟨v2, rfl, it2, hb2⟩
  have hB2 : Below W0.heap.size W0 W2 := Bel.call hB1 hb2
  have c1_2 : Below W1.heap.size W1 W2 := Bel.call (Bel.refl W1) hb2
  obtain ⟨-, a2, n2, c2, a2', n2', c2', rfl, -, -, -⟩ := ItemAt.form it2
  go_wp2_with fail
  refine hK.out _ _ (HKP.out _ (hB2)) (fun hHeld => ?_)
  clear hK K
  try simp only [Act.put, List.setIfInBounds_toArray, List.set_cons_zero, List.set_cons_succ]
  refine wpAnyH_ready (rs := [8]) (by kernel_rfl) (by simp) (AllReadyH.cons (op_at rfl) (fun K hK => ?_) AllReadyH.nil)
  clear hHeld
  go_simp
  go_at_call_of 54 (Value.int .u64 (bb : Int))
  refine (rwordI_any bb _ O6.out).mono ?_
  rintro e W3 ⟨v3, rfl, it3, hb3⟩
  have hB3 : Below W0.heap.size W0 W3 := Bel.call hB2 hb3
  have c1_3 : Below W1.heap.size W1 W3 := Bel.call c1_2 hb3
  have c2_3 : Below W2.heap.size W2 W3 := Bel.call (Bel.refl W2) hb3
  obtain ⟨-, a3, n3, c3, a3', n3', c3', rfl, -, -, -⟩ := ItemAt.form it3
  go_wp2_with fail
  refine hK.out _ _ (HKP.out _ (hB3)) (fun hHeld => ?_)
  clear hK K
  try simp only [Act.put, List.setIfInBounds_toArray, List.set_cons_zero, List.set_cons_succ]
  refine wpAnyH_ready (rs := [11]) (by kernel_rfl) (by simp) (AllReadyH.cons (op_at rfl) (fun K hK => ?_) AllReadyH.nil)
  clear hHeld
  go_simp
  go_at_call_of 54 (Value.int .u64 (gg : Int))
  refine (rwordI_any gg _ O7.out).mono ?_
  rintro e W4 ⟨v4, rfl, it4, hb4⟩
  have hB4 : Below W0.heap.size W0 W4 := Bel.call hB3 hb4
  have c1_4 : Below W1.heap.size W1 W4 := Bel.call c1_3 hb4
  have c2_4 : Below W2.heap.size W2 W4 := Bel.call c2_3 hb4
  have c3_4 : Below W3.heap.size W3 W4 := Bel.call (Bel.refl W3) hb4
  obtain ⟨-, a4, n4, c4, a4', n4', c4', rfl, -, -, -⟩ := ItemAt.form it4
  go_wp2_with fail
  refine hK.out _ _ (HKP.out _ (hB4)) (fun hHeld => ?_)
  clear hK K
  try simp only [Act.put, List.setIfInBounds_toArray, List.set_cons_zero, List.set_cons_succ]
  refine wpAnyH_ready (rs := [14]) (by kernel_rfl) (by simp) (AllReadyH.cons (op_at rfl) (fun K hK => ?_) AllReadyH.nil)
  clear hHeld
  go_simp
  go_at_call_of 53 (Value.agg (cellsL tx).toArray)
  refine (rname_any tx _ O2.out).mono ?_
  rintro e W5 ⟨v5, rfl, it5, hb5⟩
  have hB5 : Below W0.heap.size W0 W5 := Bel.call hB4 hb5
  have c1_5 : Below W1.heap.size W1 W5 := Bel.call c1_4 hb5
  have c2_5 : Below W2.heap.size W2 W5 := Bel.call c2_4 hb5
  have c3_5 : Below W3.heap.size W3 W5 := Bel.call c3_4 hb5
  have c4_5 : Below W4.heap.size W4 W5 := Bel.call (Bel.refl W4) hb5
  obtain ⟨-, a5, n5, c5, a5', n5', c5', rfl, -, -, -⟩ := ItemAt.form it5
  go_wp2_with fail
  refine hK.out _ _ (HKP.out _ (hB5)) (fun hHeld => ?_)
  clear hK K
  try simp only [Act.put, List.setIfInBounds_toArray, List.set_cons_zero, List.set_cons_succ]
  refine wpAnyH_ready (rs := [17]) (by kernel_rfl) (by simp) (AllReadyH.cons (op_at rfl) (fun K hK => ?_) AllReadyH.nil)
  clear hHeld
  go_simp
  go_at_call_of 53 (Value.agg (cellsL st).toArray)
  refine (rname_any st _ O3.out).mono ?_
  rintro e W6 ⟨v6, rfl, it6, hb6⟩
  have hB6 : Below W0.heap.size W0 W6 := Bel.call hB5 hb6
  have c1_6 : Below W1.heap.size W1 W6 := Bel.call c1_5 hb6
  have c2_6 : Below W2.heap.size W2 W6 := Bel.call c2_5 hb6
  have c3_6 : Below W3.heap.size W3 W6 := Bel.call c3_5 hb6
  have c4_6 : Below W4.heap.size W4 W6 := Bel.call c4_5 hb6
  have c5_6 : Below W5.heap.size W5 W6 := Bel.call (Bel.refl W5) hb6
  obtain ⟨-, a6, n6, c6, a6', n6', c6', rfl, -, -, -⟩ := ItemAt.form it6
  go_wp2_with fail
  refine hK.out _ _ (HKP.out _ (hB6)) (fun hHeld => ?_)
  clear hK K
  try simp only [Act.put, List.setIfInBounds_toArray, List.set_cons_zero, List.set_cons_succ]
  refine wpAnyH_ready (rs := [20]) (by kernel_rfl) (by simp) (AllReadyH.cons (op_at rfl) (fun K hK => ?_) AllReadyH.nil)
  clear hHeld
  go_simp
  go_at_call_of 53 (Value.agg (cellsL rc).toArray)
  refine (rname_any rc _ O4.out).mono ?_
  rintro e W7 ⟨v7, rfl, it7, hb7⟩
  have hB7 : Below W0.heap.size W0 W7 := Bel.call hB6 hb7
  have c1_7 : Below W1.heap.size W1 W7 := Bel.call c1_6 hb7
  have c2_7 : Below W2.heap.size W2 W7 := Bel.call c2_6 hb7
  have c3_7 : Below W3.heap.size W3 W7 := Bel.call c3_6 hb7
  have c4_7 : Below W4.heap.size W4 W7 := Bel.call c4_6 hb7
  have c5_7 : Below W5.heap.size W5 W7 := Bel.call c5_6 hb7
  have c6_7 : Below W6.heap.size W6 W7 := Bel.call (Bel.refl W6) hb7
  obtain ⟨-, a7, n7, c7, a7', n7', c7', rfl, -, -, -⟩ := ItemAt.form it7
  go_wp2_with fail
  refine hK.out _ _ (HKP.out _ (hB7)) (fun hHeld => ?_)
  clear hK K
  try simp only [Act.put, List.setIfInBounds_toArray, List.set_cons_zero, List.set_cons_succ]
  refine wpAnyH_ready (rs := [21]) (by kernel_rfl) (by simp) (AllReadyH.cons (op_at rfl) (fun K hK => ?_) AllReadyH.nil)
  clear hHeld
  go_simp
  go_wp2_with fail
  refine hK.out _ _ (HKP.out _ (Bel.alloc hB7 _)) (fun hHeld => ?_)
  clear hK K
  try simp only [Act.put, List.setIfInBounds_toArray, List.set_cons_zero, List.set_cons_succ]
  refine wpAnyH_take (i := 22) (op_at rfl) (by kernel_rfl) (by kernel_rfl) (by kernel_rfl) (fun _ _ _ h => h) (Or.inl ⟨by rfl, by intro w hSw; go_simp; (try with_reducible rfl)⟩) hHeld ?_
  simp only [Act.put, List.setIfInBounds_toArray, List.set_cons_zero, List.set_cons_succ]
  refine wpAnyH_ready (rs := [23]) (by kernel_rfl) (by simp) (AllReadyH.cons (op_at rfl) (fun K hK => ?_) AllReadyH.nil)
  clear hHeld
  go_simp
  go_at_call 45
  refine (rencode_any (fun b => W0.heap.size ≤ b) _ 3 I true _ _ (by rw [HI.out]; exact ⟨_, _, rfl, SliceAt.nil _ _ _ _, septI (itUp (Nat.le_refl _) c1_7 it1) (itUp hB1.size c2_7 it2) (itUp hB2.size c3_7 it3) (itUp hB3.size c4_7 it4) (itUp hB4.size c5_7 it5) (itUp hB5.size c6_7 it6) (itUp hB6.size (Bel.refl W7) it7) hB7.size _⟩) HW.out).mono ?_
  rintro e W9 ⟨v9, rfl, ho9, hb9⟩
  have hB9 : Below W0.heap.size W0 W9 := Bel.call (Bel.alloc hB7 _) hb9
  have ho := ho9.lower (base' := w.heap.size) (by simp; have := HB0.out.size; have := hB7.size; omega)
  go_wp2_with fail
  refine hK.out _ _ (HKP.out _ (hB9)) (fun hHeld => ?_)
  clear hK K
  try simp only [Act.put, List.setIfInBounds_toArray, List.set_cons_zero, List.set_cons_succ]
  refine wpAnyH_take (i := 24) (op_at rfl) (by kernel_rfl) (by kernel_rfl) (by kernel_rfl) (fun _ _ _ h => h) (Or.inl ⟨by rfl, by intro w hSw; go_simp; (try with_reducible rfl)⟩) hHeld ?_
  simp only [Act.put, List.setIfInBounds_toArray, List.set_cons_zero, List.set_cons_succ]
  refine wpAnyH_take (i := 25) (op_at rfl) (by kernel_rfl) (by kernel_rfl) (by kernel_rfl) (fun _ _ _ h => h) (Or.inl ⟨by rfl, by intro w hSw; go_simp; (try with_reducible rfl)⟩) hHeld ?_
  simp only [Act.put, List.setIfInBounds_toArray, List.set_cons_zero, List.set_cons_succ]
  refine wpAnyH_take (i := 26) (op_at rfl) (by kernel_rfl) (by kernel_rfl) (by kernel_rfl) (fun _ _ _ h => h) (Or.inl ⟨by rfl, by intro w hSw; go_simp; (try with_reducible rfl)⟩) hHeld ?_
  simp only [Act.put, List.setIfInBounds_toArray, List.set_cons_zero, List.set_cons_succ]
  refine wpAnyH_take (i := 27) (op_at rfl) (by kernel_rfl) (by kernel_rfl) (by kernel_rfl) (fun _ _ _ h => h) (Or.inl ⟨by rfl, by intro w hSw; go_simp; (try with_reducible rfl)⟩) hHeld ?_
  simp only [Act.put, List.setIfInBounds_toArray, List.set_cons_zero, List.set_cons_succ]
  refine wpAnyH_take (i := 28) (op_at rfl) (by kernel_rfl) (by kernel_rfl) (by kernel_rfl) (fun _ _ _ h => h) (Or.inl ⟨by rfl, by intro w hSw; go_simp; (try with_reducible rfl)⟩) hHeld ?_
  simp only [Act.put, List.setIfInBounds_toArray, List.set_cons_zero, List.set_cons_succ]
  refine wpAnyH_done (by kernel_rfl) ?_ _
  have HEND := Lib.hid (HB0.out.trans (hB9.mono HB0.out.size))
  have HO := Lib.hid ho
  clear ho ho9 hb9 hB9
  go_wp2
  go_ret
  exact ⟨v9, rfl, HO.out, HEND.out⟩
end Go.Proofs.Ytndkkgkcbbmnpaa
namespace Go.Proofs.Ytndkkgkcbbmnpaa
open Go.RowKit Go.Pg

set_option maxRecDepth 100000 in
set_option maxHeartbeats 4000000 in
theorem padded_any (F : Nat → Prop) (w : World) (a : Option Addr) (n c : Nat) (bs : List UInt8) (h : BytesAt F w (.slice a n c) bs) (hn : n ≤ 140737488351232) :
    Calls Try.prog 63 #[.slice a n c] w (Fresh w 5 1 byteR (padOf bs bs.length)) := by
  obtain ⟨i0, hi, hz0, hz1, hz2⟩ := info_parts infoU8
  have hnl := (BytesAt.n h).1
  obtain ⟨DD, hDD⟩ : ∃ D, D = padOf bs bs.length := ⟨_, rfl⟩
  rw [← hDD]
  have hown : OwnAt (w.alloc (.cells #[] 5)) w.heap.size 5 1 byteR (.slice (some ⟨w.heap.size, 0, none⟩) 0 0) ([] : List UInt8) :=
    ⟨[], World.ownsRow_made w #[] 0 (Nat.le_refl _) (by decide) rfl, Rows.nil _ _⟩
  have hsrc : BytesAt F (w.alloc (.cells #[] 5)) (.slice a n c) bs := BytesAt.below h (Bel.alloc (Bel.refl w) _)
  have hle : (([] : List UInt8).length + bs.length) * 1 ≤ 140737488355328 := by simp; omega
  have hbase : w.heap.size ≤ (w.alloc (.cells #[] 5)).heap.size := by simp
  have HD := Lib.hid hDD
  have HNL := Lib.hid hnl
  have HO := Lib.hid hown
  have HS := Lib.hid hsrc
  have HLE := Lib.hid hle
  clear h hnl hDD hown hsrc hle
  go_enter Try.func63, Try.ntmps63
  go_wp2_with (at_builtin; refine wpList_append_at rfl (.tmp 6) (.tmp 7) 25 rfl w.heap.size 5 i0 (.int .u8 0) 1 1 underlying25 hi hz0 hz1 hz2 rfl (by decide) (by decide) byteR.one (.slice (some ⟨w.heap.size, 0, none⟩) 0 0) [] rfl HO.out _ bs F rfl HS.out HLE.out hbase ?next)
  case next =>
  intro v2 w2 ho hg hm
  have hb2 : Below w.heap.size w w2 := (Bel.alloc (Bel.refl w) _).grown hg hbase (fun k hk => ((HO.out).own k hk).1)
  obtain ⟨a2, c2, rfl, h2, h3, -⟩ := ho.len
  have ho' : OwnAt w2 w.heap.size 5 1 byteR (.slice a2 bs.length c2) bs := ho
  rw [← HNL.out] at ho' ⊢
  have hle2 : (bs.length + ([128] : List UInt8).length) * 1 ≤ 140737488355328 := by have := HNL.out; simp; omega
  have hbase2 : w.heap.size ≤ (w2.alloc (.cells #[.int .u8 128] 5)).heap.size := by simp; have := hb2.size; omega
  have HO2 := Lib.hid (ho'.carry (w' := w2.alloc (.cells #[.int .u8 128] 5)) (fun g _ _ hlt => Below.heap_alloc _ _ _ hlt))
  have HS2 : Hid (BytesAt (fun _ => True) (w2.alloc (.cells #[.int .u8 128] 5)) (.slice (some ⟨w2.heap.size, 0, none⟩) 1 1) [128]) :=
    Lib.hid (show BytesAt _ _ _ _ from (OwnAt.lit' w2 5 128).at (F := fun _ => True) (fun _ _ _ _ => trivial) (by decide))
  have HL2 := Lib.hid hle2
  have HB2 := Lib.hid hb2
  clear ho ho' hg hm h2 h3 hle2 hb2 HO HS HLE hbase
  go_wp2_with (at_builtin; refine wpList_append_at rfl (.tmp 9) (.tmp 10) 25 rfl w.heap.size 5 i0 (.int .u8 0) 1 1 underlying25 hi hz0 hz1 hz2 rfl (by decide) (by decide) byteR.one (.slice a2 n c2) bs rfl HO2.out _ [128] (fun _ => True) rfl HS2.out HL2.out hbase2 ?next)
  case next =>
  intro v3 w3 ho hg hm
  have hb3 : Below w.heap.size w w3 := (Bel.alloc HB2.out _).grown hg hbase2 (fun k hk => ((HO2.out).own k hk).1)
  obtain ⟨a3, c3, rfl, h2, h3, -⟩ := ho.len
  have hl128 : (bs ++ [(128 : UInt8)]).length = n + 1 := by rw [List.length_append, ← HNL.out]; rfl
  rw [hl128] at ho ⊢
  have HI : Hid (Below w.heap.size w w3 ∧ OwnAt w3 w.heap.size 5 1 byteR (.slice a3 (n + 1) c3) (bs ++ [128] ++ List.replicate 0 0)) := ⟨hb3, by simpa using ho⟩
  clear hl128 ho hg hm h2 h3 hb3 HO2 HS2 HL2 HB2 hbase2
  obtain ⟨z, hz⟩ : ∃ z, z = zeros bs.length := ⟨_, rfl⟩
  have hzz : (n + 1 + z) % 32 = 24 ∧ z < 32 ∧ ∀ j, j < z → (n + 1 + j) % 32 ≠ 24 := by
    rw [← HNL.out] at hz
    unfold zeros at hz
    exact ⟨by omega, by omega, fun j hj => by omega⟩
  have HZ := Lib.hid hz
  have HZZ := Lib.hid hzz
  have hz32 := hzz.2.1
  clear hz hzz
  go_wp2_with fail
  go_loopw [3] (fun v wr => ∃ (j k : Nat) (ax : Option Addr) (c' : Nat), v = .slice ax k c' ∧ k = n + 1 + j ∧ j ≤ z ∧ Hid (Below w.heap.size w wr ∧ OwnAt wr w.heap.size 5 1 byteR (.slice ax k c') (bs ++ [128] ++ List.replicate j 0))) (fun v _ => match v with | .slice _ k _ => n + 40 - k | _ => 0)
  case atStart => exact ⟨0, n + 1, a3, c3, rfl, rfl, by omega, HI⟩
  case round =>
    obtain ⟨j, k, ax, c', rfl, hkj, hj, HS⟩ := hrel
    obtain ⟨h1, h2⟩ := HS.out
    have hk64 : k ≤ n + 40 := by omega
    obtain ⟨_, cx, ex, hkc, hcm, -⟩ := h2.len
    simp only [Value.slice.injEq] at ex
    obtain ⟨rfl, -, rfl⟩ := ex
    have hklen : (bs ++ [(128 : UInt8)] ++ List.replicate j 0).length = k := by rw [List.length_append, List.length_append, List.length_replicate, ← HNL.out, hkj]; rfl
    by_cases hjz : j < z
    · have hne : k % 32 ≠ 24 := by rw [hkj]; exact HZZ.out.2.2 j hjz
      have ht : (((k : Nat) : Int) % 32 == 24) = false := by simp; omega
      have ht2 : (((k : Nat) : Int) % 32 != 24) = true := by simp; omega
      obtain ⟨LJ, hLJ⟩ : ∃ LJ, LJ = bs ++ [(128 : UInt8)] ++ List.replicate j 0 := ⟨_, rfl⟩
      rw [← hLJ] at hklen h2
      have hsrc : BytesAt (fun _ => True) (wr.alloc (.cells #[.int .u8 0] 5)) (.slice (some ⟨wr.heap.size, 0, none⟩) 1 1) [0] :=
        (OwnAt.lit' wr 5 0).at (F := fun _ => True) (fun _ _ _ _ => trivial) (by decide)
      have hbase2 : w.heap.size ≤ (wr.alloc (.cells #[.int .u8 0] 5)).heap.size := by simp; have := h1.size; omega
      have hle : (LJ.length + ([0] : List UInt8).length) * 1 ≤ 140737488355328 := by rw [hklen]; simp; omega
      have HO := Lib.hid (h2.carry (w' := wr.alloc (.cells #[.int .u8 0] 5)) (fun g _ _ hlt => Below.heap_alloc _ _ _ hlt))
      have HS2 := Lib.hid hsrc
      have HLE := Lib.hid hle
      have HKL := Lib.hid hklen
      have HKJ := Lib.hid hkj
      have H1 := Lib.hid h1
      have HLJ := Lib.hid hLJ
      clear h1 h2 hsrc hle hklen hne hkj HS hcm hLJ
      go_wp2_with (at_builtin; refine wpList_append_at rfl (.tmp 16) (.tmp 17) 25 rfl w.heap.size 5 i0 (.int .u8 0) 1 1 underlying25 hi hz0 hz1 hz2 rfl (by decide) (by decide) byteR.one (.slice ax k c') LJ rfl HO.out _ [0] (fun _ => True) rfl HS2.out HLE.out hbase2 ?next)
      case next =>
      intro v4 w4 ho hg hm
      have hb4 : Below w.heap.size w w4 := (Bel.alloc H1.out _).grown hg hbase2 (fun k hk => ((HO.out).own k hk).1)
      obtain ⟨a4, c4, rfl, -, -, -⟩ := ho.len
      have e : (LJ ++ [0]).length = k + 1 := by rw [List.length_append, HKL.out]; rfl
      have e2 : LJ ++ [0] = bs ++ [128] ++ List.replicate (j + 1) 0 := by rw [HLJ.out, List.replicate_succ', ← List.append_assoc]
      rw [e] at ho ⊢
      rw [e2] at ho
      have HN4 := Lib.hid (And.intro hb4 ho)
      clear e e2 hb4 ho hg hm
      go_wp2_with fail
      go_roundw
      case rel => exact ⟨j + 1, k + 1, a4, c4, rfl, by have := HKJ.out; omega, by omega, HN4⟩
      case measure => have := HKJ.out; simp; omega
    · obtain rfl : j = z := by omega
      have he : k % 32 = 24 := by rw [hkj]; exact HZZ.out.1
      have ht : (((k : Nat) : Int) % 32 == 24) = true := by simp; omega
      have ht2 : (((k : Nat) : Int) % 32 != 24) = false := by simp; omega
      obtain ⟨LJ, hLJ⟩ : ∃ LJ, LJ = bs ++ [(128 : UInt8)] ++ List.replicate j 0 := ⟨_, rfl⟩
      rw [← hLJ] at hklen h2
      have hDD : LJ ++ beBytes 8 n = DD := by rw [HD.out, hLJ, HZ.out]; unfold padOf; rw [HNL.out]
      have hwn : IntKind.u64.wrap (n : Int) = (n : Int) := IntWalk.u64_in _ (by omega)
      have HI2 : Hid (Below w.heap.size w wr ∧ OwnAt wr w.heap.size 5 1 byteR (.slice ax k c') (LJ ++ (beBytes 8 n).take 0)) := ⟨h1, by simpa using h2⟩
      have HKL := Lib.hid hklen
      have HDD := Lib.hid hDD
      clear h1 h2 hklen hDD hLJ he HS hkj hcm hjz hj
      go_wp2_with fail
      go_loopw [3, 5] (fun v i wr => ∃ (j m : Nat) (ax : Option Addr) (c' : Nat), i = .int .i64 j ∧ j ≤ 8 ∧ v = .slice ax m c' ∧ m = k + j ∧ Hid (Below w.heap.size w wr ∧ OwnAt wr w.heap.size 5 1 byteR (.slice ax m c') (LJ ++ (beBytes 8 n).take j))) (fun _ i _ => 8 - (intOf i).toNat)
      case atStart => exact ⟨0, k, ax, c', rfl, by omega, rfl, rfl, HI2⟩
      case round =>
        obtain ⟨j, m, ax, c', rfl, hj8, rfl, hmk, HS⟩ := hrel
        obtain ⟨h1, h2⟩ := HS.out
        by_cases hlt : j < 8
        · have hbl : j < (beBytes 8 n).length := by rw [beBytes_length]; exact hlt
          obtain ⟨x, hx⟩ : ∃ x, x = (beBytes 8 n)[j]'hbl := ⟨_, rfl⟩
          have hcell : (.int .u8 ((n : Int) / 2 ^ (56 - 8 * j) % 256) : Value) = .int .u8 (x.toNat : Int) := by rw [hx]; exact key_cell n j hlt
          obtain ⟨LT, hLT⟩ : ∃ LT, LT = LJ ++ (beBytes 8 n).take j := ⟨_, rfl⟩
          have hLTn : LT ++ [x] = LJ ++ (beBytes 8 n).take (j + 1) := by rw [hLT, hx, List.take_succ_eq_append_getElem hbl, List.append_assoc]
          have hLTl : LT.length = m := by rw [hLT, List.length_append, HKL.out, List.length_take, beBytes_length, hmk]; omega
          rw [← hLT] at h2
          have hsrc : BytesAt (fun _ => True) (wr.alloc (.cells #[.int .u8 ((n : Int) / 2 ^ (56 - 8 * j) % 256)] 5)) (.slice (some ⟨wr.heap.size, 0, none⟩) 1 1) [x] := by
            rw [hcell]; exact (OwnAt.lit' wr 5 x).at (F := fun _ => True) (fun _ _ _ _ => trivial) (by decide)
          have hbase2 : w.heap.size ≤ (wr.alloc (.cells #[.int .u8 ((n : Int) / 2 ^ (56 - 8 * j) % 256)] 5)).heap.size := by simp; have := h1.size; omega
          have hle : (LT.length + ([x] : List UInt8).length) * 1 ≤ 140737488355328 := by rw [hLTl]; simp; omega
          have HO := Lib.hid (h2.carry (w' := wr.alloc (.cells #[.int .u8 ((n : Int) / 2 ^ (56 - 8 * j) % 256)] 5)) (fun g _ _ hlt => Below.heap_alloc _ _ _ hlt))
          have HS2 := Lib.hid hsrc
          have HLE := Lib.hid hle
          have HLN := Lib.hid hLTn
          have HLL := Lib.hid hLTl
          have H1 := Lib.hid h1
          have HMK := Lib.hid hmk
          have hj0 : (0 : Int) ≤ (j : Int) := by omega
          have hj1 : (j : Int) < 8 := by omega
          clear hcell hx hLT hLTn hLTl h2 hsrc hle h1 HS hmk
          go_wp2_with (at_builtin; refine wpList_append_at rfl (.tmp 26) (.tmp 33) 25 rfl w.heap.size 5 i0 (.int .u8 0) 1 1 underlying25 hi hz0 hz1 hz2 rfl (by decide) (by decide) byteR.one (.slice ax m c') LT rfl HO.out _ [x] (fun _ => True) rfl HS2.out HLE.out hbase2 ?next)
          case next =>
          intro v4 w4 ho hg hm
          have hb4 : Below w.heap.size w w4 := (Bel.alloc H1.out _).grown hg hbase2 (fun k hk => ((HO.out).own k hk).1)
          obtain ⟨a4, c4, rfl, -, -, -⟩ := ho.len
          have e : (LT ++ [x]).length = m + 1 := by rw [List.length_append, HLL.out]; rfl
          rw [e] at ho ⊢
          rw [HLN.out] at ho
          have HN4 := Lib.hid (And.intro hb4 ho)
          clear e hb4 ho hg hm
          go_wp2_with fail
          go_roundw
          case rel => exact ⟨j + 1, m + 1, a4, c4, num_eq (by omega), by omega, rfl, by have := HMK.out; omega, HN4⟩
          case measure => simp [intOf]; omega
        · obtain rfl : j = 8 := by omega
          rw [List.take_of_length_le (by rw [beBytes_length]; exact Nat.le_refl _), HDD.out] at h2
          have H1 := Lib.hid h1
          have H2 := Lib.hid h2
          clear h1 h2 HS hmk
          go_wp2
          go_ret
          exact ⟨_, rfl, H2.out, H1.out⟩
end Go.Proofs.Ytndkkgkcbbmnpaa
