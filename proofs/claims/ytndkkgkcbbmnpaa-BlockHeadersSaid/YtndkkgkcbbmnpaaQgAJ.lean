/-
  Contract of pergolaref19.Encode.
  Contracts of block.EncodeHeader, pergolaref19.EncodeHeader.
-/
import Derived.Test.YtndkkgkcbbmnpaaQgAI
namespace Go.Proofs.Ytndkkgkcbbmnpaa
open Go.RowKit Go.Pg

/-- the four items of a block, the last one as it lay in a box -/
theorem rblkItems {F : Nat → Prop} {wr w3 w4 w5 : World} {p0 p1 p2 q2 : Value} {p b4 b5 : List UInt8} {LT : List It} (hb4 : Below w3.heap.size w3 w4) (hb5 : Below w4.heap.size w4 w5)
    (hB3 : Below wr.heap.size wr w3) (hB4 : Below wr.heap.size wr w4) (hB5 : Below wr.heap.size wr w5)
    (hit3 : ItemAt (fresh wr.drew) w3 1 [.bool false, p0, .slice none 0 0] (.text p)) (hit4 : ItemAt (fresh w3) w4 1 [.bool false, p1, .slice none 0 0] (.text b4)) (hit5 : ItemAt (fresh w4) w5 1 [.bool false, p2, .slice none 0 0] (.text b5))
    (hit6 : ItemsAt F wr 1 q2 LT) (t : TypeId) :
    ItemsAt (fun b => (F b ∧ b < wr.heap.size) ∨ wr.heap.size ≤ b) (w5.alloc (.cells #[.bool false, p0, .slice none 0 0, .bool false, p1, .slice none 0 0, .bool false, p2, .slice none 0 0, .bool true, .slice none 0 0, q2] t)) 2 (.slice (some ⟨w5.heap.size, 0, none⟩) 4 4) [.text p, .text b4, .text b5, .list LT] := by
  have s3 := hB3.size
  have s4 := hB4.size
  have s5 := hB5.size
  refine quadI ?_ ?_ ?_ ?_ (show (F w5.heap.size ∧ w5.heap.size < wr.heap.size) ∨ wr.heap.size ≤ w5.heap.size by omega) t
  · exact ItemAt.deeper 1 2 _ _ (by omega) (ItemAt.carry (fun b _ h => by have : wr.heap.size ≤ b := h; omega) (fun b _ hlt => (hb5.block b (by have := hb4.size; omega)).trans (hb4.block b hlt)) 1 _ _ hit3)
  · exact ItemAt.deeper 1 2 _ _ (by omega) (ItemAt.carry (fun b _ h => by have : w3.heap.size ≤ b := h; omega) (fun b _ hlt => hb5.block b hlt) 1 _ _ hit4)
  · exact ItemAt.deeper 1 2 _ _ (by omega) (ItemAt.carry (fun b _ h => by have : w4.heap.size ≤ b := h; omega) (fun _ _ _ => rfl) 1 _ _ hit5)
  · exact ⟨_, _, rfl, SliceAt.nil _ _ _ _, ItemsAt.carry hit6 (fun b hlt h => .inl ⟨h, hlt⟩) (fun b _ hlt => hB5.block b hlt)⟩

set_option maxRecDepth 100000 in
set_option maxHeartbeats 4000000 in
theorem rbencode_any (F : Nat → Prop) (w : World) (p : List UInt8) (nn bb : Nat) (v : Value) (l : List (List UInt8)) (hp : p.length = 32) (hnn : (nn : Int) < 18446744073709551616) (hbb : (bb : Int) < 18446744073709551616)
    (h : RowsAt F w v l) (hl : l.length ≤ 1099511627776) (hw : (blkI p nn bb l).whole ≤ 140737488351232) :
    Calls Try.prog 20 #[.agg (blkCells p nn bb v)] w (Encd w (blkEncode p nn bb l)) := by
  obtain ⟨a, c, rfl, -, -, -⟩ := SliceAt.len h
  replace h : RowsAt (fun b => F b ∧ b < w.heap.size) w _ l := RowsAt.carry h (fun b hb hF => ⟨hF, hb⟩) (fun _ _ _ => rfl)
  obtain ⟨i0, hi, hz0, hz1, hz2⟩ := info_parts infoItem
  obtain ⟨n, hn⟩ : ∃ n, n = l.length := ⟨_, rfl⟩
  rw [← hn] at h hl ⊢
  obtain ⟨BC, hBC⟩ : ∃ BC, BC = blkCells p nn bb (.slice a n c) := ⟨_, rfl⟩
  have hbf : ∀ W : World, W.heap[w.heap.size]? = some (.cells BC 40 (0, 0)) → W.rangeAt w.heap.size 0 (cellsL p) ∧ W.cell? ⟨w.heap.size, 32, none⟩ = some (.int .u64 nn) ∧ W.cell? ⟨w.heap.size, 33, none⟩ = some (.int .u64 bb) ∧ W.cell? ⟨w.heap.size, 34, none⟩ = some (.slice a n c) :=
    fun W hW => by rw [hBC] at hW; exact blk_facts hp hW
  rw [← hBC]
  have HBF := Lib.hid hbf
  have HN := Lib.hid hn
  have HP := Lib.hid hp
  have HNN := Lib.hid hnn
  have HBB := Lib.hid hbb
  have HW := Lib.hid hw
  have hk34 := (hbf _ (heap_alloc_new w (.cells BC 40))).2.2.2
  clear hn hBC hbf hp hnn hbb hw
  go_enter Try.func20, Try.ntmps20
  go_wp2
  go_loopw [5] (fun i wr => ∃ (k : Nat) (a1 : Option Addr) (c1 : Nat), k ≤ n ∧ i = .int .i64 k ∧ Hid (OwnList (fun F w cs x => ItemAt F w 1 cs x) (fun b => F b ∧ b < w.heap.size) (w.heap.size + 2) wr 65 3 (.slice a1 k c1) ((l.take k).map .text)) ∧
      Hid (Below w.heap.size w wr ∧ wr.heap[w.heap.size]? = some (.cells BC 40 (0, 0)) ∧ wr.heap[w.heap.size + 1]? = some (.cells #[.bool true, .slice none 0 0, .slice a1 k c1] 65 (0, 0)))) (fun i _ => n - (intOf i).toNat)
  case atStart =>
    refine ⟨0, none, 0, Nat.zero_le _, rfl, OwnList.nil, Bel.alloc (Bel.alloc (Bel.refl w) _) _, ?_, ?_⟩
    · exact (Below.heap_alloc _ _ _ (by simp)).trans (heap_alloc_new w _)
    · have := heap_alloc_new (w.alloc (.cells BC 40)) (.cells #[.bool true, .slice none 0 0, .slice none 0 0] 65)
      simpa using this
  case round =>
    obtain ⟨k, a1, c1, hk, rfl, HO, HB⟩ := hrel
    have hN := HN.out
    obtain ⟨q0, q1, q2⟩ := cells3 HB.out.2.2
    have fq := frozen_of_row wr (w.heap.size + 1) 2 _ _ HB.out.2.2
    obtain ⟨-, -, -, qt⟩ := HBF.out wr HB.out.2.1
    by_cases hlt : k < n
    · rcases SliceAt.split h with ⟨_, h0⟩ | ⟨b, o, rfl, -, -, -⟩
      · omega
      have hwr := RowsAt.below h HB.out.1
      obtain ⟨u, g1, t1⟩ := RowsAt.cell hwr k (by omega)
      obtain ⟨au, cu, rfl, -, -, -⟩ := SliceAt.len t1
      have htk : (l.take (k + 1)).map It.text = (l.take k).map It.text ++ [It.text (l[k]'(by omega))] := by
        rw [List.take_succ_eq_append_getElem (show k < l.length by omega), List.map_append]; rfl
      obtain ⟨x, hx⟩ : ∃ x, x = l[k]'(by omega) := ⟨_, rfl⟩
      rw [← hx] at t1 g1 htk
      have HT := Lib.hid htk
      obtain ⟨L, hL⟩ : ∃ L, L = (l.take k).map It.text := ⟨_, rfl⟩
      rw [← hL] at HO HT
      have hLl : L.length = k := by rw [hL]; simp; omega
      have HLL := Lib.hid hLl
      have hit : ItemAt (fun b => F b ∧ b < w.heap.size) wr 1 [.bool false, .slice au x.length cu, .slice none 0 0] (.text x) :=
        ⟨_, _, rfl, t1, SliceAt.nil _ _ _ _⟩
      have hsw := (Array.getElem?_eq_some_iff.1 HB.out.2.2).1
      have howr := (HO.out).own
      obtain ⟨R, hR1, hRo, hRs, hRn⟩ := (HO.out).push (carriedItem 1) hit rfl (by decide) (fun b' _ hb' => ⟨hb', fun e => by have := (howr b' e).1; omega⟩) 65
      have hle : (L.length + [It.text x].length) * 56 ≤ 140737488355328 := by rw [hLl]; simp; omega
      have hlen : L.length + [It.text x].length = k + 1 := by rw [hLl]; rfl
      have hbase : w.heap.size + 2 ≤ (wr.alloc (.cells [.bool false, .slice au x.length cu, .slice none 0 0].toArray 65)).drew.heap.size := by simp; omega
      have hX : ∀ w2 : World, (wr.alloc (.cells [.bool false, .slice au x.length cu, .slice none 0 0].toArray 65)).drew.grownBy w2 (Value.slice a1 k c1).ownBlock →
          Below w.heap.size w w2 ∧ w2.heap[w.heap.size]? = some (.cells BC 40 (0, 0)) ∧ w2.heap[w.heap.size + 1]? = some (.cells #[.bool true, .slice none 0 0, .slice a1 k c1] 65 (0, 0)) := by
        intro w2 hg
        have hsz2 := hg.size
        simp only [World.size_drew, World.size_alloc] at hsz2
        refine ⟨((Bel.alloc HB.out.1 _).drew).grown hg (by simp; omega) (fun k hk => by have := (howr k hk).1; omega), ?_, ?_⟩
        · rw [hg.block _ (by simp; omega) (fun e => by have := (howr _ e.symm).1; omega)]
          exact (Below.heap_alloc wr _ _ (by omega)).trans HB.out.2.1
        · rw [hg.block _ (by simp; omega) (fun e => by have := (howr _ e.symm).1; omega)]
          exact (Below.heap_alloc wr _ _ (by omega)).trans HB.out.2.2
      have HX := Lib.hid hX
      have hRn' : ∀ v' W2, OwnAt W2 (w.heap.size + 2) 65 3 R v' (L ++ [It.text x]) → (wr.alloc (.cells [.bool false, .slice au x.length cu, .slice none 0 0].toArray 65)).drew.grownBy W2 (Value.slice a1 k c1).ownBlock → Moved (wr.alloc (.cells [.bool false, .slice au x.length cu, .slice none 0 0].toArray 65)).drew (.slice a1 k c1) v' → OwnList (fun F w cs x => ItemAt F w 1 cs x) (fun b => F b ∧ b < w.heap.size) (w.heap.size + 2) W2 65 3 v' (L ++ [It.text x]) :=
        fun v' W2 ho hg hm => hRn v' W2 ho ⟨hg.os, hg.tape, hg.output, hg.size, hg.block⟩ hm
      have HRN := Lib.hid hRn'
      have HRO := Lib.hid hRo.drew'
      have HRS := Lib.hid (hRs.drew' (by decide))
      have HR1 := Lib.hid hR1
      have HLE := Lib.hid hlen
      clear hwr hx htk hL hLl hN hX hRn hRn' hRo hRs hR1 howr t1 hit hlen hk34
      go_wp2
      go_region_law (refine step_append_at rfl (.tmp 17) (.tmp 24) 63 rfl (w.heap.size + 2) 65 i0 (.agg #[.bool false, .slice none 0 0, .slice none 0 0]) 3 56 underlyingItems hi hz0 hz1 hz2 rfl (by decide) (by decide) HR1.out (.slice a1 k c1) L (by simp [Act.eval]) HRO.out (.slice (some ⟨wr.heap.size, 0, none⟩) 1 1) [It.text x] (fun _ => True) (by simp [Act.eval]) HRS.out Nat.one_pos hle hbase (k + 1) HLE.out ?_; intro g cap w2 ho hg hm; have hx2 := (HX.out _ hg).2.2; obtain ⟨r0, r1, r2⟩ := cells3 hx2; have fr := frozen_of_row w2 (w.heap.size + 1) 2 _ _ hx2)
      all_goals
        have hOn := HRN.out _ _ ho hg hm
        have hXX := HX.out _ hg
        have hown := hOn.own
        have hOs : Hid (OwnList (fun F w cs x => ItemAt F w 1 cs x) (fun b => F b ∧ b < w.heap.size) (w.heap.size + 2) (w2.setCell ⟨w.heap.size + 1, 2, none⟩ (.slice (some ⟨g, 0, none⟩) (k + 1) cap)) 65 3 (.slice (some ⟨g, 0, none⟩) (k + 1) cap) ((l.take (k + 1)).map .text)) := by
          rw [HT.out]
          exact hOn.carry (carriedItem 1) (by simp) (fun b' hb' _ => Below.heap_setCell _ _ _ _ (by have := hb'.2; show b' ≠ w.heap.size + 1; omega)) (fun g' hg' => Below.heap_setCell _ _ _ _ (by have := (hown g' hg').1; show g' ≠ w.heap.size + 1; omega))
        have hBs : Hid (Below w.heap.size w (w2.setCell ⟨w.heap.size + 1, 2, none⟩ (.slice (some ⟨g, 0, none⟩) (k + 1) cap)) ∧ (w2.setCell ⟨w.heap.size + 1, 2, none⟩ (.slice (some ⟨g, 0, none⟩) (k + 1) cap)).heap[w.heap.size]? = some (.cells BC 40 (0, 0)) ∧
            (w2.setCell ⟨w.heap.size + 1, 2, none⟩ (.slice (some ⟨g, 0, none⟩) (k + 1) cap)).heap[w.heap.size + 1]? = some (.cells #[.bool true, .slice none 0 0, .slice (some ⟨g, 0, none⟩) (k + 1) cap] 65 (0, 0))) :=
          ⟨hXX.1.setCell (by show w.heap.size ≤ w.heap.size + 1; omega) _, by rw [Below.heap_setCell _ _ _ _ (by show w.heap.size ≠ w.heap.size + 1; omega)]; exact hXX.2.1, blk_setCell hXX.2.2⟩
        clear hOn hXX hown ho hg hm hx2 r0 r1 r2 fr
        go_wp2
        go_roundw
        case rel => exact ⟨k + 1, _, _, by omega, num_eq (by omega), hOs, hBs⟩
        case measure => simp [intOf]; omega
    · obtain rfl : k = n := by omega
      have hO := HO.out
      rw [List.take_of_length_le (by omega)] at hO
      have hits := hO.at (carriedItem 1) (G' := fun b => F b ∧ b < w.heap.size ∨ w.heap.size + 2 ≤ b) (fun _ h _ => .inl h) (fun b h _ => .inr h) (by decide)
      obtain ⟨r0, q32, q33, -⟩ := HBF.out wr HB.out.2.1
      have hsw := (Array.getElem?_eq_some_iff.1 HB.out.2.1).1
      have hsw1 := (Array.getElem?_eq_some_iff.1 HB.out.2.2).1
      have hkeep : ∀ W : World, Below wr.heap.size wr W → W.rangeAt w.heap.size 0 (cellsL p) ∧ W.cell? ⟨w.heap.size, 32, none⟩ = some (.int .u64 nn) ∧ W.cell? ⟨w.heap.size, 33, none⟩ = some (.int .u64 bb) ∧ W.cell? ⟨w.heap.size + 1, 0, none⟩ = some (.bool true) ∧ W.cell? ⟨w.heap.size + 1, 1, none⟩ = some (.slice none 0 0) ∧ W.cell? ⟨w.heap.size + 1, 2, none⟩ = some (.slice a1 k c1) := fun W hW => by
        obtain ⟨g1, g2, g3, -⟩ := HBF.out W ((hW.block _ hsw).trans HB.out.2.1)
        obtain ⟨g4, g5, g6⟩ := cells3 ((hW.block _ hsw1).trans HB.out.2.2)
        exact ⟨g1, g2, g3, g4, g5, g6⟩
      have hc32 : (cellsL p).length = 32 := by rw [cellsL_length]; exact HP.out
      have hinfoD : (Try.prog.info? 37).map (·.size) = some (cellsL p).length := by rw [hc32]; exact infoDig
      have HKP := Lib.hid hkeep
      have HIT := Lib.hid hits
      clear hO hits hkeep hN hk34 fq q0 q1 q2 r0 q32 q33 hc32 hinfoD
      go_wp2_with fail
      have HUD := underlyingDig
      have hc32 : (cellsL p).length = 32 := by rw [cellsL_length]; exact HP.out
      have hinfoD : (Try.prog.info? 37).map (·.size) = some (cellsL p).length := by rw [hc32]; exact infoDig
      clear hc32
      go_region_held3 (fun w' => w'.rangeAt w.heap.size 0 (cellsL p) ∧ w'.cell? ⟨w.heap.size, 32, none⟩ = some (.int .u64 nn) ∧ w'.cell? ⟨w.heap.size, 33, none⟩ = some (.int .u64 bb) ∧ w'.cell? ⟨w.heap.size + 1, 0, none⟩ = some (.bool true) ∧ w'.cell? ⟨w.heap.size + 1, 1, none⟩ = some (.slice none 0 0) ∧ w'.cell? ⟨w.heap.size + 1, 2, none⟩ = some (.slice a1 k c1)) (first | exact HKP.out _ (Bel.drew (Bel.refl wr)) | exact HKP.out _ (by assumption) | exact HKP.out _ (Bel.alloc (by assumption) _))
        (first
          | (go_at_call 53; refine (rname_any p _ HP.out).mono ?_; rintro e w3 ⟨v3, rfl, hit3, hb3⟩; have hB3 : Below wr.heap.size wr w3 := Bel.call (Bel.drew (Bel.refl wr)) hb3; obtain ⟨-, x1, y1, z1, x2, y2, z2, rfl, -, -, -⟩ := ItemAt.form hit3)
          | (go_at_call_of 54 (Value.int .u64 (nn : Int)); refine (rwordI_any nn _ HNN.out).mono ?_; rintro e w4 ⟨v4, rfl, hit4, hb4⟩; have hB4 : Below wr.heap.size wr w4 := Bel.call hB3 hb4; obtain ⟨-, x3, y3, z3, x4, y4, z4, rfl, -, -, -⟩ := ItemAt.form hit4)
          | (go_at_call_of 54 (Value.int .u64 (bb : Int)); refine (rwordI_any bb _ HBB.out).mono ?_; rintro e w5 ⟨v5, rfl, hit5, hb5⟩; have hB5 : Below wr.heap.size wr w5 := Bel.call hB4 hb5; obtain ⟨-, x5, y5, z5, x6, y6, z6, rfl, -, -, -⟩ := ItemAt.form hit5)
          | (go_at_call 45; refine (rencode_any (fun b => ((F b ∧ b < w.heap.size ∨ w.heap.size + 2 ≤ b) ∧ b < wr.heap.size) ∨ wr.heap.size ≤ b) _ 3 (blkI p nn bb l) true _ _ ⟨_, _, rfl, SliceAt.nil _ _ _ _, rblkItems hb4 hb5 hB3 hB4 hB5 hit3 hit4 hit5 HIT.out _⟩ HW.out).mono ?_; rintro e w8 ⟨v8, rfl, ho8, hb8⟩; have hB8 : Below wr.heap.size wr w8 := Bel.call (Bel.alloc hB5 _) hb8))
      have HB8 := Lib.hid (HB.out.1.trans (hB8.mono HB.out.1.size))
      obtain ⟨E, hE⟩ : ∃ E, E = (blkI p nn bb l).encode := ⟨_, rfl⟩
      rw [← hE] at ho8 ⊢
      have HE := Lib.hid hE
      have ho9 := ho8.lower (base' := w.heap.size) (by simp; have := HB.out.1.size; have := hB5.size; omega)
      clear hE hB3 hB4 hB5 hB8 hb3 hb4 hb5 hb8 hit3 hit4 hit5 ho8
      by_cases he : E.2 = 0
      · have he2 : (((E.2 : Nat) : Int) != 0) = false := by simp; omega
        go_wp2
        go_ret2
        exact ⟨v8, by unfold blkEncode; rw [← HE.out, if_pos he]; rfl, by unfold blkEncode; rw [← HE.out, if_pos he]; exact ho9, HB8.out⟩
      · have he2 : (((E.2 : Nat) : Int) != 0) = true := by simp; omega
        go_wp2
        go_ret2
        exact ⟨.slice none 0 0, by unfold blkEncode; rw [← HE.out, if_neg he]; rfl, by unfold blkEncode; rw [← HE.out, if_neg he]; exact OwnAt.nil _ _ _ _ _, HB8.out⟩
end Go.Proofs.Ytndkkgkcbbmnpaa
namespace Go.Pg
open Go.RowKit
/-- a header -/
structure Hdr where
  p : List UInt8
  nn : Nat
  bb : Nat
  gg : Nat
  tx : List UInt8
  st : List UInt8
  rc : List UInt8
structure Hdr.ok (h : Hdr) : Prop where
  p : h.p.length = 32
  tx : h.tx.length = 32
  st : h.st.length = 32
  rc : h.rc.length = 32
  nn : (h.nn : Int) < 18446744073709551616
  bb : (h.bb : Int) < 18446744073709551616
  gg : (h.gg : Int) < 18446744073709551616
/-- a header as an item, and its bytes -/
def hdrI (h : Hdr) : It := .list [.text h.p, .text (wordB h.nn), .text (wordB h.bb), .text (wordB h.gg), .text h.tx, .text h.st, .text h.rc]
def hdrBytes (h : Hdr) : List UInt8 := (hdrI h).encode.1
def hdrCells (h : Hdr) : Array Value := (cellsL h.p ++ [Value.int .u64 (h.nn : Int), Value.int .u64 (h.bb : Int), Value.int .u64 (h.gg : Int)] ++ cellsL h.tx ++ cellsL h.st ++ cellsL h.rc).toArray
theorem hdr_facts {w : World} {g : Nat} {t : TypeId} {h : Hdr} (ho : h.ok) (hw : w.heap[g]? = some (.cells (hdrCells h) t (0, 0))) :
    w.rangeAt g 0 (cellsL h.p) ∧ w.cell? ⟨g, 32, none⟩ = some (.int .u64 h.nn) ∧ w.cell? ⟨g, 33, none⟩ = some (.int .u64 h.bb) ∧ w.cell? ⟨g, 34, none⟩ = some (.int .u64 h.gg) ∧ w.rangeAt g 35 (cellsL h.tx) ∧ w.rangeAt g 67 (cellsL h.st) ∧ w.rangeAt g 99 (cellsL h.rc) := by
  have l0 : (cellsL h.p).length = 32 := by rw [cellsL_length, ho.p]
  have l1 : (cellsL h.tx).length = 32 := by rw [cellsL_length, ho.tx]
  have l2 : (cellsL h.st).length = 32 := by rw [cellsL_length, ho.st]
  have l3 : (cellsL h.rc).length = 32 := by rw [cellsL_length, ho.rc]
  unfold hdrCells at hw
  refine ⟨?_, ?_, ?_, ?_, ?_, ?_, ?_⟩
  · exact range_at [] (cellsL h.p) ([Value.int .u64 (h.nn : Int), Value.int .u64 (h.bb : Int), Value.int .u64 (h.gg : Int)] ++ cellsL h.tx ++ cellsL h.st ++ cellsL h.rc) (by simpa using hw)
  · have := cell_at (cellsL h.p) (.int .u64 (h.nn : Int)) ([.int .u64 (h.bb : Int), .int .u64 (h.gg : Int)] ++ cellsL h.tx ++ cellsL h.st ++ cellsL h.rc) (by simpa using hw)
    simpa [l0] using this
  · have := cell_at (cellsL h.p ++ [.int .u64 (h.nn : Int)]) (.int .u64 (h.bb : Int)) ([.int .u64 (h.gg : Int)] ++ cellsL h.tx ++ cellsL h.st ++ cellsL h.rc) (by simpa using hw)
    simpa [l0] using this
  · have := cell_at (cellsL h.p ++ [.int .u64 (h.nn : Int), .int .u64 (h.bb : Int)]) (.int .u64 (h.gg : Int)) (cellsL h.tx ++ cellsL h.st ++ cellsL h.rc) (by simpa using hw)
    simpa [l0] using this
  · have := range_at (cellsL h.p ++ [.int .u64 (h.nn : Int), .int .u64 (h.bb : Int), .int .u64 (h.gg : Int)]) (cellsL h.tx) (cellsL h.st ++ cellsL h.rc) (by simpa using hw)
    simpa [l0] using this
  · have := range_at (cellsL h.p ++ [.int .u64 (h.nn : Int), .int .u64 (h.bb : Int), .int .u64 (h.gg : Int)] ++ cellsL h.tx) (cellsL h.st) (cellsL h.rc) (by simpa using hw)
    simpa [l0, l1] using this
  · have := range_at (cellsL h.p ++ [.int .u64 (h.nn : Int), .int .u64 (h.bb : Int), .int .u64 (h.gg : Int)] ++ cellsL h.tx ++ cellsL h.st) (cellsL h.rc) [] (by simpa using hw)
    simpa [l0, l1, l2] using this
end Go.Pg
namespace Go.Proofs.Ytndkkgkcbbmnpaa
open Go.RowKit Go.Pg

theorem septI {F : Nat → Prop} {w : World} {p0 p1 p2 p3 p4 p5 p6 : Value} {x0 x1 x2 x3 x4 x5 x6 : It} (h0 : ItemAt F w 2 [.bool false, p0, .slice none 0 0] x0) (h1 : ItemAt F w 2 [.bool false, p1, .slice none 0 0] x1) (h2 : ItemAt F w 2 [.bool false, p2, .slice none 0 0] x2) (h3 : ItemAt F w 2 [.bool false, p3, .slice none 0 0] x3) (h4 : ItemAt F w 2 [.bool false, p4, .slice none 0 0] x4) (h5 : ItemAt F w 2 [.bool false, p5, .slice none 0 0] x5) (h6 : ItemAt F w 2 [.bool false, p6, .slice none 0 0] x6) (hF : F w.heap.size) (t : TypeId) :
    ItemsAt F (w.alloc (.cells #[.bool false, p0, .slice none 0 0, .bool false, p1, .slice none 0 0, .bool false, p2, .slice none 0 0, .bool false, p3, .slice none 0 0, .bool false, p4, .slice none 0 0, .bool false, p5, .slice none 0 0, .bool false, p6, .slice none 0 0] t)) 2 (.slice (some ⟨w.heap.size, 0, none⟩) 7 7) [x0, x1, x2, x3, x4, x5, x6] :=
  rows_alloc (l := [x0, x1, x2, x3, x4, x5, x6]) (carriedItem 2) (((((((Rows.one h0 rfl).append (Rows.one h1 rfl)).append (Rows.one h2 rfl)).append (Rows.one h3 rfl)).append (Rows.one h4 rfl)).append (Rows.one h5 rfl)).append (Rows.one h6 rfl)) (show 7 ≤ maxLen by decide) (fun _ _ x => x) hF t
theorem itUp {W0 W W1 W2 : World} {cs : List Value} {x : It} (h0 : W0.heap.size ≤ W.heap.size) (hc : Below W1.heap.size W1 W2) (h : ItemAt (fresh W) W1 1 cs x) : ItemAt (fun b => W0.heap.size ≤ b) W2 2 cs x :=
  ItemAt.deeper 1 2 _ _ (by omega) (ItemAt.carry (fun b _ h => by have : W.heap.size ≤ b := h; omega) (fun b _ hlt => hc.block b hlt) 1 _ _ h)

/-- a header's bytes are told -/
def HBytes (w : World) (bs : List UInt8) (e : Ending) (w' : World) : Prop := ∃ v', e = .returned v' ∧ OwnAt w' w.heap.size 5 1 byteR v' bs ∧ Below w.heap.size w w'
theorem op_at {l : List Oper} {i : Nat} {o : Oper} (h : l[i]? = some o) : l.toArray[i]? = some o := by simpa using h

set_option maxRecDepth 100000 in
set_option maxHeartbeats 8000000 in
theorem encHdr_any (w : World) (h : Hdr) (ho : h.ok) (hw : (hdrI h).whole ≤ 140737488351232) : Calls Try.prog 27 #[.agg (hdrCells h)] w (HBytes w (hdrBytes h)) := by
  obtain ⟨BC, hBC⟩ : ∃ BC, BC = hdrCells h := ⟨_, rfl⟩
  obtain ⟨I, hI⟩ : ∃ I, I = hdrI h := ⟨_, rfl⟩
  have hbf : ∀ W : World, W.heap[w.heap.size]? = some (.cells BC 47 (0, 0)) → _ := fun W hW => hdr_facts (w := W) (g := w.heap.size) (t := 47) ho (by rw [hBC] at hW; exact hW)
  have hres : hdrBytes h = I.encode.1 := by rw [hI]; rfl
  rw [hres, ← hBC]
  obtain ⟨p, nn, bb, gg, tx, st, rc⟩ := h
  obtain ⟨o1, o2, o3, o4, o5, o6, o7⟩ := ho
  simp only at hbf o1 o2 o3 o4 o5 o6 o7
  have hI2 : I = .list [.text p, .text (wordB nn), .text (wordB bb), .text (wordB gg), .text tx, .text st, .text rc] := hI
  rw [← hI] at hw
  obtain ⟨W0, hW0⟩ : ∃ W, W = w.alloc (.cells BC 47) := ⟨_, rfl⟩
  have hb0 : Below w.heap.size w W0 := by rw [hW0]; exact Bel.alloc (Bel.refl w) _
  have hk0 : W0.heap[w.heap.size]? = some (.cells BC 47 (0, 0)) := by rw [hW0]; exact heap_alloc_new w _
  have hsw := (Array.getElem?_eq_some_iff.1 hk0).1
  obtain ⟨S, hS⟩ : ∃ S : World → Prop, S = fun w' => w'.rangeAt w.heap.size 0 (cellsL p) ∧ w'.cell? ⟨w.heap.size, 32, none⟩ = some (.int .u64 nn) ∧ w'.cell? ⟨w.heap.size, 33, none⟩ = some (.int .u64 bb) ∧ w'.cell? ⟨w.heap.size, 34, none⟩ = some (.int .u64 gg) ∧ w'.rangeAt w.heap.size 35 (cellsL tx) ∧ w'.rangeAt w.heap.size 67 (cellsL st) ∧ w'.rangeAt w.heap.size 99 (cellsL rc) := ⟨_, rfl⟩
  have hkeep : ∀ W : World, Below W0.heap.size W0 W → S W := fun W hW => by rw [hS]; exact hbf W ((hW.block _ hsw).trans hk0)
  have hget : ∀ W : World, S W → W.rangeAt w.heap.size 0 (cellsL p) ∧ W.cell? ⟨w.heap.size, 32, none⟩ = some (.int .u64 nn) ∧ W.cell? ⟨w.heap.size, 33, none⟩ = some (.int .u64 bb) ∧ W.cell? ⟨w.heap.size, 34, none⟩ = some (.int .u64 gg) ∧ W.rangeAt w.heap.size 35 (cellsL tx) ∧ W.rangeAt w.heap.size 67 (cellsL st) ∧ W.rangeAt w.heap.size 99 (cellsL rc) := fun W hW => by rw [hS] at hW; exact hW
  have HKP := Lib.hid hkeep
  have HS := Lib.hid hget
  have HW0 := Lib.hid hW0
  have HB0 := Lib.hid hb0
  have HI := Lib.hid hI2
  have HW := Lib.hid hw
  have O1 := Lib.hid o1
  have O2 := Lib.hid o2
  have O3 := Lib.hid o3
  have O4 := Lib.hid o4
  have O5 := Lib.hid o5
  have O6 := Lib.hid o6
  have O7 := Lib.hid o7
  clear hBC hI hbf hres hI2 hw hW0 hb0 hk0 hkeep hget hS o1 o2 o3 o4 o5 o6 o7
  go_enter Try.func27, Try.ntmps27
  go_wp2_with fail
  rw [← HW0.out]
  have HUD := underlyingDig
  have e0 : (Try.prog.info? 37).map (·.size) = some (cellsL p).length := by rw [cellsL_length, O1.out]; exact infoDig
  have e4 : (Try.prog.info? 37).map (·.size) = some (cellsL tx).length := by rw [cellsL_length, O2.out]; exact infoDig
  have e5 : (Try.prog.info? 37).map (·.size) = some (cellsL st).length := by rw [cellsL_length, O3.out]; exact infoDig
  have e6 : (Try.prog.info? 37).map (·.size) = some (cellsL rc).length := by rw [cellsL_length, O4.out]; exact infoDig
  refine wp_region_held_drew (S := S) (by kernel_rfl) (HKP.out _ (Bel.drew (Bel.refl W0))) (fun hHeld => ?_)
  refine wpAnyH_take (i := 0) (op_at rfl) (by kernel_rfl) (by kernel_rfl) (by kernel_rfl) (fun _ _ _ h => h) (Or.inl ⟨by rfl, by intro w hSw; go_simp; (try with_reducible rfl)⟩) hHeld ?_
  simp only [Act.put, List.setIfInBounds_toArray, List.set_cons_zero, List.set_cons_succ]
  refine wpAnyH_take (i := 1) (op_at rfl) (by kernel_rfl) (by kernel_rfl) (by kernel_rfl) (fun _ _ _ h => h) (yieldsIf_load_mid (by rfl) _ _ rfl _ _ rfl _ _ (fun W hW => (HS.out W hW).1) HUD rfl e0) hHeld ?_
  simp only [Act.put, List.setIfInBounds_toArray, List.set_cons_zero, List.set_cons_succ]
  refine wpAnyH_take (i := 3) (op_at rfl) (by kernel_rfl) (by kernel_rfl) (by kernel_rfl) (fun _ _ _ h => h) (Or.inl ⟨by rfl, by intro w hSw; go_simp; (try with_reducible rfl)⟩) hHeld ?_
  simp only [Act.put, List.setIfInBounds_toArray, List.set_cons_zero, List.set_cons_succ]
  refine wpAnyH_take (i := 4) (op_at rfl) (by kernel_rfl) (by kernel_rfl) (by kernel_rfl) (fun _ _ _ h => h) (Or.inl ⟨by rfl, by intro W hSw; have hc := (HS.out W hSw).2.1; go_simp; (try with_reducible rfl)⟩) hHeld ?_
  simp only [Act.put, List.setIfInBounds_toArray, List.set_cons_zero, List.set_cons_succ]
  refine wpAnyH_take (i := 6) (op_at rfl) (by kernel_rfl) (by kernel_rfl) (by kernel_rfl) (fun _ _ _ h => h) (Or.inl ⟨by rfl, by intro w hSw; go_simp; (try with_reducible rfl)⟩) hHeld ?_
  simp only [Act.put, List.setIfInBounds_toArray, List.set_cons_zero, List.set_cons_succ]
  refine wpAnyH_take (i := 7) (op_at rfl) (by kernel_rfl) (by kernel_rfl) (by kernel_rfl) (fun _ _ _ h => h) (Or.inl ⟨by rfl, by intro W hSw; have hc := (HS.out W hSw).2.2.1; go_simp; (try with_reducible rfl)⟩) hHeld ?_
  simp only [Act.put, List.setIfInBounds_toArray, List.set_cons_zero, List.set_cons_succ]
  refine wpAnyH_take (i := 9) (op_at rfl) (by kernel_rfl) (by kernel_rfl) (by kernel_rfl) (fun _ _ _ h => h) (Or.inl ⟨by rfl, by intro w hSw; go_simp; (try with_reducible rfl)⟩) hHeld ?_
  simp only [Act.put, List.setIfInBounds_toArray, List.set_cons_zero, List.set_cons_succ]
  refine wpAnyH_take (i := 10) (op_at rfl) (by kernel_rfl) (by kernel_rfl) (by kernel_rfl) (fun _ _ _ h => h) (Or.inl ⟨by rfl, by intro W hSw; have hc := (HS.out W hSw).2.2.2.1; go_simp; (try with_reducible rfl)⟩) hHeld ?_
  simp only [Act.put, List.setIfInBounds_toArray, List.set_cons_zero, List.set_cons_succ]
  refine wpAnyH_take (i := 12) (op_at rfl) (by kernel_rfl) (by kernel_rfl) (by kernel_rfl) (fun _ _ _ h => h) (Or.inl ⟨by rfl, by intro w hSw; go_simp; (try with_reducible rfl)⟩) hHeld ?_
  simp only [Act.put, List.setIfInBounds_toArray, List.set_cons_zero, List.set_cons_succ]
  refine wpAnyH_take (i := 13) (op_at rfl) (by kernel_rfl) (by kernel_rfl) (by kernel_rfl) (fun _ _ _ h => h) (yieldsIf_load_mid (by rfl) _ _ rfl _ _ rfl _ _ (fun W hW => (HS.out W hW).2.2.2.2.1) HUD rfl e4) hHeld ?_
  simp only [Act.put, List.setIfInBounds_toArray, List.set_cons_zero, List.set_cons_succ]
  refine wpAnyH_take (i := 15) (op_at rfl) (by kernel_rfl) (by kernel_rfl) (by kernel_rfl) (fun _ _ _ h => h) (Or.inl ⟨by rfl, by intro w hSw; go_simp; (try with_reducible rfl)⟩) hHeld ?_
  simp only [Act.put, List.setIfInBounds_toArray, List.set_cons_zero, List.set_cons_succ]
  refine wpAnyH_take (i := 16) (op_at rfl) (by kernel_rfl) (by kernel_rfl) (by kernel_rfl) (fun _ _ _ h => h) (yieldsIf_load_mid (by rfl) _ _ rfl _ _ rfl _ _ (fun W hW => (HS.out W hW).2.2.2.2.2.1) HUD rfl e5) hHeld ?_
  simp only [Act.put, List.setIfInBounds_toArray, List.set_cons_zero, List.set_cons_succ]
  refine wpAnyH_take (i := 18) (op_at rfl) (by kernel_rfl) (by kernel_rfl) (by kernel_rfl) (fun _ _ _ h => h) (Or.inl ⟨by rfl, by intro w hSw; go_simp; (try with_reducible rfl)⟩) hHeld ?_
  simp only [Act.put, List.setIfInBounds_toArray, List.set_cons_zero, List.set_cons_succ]
  refine wpAnyH_take (i := 19) (op_at rfl) (by kernel_rfl) (by kernel_rfl) (by kernel_rfl) (fun _ _ _ h => h) (yieldsIf_load_mid (by rfl) _ _ rfl _ _ rfl _ _ (fun W hW => (HS.out W hW).2.2.2.2.2.2) HUD rfl e6) hHeld ?_
  simp only [Act.put, List.setIfInBounds_toArray, List.set_cons_zero, List.set_cons_succ]
  refine wpAnyH_ready (rs := [2]) (by kernel_rfl) (by simp) (AllReadyH.cons (op_at rfl) (fun K hK => ?_) AllReadyH.nil)
  clear hHeld
  go_simp
  go_at_call_of 51 (Value.agg (cellsL p).toArray)
  refine (bname_any p _ O1.out).mono ?_
  rintro e W1 ⟨v1, rfl, it1, hb1⟩
  have hB1 : Below W0.heap.size W0 W1 := Bel.call (Bel.drew (Bel.refl W0)) hb1
  obtain ⟨-, a1, n1, c1, a1', n1', c1', rfl, -, -, -⟩ := ItemAt.form it1
  go_wp2_with fail
  refine hK.out _ _ (HKP.out _ (hB1)) (fun hHeld => ?_)
  clear hK K
  try simp only [Act.put, List.setIfInBounds_toArray, List.set_cons_zero, List.set_cons_succ]
  refine wpAnyH_ready (rs := [5]) (by kernel_rfl) (by simp) (AllReadyH.cons (op_at rfl) (fun K hK => ?_) AllReadyH.nil)
  clear hHeld
  go_simp
  go_at_call_of 52 (Value.int .u64 (nn : Int))
  refine (bword_any nn _ O5.out).mono ?_
  rintro e W2 ⟨v2, rfl, it2, hb2⟩
  have hB2 : Below W0.heap.size W0 W2 := Bel.call hB1 hb2
  have c1_2 : Below W1.heap.size W1 W2 := Bel.call (Bel.refl W1) hb2
  obtain ⟨-, a2, n2, c2, a2', n2', c2', rfl, -, -, -⟩ := ItemAt.form it2
  go_wp2_with fail
  refine hK.out _ _ (HKP.out _ (hB2)) (fun hHeld => ?_)
  clear hK K
  try simp only [Act.put, List.setIfInBounds_toArray, List.set_cons_zero, List.set_cons_succ]
  refine wpAnyH_ready (rs := [8]) (by kernel_rfl) (by simp) (AllReadyH.cons (op_at rfl) (fun K hK => ?_) AllReadyH.nil)
  clear hHeld
  go_simp
  go_at_call_of 52 (Value.int .u64 (bb : Int))
  refine (bword_any bb _ O6.out).mono ?_
  rintro e W3 ⟨v3, rfl, it3, hb3⟩
  have hB3 : Below W0.heap.size W0 W3 := Bel.call hB2 hb3
  have c1_3 : Below W1.heap.size W1 W3 := Bel.call c1_2 hb3
  have c2_3 : Below W2.heap.size W2 W3 := Bel.call (Bel.refl W2) hb3
  obtain ⟨-, a3, n3, c3, a3', n3', c3', rfl, -, -, -⟩ := ItemAt.form it3
  go_wp2_with fail
  refine hK.out _ _ (HKP.out _ (hB3)) (fun hHeld => ?_)
  clear hK K
  try simp only [Act.put, List.setIfInBounds_toArray, List.set_cons_zero, List.set_cons_succ]
  refine wpAnyH_ready (rs := [11]) (by kernel_rfl) (by simp) (AllReadyH.cons (op_at rfl) (fun K hK => ?_) AllReadyH.nil)
  clear hHeld
  go_simp
  go_at_call_of 52 (Value.int .u64 (gg : Int))
  refine (bword_any gg _ O7.out).mono ?_
  rintro e W4 ⟨v4, rfl, it4, hb4⟩
  have hB4 : Below W0.heap.size W0 W4 := Bel.call hB3 hb4
  have c1_4 : Below W1.heap.size W1 W4 := Bel.call c1_3 hb4
  have c2_4 : Below W2.heap.size W2 W4 := Bel.call c2_3 hb4
  have c3_4 : Below W3.heap.size W3 W4 := Bel.call (Bel.refl W3) hb4
  obtain ⟨-, a4, n4, c4, a4', n4', c4', rfl, -, -, -⟩ := ItemAt.form it4
  go_wp2_with fail
  refine hK.out _ _ (HKP.out _ (hB4)) (fun hHeld => ?_)
  clear hK K
  try simp only [Act.put, List.setIfInBounds_toArray, List.set_cons_zero, List.set_cons_succ]
  refine wpAnyH_ready (rs := [14]) (by kernel_rfl) (by simp) (AllReadyH.cons (op_at rfl) (fun K hK => ?_) AllReadyH.nil)
  clear hHeld
  go_simp
  go_at_call_of 51 (Value.agg (cellsL tx).toArray)
  refine (bname_any tx _ O2.out).mono ?_
  rintro e W5 ⟨v5, rfl, it5, hb5⟩
  have hB5 : Below W0.heap.size W0 W5 := Bel.call hB4 hb5
  have c1_5 : Below W1.heap.size W1 W5 := Bel.call c1_4 hb5
  have c2_5 : Below W2.heap.size W2 W5 := Bel.call c2_4 hb5
  have c3_5 : Below W3.heap.size W3 W5 := Bel.call c3_4 hb5
  have c4_5 : Below W4.heap.size W4 W5 := Bel.call (Bel.refl W4) hb5
  obtain ⟨-, a5, n5, c5, a5', n5', c5', rfl, -, -, -⟩ := ItemAt.form it5
  go_wp2_with fail
  refine hK.out _ _ (HKP.out _ (hB5)) (fun hHeld => ?_)
  clear hK K
  try simp only [Act.put, List.setIfInBounds_toArray, List.set_cons_zero, List.set_cons_succ]
  refine wpAnyH_ready (rs := [17]) (by kernel_rfl) (by simp) (AllReadyH.cons (op_at rfl) (fun K hK => ?_) AllReadyH.nil)
  clear hHeld
  go_simp
  go_at_call_of 51 (Value.agg (cellsL st).toArray)
  refine (bname_any st _ O3.out).mono ?_
  rintro e W6 ⟨v6, rfl, it6, hb6⟩
  have hB6 : Below W0.heap.size W0 W6 := Bel.call hB5 hb6
  have c1_6 : Below W1.heap.size W1 W6 := Bel.call c1_5 hb6
  have c2_6 : Below W2.heap.size W2 W6 := Bel.call c2_5 hb6
  have c3_6 : Below W3.heap.size W3 W6 := Bel.call c3_5 hb6
  have c4_6 : Below W4.heap.size W4 W6 := Bel.call c4_5 hb6
  have c5_6 : Below W5.heap.size W5 W6 := Bel.call (Bel.refl W5) hb6
  obtain ⟨-, a6, n6, c6, a6', n6', c6', rfl, -, -, -⟩ := ItemAt.form it6
  go_wp2_with fail
  refine hK.out _ _ (HKP.out _ (hB6)) (fun hHeld => ?_)
  clear hK K
  try simp only [Act.put, List.setIfInBounds_toArray, List.set_cons_zero, List.set_cons_succ]
  refine wpAnyH_ready (rs := [20]) (by kernel_rfl) (by simp) (AllReadyH.cons (op_at rfl) (fun K hK => ?_) AllReadyH.nil)
  clear hHeld
  go_simp
  go_at_call_of 51 (Value.agg (cellsL rc).toArray)
  refine (bname_any rc _ O4.out).mono ?_
  rintro e W7 ⟨v7, rfl, it7, hb7⟩
  have hB7 : Below W0.heap.size W0 W7 := Bel.call hB6 hb7
  have c1_7 : Below W1.heap.size W1 W7 := Bel.call c1_6 hb7
  have c2_7 : Below W2.heap.size W2 W7 := Bel.call c2_6 hb7
  have c3_7 : Below W3.heap.size W3 W7 := Bel.call c3_6 hb7
  have c4_7 : Below W4.heap.size W4 W7 := Bel.call c4_6 hb7
  have c5_7 : Below W5.heap.size W5 W7 := Bel.call c5_6 hb7
  have c6_7 : Below W6.heap.size W6 W7 := Bel.call (Bel.refl W6) hb7
  obtain ⟨-, a7, n7, c7, a7', n7', c7', rfl, -, -, -⟩ := ItemAt.form it7
  go_wp2_with fail
  refine hK.out _ _ (HKP.out _ (hB7)) (fun hHeld => ?_)
  clear hK K
  try simp only [Act.put, List.setIfInBounds_toArray, List.set_cons_zero, List.set_cons_succ]
  refine wpAnyH_ready (rs := [21]) (by kernel_rfl) (by simp) (AllReadyH.cons (op_at rfl) (fun K hK => ?_) AllReadyH.nil)
  clear hHeld
  go_simp
  go_wp2_with fail
  refine hK.out _ _ (HKP.out _ (Bel.alloc hB7 _)) (fun hHeld => ?_)
  clear hK K
  try simp only [Act.put, List.setIfInBounds_toArray, List.set_cons_zero, List.set_cons_succ]
  refine wpAnyH_ready (rs := [22]) (by kernel_rfl) (by simp) (AllReadyH.cons (op_at rfl) (fun K hK => ?_) AllReadyH.nil)
  clear hHeld
  go_simp
  go_at_call 42
  refine (list_any (fun b => W0.heap.size ≤ b) _ _ 2 [.text p, .text (wordB nn), .text (wordB bb), .text (wordB gg), .text tx, .text st, .text rc] (septI (itUp (Nat.le_refl _) c1_7 it1) (itUp hB1.size c2_7 it2) (itUp hB2.size c3_7 it3) (itUp hB3.size c4_7 it4) (itUp hB4.size c5_7 it5) (itUp hB5.size c6_7 it6) (itUp hB6.size (Bel.refl W7) it7) hB7.size _) (show 7 ≤ 1099511627776 by omega)).mono ?_
  rintro e W8 ⟨v8, rfl, it8, hb8⟩
  have hB8 : Below W0.heap.size W0 W8 := Bel.call (Bel.alloc hB7 _) hb8
  obtain ⟨-, a8, n8, c8, a8', n8', c8', -, rfl, -, -⟩ := ItemAt.form it8
  go_wp2_with fail
  refine hK.out _ _ (HKP.out _ (hB8)) (fun hHeld => ?_)
  clear hK K
  try simp only [Act.put, List.setIfInBounds_toArray, List.set_cons_zero, List.set_cons_succ]
  refine wpAnyH_ready (rs := [23]) (by kernel_rfl) (by simp) (AllReadyH.cons (op_at rfl) (fun K hK => ?_) AllReadyH.nil)
  clear hHeld
  go_simp
  go_at_call 41
  refine (encode_any _ W8 3 I _ _ _ (by rw [HI.out]; exact it8) HW.out).mono ?_
  rintro e W9 ⟨v9, rfl, ho9, hb9⟩
  have hB9 : Below W0.heap.size W0 W9 := Bel.call hB8 hb9
  have ho := ho9.lower (Nat.le_trans HB0.out.size hB8.size)
  go_wp2_with fail
  refine hK.out _ _ (HKP.out _ (hB9)) (fun hHeld => ?_)
  clear hK K
  try simp only [Act.put, List.setIfInBounds_toArray, List.set_cons_zero, List.set_cons_succ]
  refine wpAnyH_take (i := 24) (op_at rfl) (by kernel_rfl) (by kernel_rfl) (by kernel_rfl) (fun _ _ _ h => h) (Or.inl ⟨by rfl, by intro w hSw; go_simp; (try with_reducible rfl)⟩) hHeld ?_
  simp only [Act.put, List.setIfInBounds_toArray, List.set_cons_zero, List.set_cons_succ]
  refine wpAnyH_take (i := 25) (op_at rfl) (by kernel_rfl) (by kernel_rfl) (by kernel_rfl) (fun _ _ _ h => h) (Or.inl ⟨by rfl, by intro w hSw; go_simp; (try with_reducible rfl)⟩) hHeld ?_
  simp only [Act.put, List.setIfInBounds_toArray, List.set_cons_zero, List.set_cons_succ]
  refine wpAnyH_take (i := 26) (op_at rfl) (by kernel_rfl) (by kernel_rfl) (by kernel_rfl) (fun _ _ _ h => h) (Or.inl ⟨by rfl, by intro w hSw; go_simp; (try with_reducible rfl)⟩) hHeld ?_
  simp only [Act.put, List.setIfInBounds_toArray, List.set_cons_zero, List.set_cons_succ]
  refine wpAnyH_take (i := 27) (op_at rfl) (by kernel_rfl) (by kernel_rfl) (by kernel_rfl) (fun _ _ _ h => h) (Or.inl ⟨by rfl, by intro w hSw; go_simp; (try with_reducible rfl)⟩) hHeld ?_
  simp only [Act.put, List.setIfInBounds_toArray, List.set_cons_zero, List.set_cons_succ]
  refine wpAnyH_take (i := 28) (op_at rfl) (by kernel_rfl) (by kernel_rfl) (by kernel_rfl) (fun _ _ _ h => h) (Or.inl ⟨by rfl, by intro w hSw; go_simp; (try with_reducible rfl)⟩) hHeld ?_
  simp only [Act.put, List.setIfInBounds_toArray, List.set_cons_zero, List.set_cons_succ]
  refine wpAnyH_done (by kernel_rfl) ?_ _
  have HEND := Lib.hid (HB0.out.trans (hB9.mono HB0.out.size))
  have HO := Lib.hid ho
  clear ho ho9 hb9 hB9
  go_wp2
  go_ret
  exact ⟨v9, rfl, HO.out, HEND.out⟩

set_option maxRecDepth 100000 in
set_option maxHeartbeats 8000000 in
theorem rencHdr_any (w : World) (h : Hdr) (ho : h.ok) (hw : (hdrI h).whole ≤ 140737488351232) : Calls Try.prog 28 #[.agg (hdrCells h)] w (HBytes w (hdrBytes h)) := by
  obtain ⟨BC, hBC⟩ : ∃ BC, BC = hdrCells h := ⟨_, rfl⟩
  obtain ⟨I, hI⟩ : ∃ I, I = hdrI h := ⟨_, rfl⟩
  have hbf : ∀ W : World, W.heap[w.heap.size]? = some (.cells BC 47 (0, 0)) → _ := fun W hW => hdr_facts (w := W) (g := w.heap.size) (t := 47) ho (by rw [hBC] at hW; exact hW)
  have hres : hdrBytes h = I.encode.1 := by rw [hI]; rfl
  rw [hres, ← hBC]
  obtain ⟨p, nn, bb, gg, tx, st, rc⟩ := h
  obtain ⟨o1, o2, o3, o4, o5, o6, o7⟩ := ho
  simp only at hbf o1 o2 o3 o4 o5 o6 o7
  have hI2 : I = .list [.text p, .text (wordB nn), .text (wordB bb), .text (wordB gg), .text tx, .text st, .text rc] := hI
  rw [← hI] at hw
  obtain ⟨W0, hW0⟩ : ∃ W, W = w.alloc (.cells BC 47) := ⟨_, rfl⟩
  have hb0 : Below w.heap.size w W0 := by rw [hW0]; exact Bel.alloc (Bel.refl w) _
  have hk0 : W0.heap[w.heap.size]? = some (.cells BC 47 (0, 0)) := by rw [hW0]; exact heap_alloc_new w _
  have hsw := (Array.getElem?_eq_some_iff.1 hk0).1
  obtain ⟨S, hS⟩ : ∃ S : World → Prop, S = fun w' => w'.rangeAt w.heap.size 0 (cellsL p) ∧ w'.cell? ⟨w.heap.size, 32, none⟩ = some (.int .u64 nn) ∧ w'.cell? ⟨w.heap.size, 33, none⟩ = some (.int .u64 bb) ∧ w'.cell? ⟨w.heap.size, 34, none⟩ = some (.int .u64 gg) ∧ w'.rangeAt w.heap.size 35 (cellsL tx) ∧ w'.rangeAt w.heap.size 67 (cellsL st) ∧ w'.rangeAt w.heap.size 99 (cellsL rc) := ⟨_, rfl⟩
  have hkeep : ∀ W : World, Below W0.heap.size W0 W → S W := fun W hW => by rw [hS]; exact hbf W ((hW.block _ hsw).trans hk0)
  have hget : ∀ W : World, S W → W.rangeAt w.heap.size 0 (cellsL p) ∧ W.cell? ⟨w.heap.size, 32, none⟩ = some (.int .u64 nn) ∧ W.cell? ⟨w.heap.size, 33, none⟩ = some (.int .u64 bb) ∧ W.cell? ⟨w.heap.size, 34, none⟩ = some (.int .u64 gg) ∧ W.rangeAt w.heap.size 35 (cellsL tx) ∧ W.rangeAt w.heap.size 67 (cellsL st) ∧ W.rangeAt w.heap.size 99 (cellsL rc) := fun W hW => by rw [hS] at hW; exact hW
  have HKP := Lib.hid hkeep
  have HS := Lib.hid hget
  have HW0 := Lib.hid hW0
  have HB0 := Lib.hid hb0
  have HI := Lib.hid hI2
  have HW := Lib.hid hw
  have O1 := Lib.hid o1
  have O2 := Lib.hid o2
  have O3 := Lib.hid o3
  have O4 := Lib.hid o4
  have O5 := Lib.hid o5
  have O6 := Lib.hid o6
  have O7 := Lib.hid o7
  clear hBC hI hbf hres hI2 hw hW0 hb0 hk0 hkeep hget hS o1 o2 o3 o4 o5 o6 o7
  go_enter Try.func28, Try.ntmps28
  go_wp2_with fail
  rw [← HW0.out]
  have HUD := underlyingDig
  have e0 : (Try.prog.info? 37).map (·.size) = some (cellsL p).length := by rw [cellsL_length, O1.out]; exact infoDig
  have e4 : (Try.prog.info? 37).map (·.size) = some (cellsL tx).length := by rw [cellsL_length, O2.out]; exact infoDig
  have e5 : (Try.prog.info? 37).map (·.size) = some (cellsL st).length := by rw [cellsL_length, O3.out]; exact infoDig
  have e6 : (Try.prog.info? 37).map (·.size) = some (cellsL rc).length := by rw [cellsL_length, O4.out]; exact infoDig
  refine wp_region_held_drew (S := S) (by kernel_rfl) (HKP.out _ (Bel.drew (Bel.refl W0))) (fun hHeld => ?_)
  refine wpAnyH_take (i := 0) (op_at rfl) (by kernel_rfl) (by kernel_rfl) (by kernel_rfl) (fun _ _ _ h => h) (Or.inl ⟨by rfl, by intro w hSw; go_simp; (try with_reducible rfl)⟩) hHeld ?_
  simp only [Act.put, List.setIfInBounds_toArray, List.set_cons_zero, List.set_cons_succ]
  refine wpAnyH_take (i := 1) (op_at rfl) (by kernel_rfl) (by kernel_rfl) (by kernel_rfl) (fun _ _ _ h => h) (yieldsIf_load_mid (by rfl) _ _ rfl _ _ rfl _ _ (fun W hW => (HS.out W hW).1) HUD rfl e0) hHeld ?_
  simp only [Act.put, List.setIfInBounds_toArray, List.set_cons_zero, List.set_cons_succ]
  refine wpAnyH_take (i := 3) (op_at rfl) (by kernel_rfl) (by kernel_rfl) (by kernel_rfl) (fun _ _ _ h => h) (Or.inl ⟨by rfl, by intro w hSw; go_simp; (try with_reducible rfl)⟩) hHeld ?_
  simp only [Act.put, List.setIfInBounds_toArray, List.set_cons_zero, List.set_cons_succ]
  refine wpAnyH_take (i := 4) (op_at rfl) (by kernel_rfl) (by kernel_rfl) (by kernel_rfl) (fun _ _ _ h => h) (Or.inl ⟨by rfl, by intro W hSw; have hc := (HS.out W hSw).2.1; go_simp; (try with_reducible rfl)⟩) hHeld ?_
  simp only [Act.put, List.setIfInBounds_toArray, List.set_cons_zero, List.set_cons_succ]
  refine wpAnyH_take (i := 6) (op_at rfl) (by kernel_rfl) (by kernel_rfl) (by kernel_rfl) (fun _ _ _ h => h) (Or.inl ⟨by rfl, by intro w hSw; go_simp; (try with_reducible rfl)⟩) hHeld ?_
  simp only [Act.put, List.setIfInBounds_toArray, List.set_cons_zero, List.set_cons_succ]
  refine wpAnyH_take (i := 7) (op_at rfl) (by kernel_rfl) (by kernel_rfl) (by kernel_rfl) (fun _ _ _ h => h) (Or.inl ⟨by rfl, by intro W hSw; have hc := (HS.out W hSw).2.2.1; go_simp; (try with_reducible rfl)⟩) hHeld ?_
  simp only [Act.put, List.setIfInBounds_toArray, List.set_cons_zero, List.set_cons_succ]
  refine wpAnyH_take (i := 9) (op_at rfl) (by kernel_rfl) (by kernel_rfl) (by kernel_rfl) (fun _ _ _ h => h) (Or.inl ⟨by rfl, by intro w hSw; go_simp; (try with_reducible rfl)⟩) hHeld ?_
  simp only [Act.put, List.setIfInBounds_toArray, List.set_cons_zero, List.set_cons_succ]
  refine wpAnyH_take (i := 10) (op_at rfl) (by kernel_rfl) (by kernel_rfl) (by kernel_rfl) (fun _ _ _ h => h) (Or.inl ⟨by rfl, by intro W hSw; have hc := (HS.out W hSw).2.2.2.1; go_simp; (try with_reducible rfl)⟩) hHeld ?_
  simp only [Act.put, List.setIfInBounds_toArray, List.set_cons_zero, List.set_cons_succ]
  refine wpAnyH_take (i := 12) (op_at rfl) (by kernel_rfl) (by kernel_rfl) (by kernel_rfl) (fun _ _ _ h => h) (Or.inl ⟨by rfl, by intro w hSw; go_simp; (try with_reducible rfl)⟩) hHeld ?_
  simp only [Act.put, List.setIfInBounds_toArray, List.set_cons_zero, List.set_cons_succ]
  refine wpAnyH_take (i := 13) (op_at rfl) (by kernel_rfl) (by kernel_rfl) (by kernel_rfl) (fun _ _ _ h => h) (yieldsIf_load_mid (by rfl) _ _ rfl _ _ rfl _ _ (fun W hW => (HS.out W hW).2.2.2.2.1) HUD rfl e4) hHeld ?_
  simp only [Act.put, List.setIfInBounds_toArray, List.set_cons_zero, List.set_cons_succ]
  refine wpAnyH_take (i := 15) (op_at rfl) (by kernel_rfl) (by kernel_rfl) (by kernel_rfl) (fun _ _ _ h => h) (Or.inl ⟨by rfl, by intro w hSw; go_simp; (try with_reducible rfl)⟩) hHeld ?_
  simp only [Act.put, List.setIfInBounds_toArray, List.set_cons_zero, List.set_cons_succ]
  refine wpAnyH_take (i := 16) (op_at rfl) (by kernel_rfl) (by kernel_rfl) (by kernel_rfl) (fun _ _ _ h => h) (yieldsIf_load_mid (by rfl) _ _ rfl _ _ rfl _ _ (fun W hW => (HS.out W hW).2.2.2.2.2.1) HUD rfl e5) hHeld ?_
  simp only [Act.put, List.setIfInBounds_toArray, List.set_cons_zero, List.set_cons_succ]
  refine wpAnyH_take (i := 18) (op_at rfl) (by kernel_rfl) (by kernel_rfl) (by kernel_rfl) (fun _ _ _ h => h) (Or.inl ⟨by rfl, by intro w hSw; go_simp; (try with_reducible rfl)⟩) hHeld ?_
  simp only [Act.put, List.setIfInBounds_toArray, List.set_cons_zero, List.set_cons_succ]
  refine wpAnyH_take (i := 19) (op_at rfl) (by kernel_rfl) (by kernel_rfl) (by kernel_rfl) (fun _ _ _ h => h) (yieldsIf_load_mid (by rfl) _ _ rfl _ _ rfl _ _ (fun W hW => (HS.out W hW).2.2.2.2.2.2) HUD rfl e6) hHeld ?_
  simp only [Act.put, List.setIfInBounds_toArray, List.set_cons_zero, List.set_cons_succ]
  refine wpAnyH_ready (rs := [2]) (by kernel_rfl) (by simp) (AllReadyH.cons (op_at rfl) (fun K hK => ?_) AllReadyH.nil)
  clear hHeld
  go_simp
  go_at_call_of 53 (Value.agg (cellsL p).toArray)
  refine (rname_any p _ O1.out).mono ?_
  rintro e W1 ⟨v1, rfl, it1, hb1⟩
  have hB1 : Below W0.heap.size W0 W1 := Bel.call (Bel.drew (Bel.refl W0)) hb1
  obtain ⟨-, a1, n1, c1, a1', n1', c1', rfl, -, -, -⟩ := ItemAt.form it1
  go_wp2_with fail
  refine hK.out _ _ (HKP.out _ (hB1)) (fun hHeld => ?_)
  clear hK K
  try simp only [Act.put, List.setIfInBounds_toArray, List.set_cons_zero, List.set_cons_succ]
  refine wpAnyH_ready (rs := [5]) (by kernel_rfl) (by simp) (AllReadyH.cons (op_at rfl) (fun K hK => ?_) AllReadyH.nil)
  clear hHeld
  go_simp
  go_at_call_of 54 (Value.int .u64 (nn : Int))
  refine (rwordI_any nn _ O5.out).mono ?_
  rintro e W2 ⟨v2, rfl, it2, hb2⟩
  have hB2 : Below W0.heap.size W0 W2 := Bel.call hB1 hb2
  have c1_2 : Below W1.heap.size W1 W2 := Bel.call (Bel.refl W1) hb2
  obtain ⟨-, a2, n2, c2, a2', n2', c2', rfl, -, -, -⟩ := ItemAt.form it2
  go_wp2_with fail
  refine hK.out _ _ (HKP.out _ (hB2)) (fun hHeld => ?_)
  clear hK K
  try simp only [Act.put, List.setIfInBounds_toArray, List.set_cons_zero, List.set_cons_succ]
  refine wpAnyH_ready (rs := [8]) (by kernel_rfl) (by simp) (AllReadyH.cons (op_at rfl) (fun K hK => ?_) AllReadyH.nil)
  clear hHeld
  go_simp
  go_at_call_of 54 (Value.int .u64 (bb : Int))
  refine (rwordI_any bb _ O6.out).mono ?_
  rintro e W3 ⟨v3, rfl, it3, hb3⟩
  have hB3 : Below W0.heap.size W0 W3 := Bel.call hB2 hb3
  have c1_3 : Below W1.heap.size W1 W3 := Bel.call c1_2 hb3
  have c2_3 : Below W2.heap.size W2 W3 := Bel.call (Bel.refl W2) hb3
  obtain ⟨-, a3, n3, c3, a3', n3', c3', rfl, -, -, -⟩ := ItemAt.form it3
  go_wp2_with fail
  refine hK.out _ _ (HKP.out _ (hB3)) (fun hHeld => ?_)
  clear hK K
  try simp only [Act.put, List.setIfInBounds_toArray, List.set_cons_zero, List.set_cons_succ]
  refine wpAnyH_ready (rs := [11]) (by kernel_rfl) (by simp) (AllReadyH.cons (op_at rfl) (fun K hK => ?_) AllReadyH.nil)
  clear hHeld
  go_simp
  go_at_call_of 54 (Value.int .u64 (gg : Int))
  refine (rwordI_any gg _ O7.out).mono ?_
  rintro e W4 ⟨v4, rfl, it4, hb4⟩
  have hB4 : Below W0.heap.size W0 W4 := Bel.call hB3 hb4
  have c1_4 : Below W1.heap.size W1 W4 := Bel.call c1_3 hb4
  have c2_4 : Below W2.heap.size W2 W4 := Bel.call c2_3 hb4
  have c3_4 : Below W3.heap.size W3 W4 := Bel.call (Bel.refl W3) hb4
  obtain ⟨-, a4, n4, c4, a4', n4', c4', rfl, -, -, -⟩ := ItemAt.form it4
  go_wp2_with fail
  refine hK.out _ _ (HKP.out _ (hB4)) (fun hHeld => ?_)
  clear hK K
  try simp only [Act.put, List.setIfInBounds_toArray, List.set_cons_zero, List.set_cons_succ]
  refine wpAnyH_ready (rs := [14]) (by kernel_rfl) (by simp) (AllReadyH.cons (op_at rfl) (fun K hK => ?_) AllReadyH.nil)
  clear hHeld
  go_simp
  go_at_call_of 53 (Value.agg (cellsL tx).toArray)
  refine (rname_any tx _ O2.out).mono ?_
  rintro e W5 ⟨v5, rfl, it5, hb5⟩
  have hB5 : Below W0.heap.size W0 W5 := Bel.call hB4 hb5
  have c1_5 : Below W1.heap.size W1 W5 := Bel.call c1_4 hb5
  have c2_5 : Below W2.heap.size W2 W5 := Bel.call c2_4 hb5
  have c3_5 : Below W3.heap.size W3 W5 := Bel.call c3_4 hb5
  have c4_5 : Below W4.heap.size W4 W5 := Bel.call (Bel.refl W4) hb5
  obtain ⟨-, a5, n5, c5, a5', n5', c5', rfl, -, -, -⟩ := ItemAt.form it5
  go_wp2_with fail
  refine hK.out _ _ (HKP.out _ (hB5)) (fun hHeld => ?_)
  clear hK K
  try simp only [Act.put, List.setIfInBounds_toArray, List.set_cons_zero, List.set_cons_succ]
  refine wpAnyH_ready (rs := [17]) (by kernel_rfl) (by simp) (AllReadyH.cons (op_at rfl) (fun K hK => ?_) AllReadyH.nil)
  clear hHeld
  go_simp
  go_at_call_of 53 (Value.agg (cellsL st).toArray)
  refine (rname_any st _ O3.out).mono ?_
  rintro e W6 ⟨v6, rfl, it6, hb6⟩
  have hB6 : Below W0.heap.size W0 W6 := Bel.call hB5 hb6
  have c1_6 : Below W1.heap.size W1 W6 := Bel.call c1_5 hb6
  have c2_6 : Below W2.heap.size W2 W6 := Bel.call c2_5 hb6
  have c3_6 : Below W3.heap.size W3 W6 := Bel.call c3_5 hb6
  have c4_6 : Below W4.heap.size W4 W6 := Bel.call c4_5 hb6
  have c5_6 : Below W5.heap.size W5 W6 := Bel.call (Bel.refl W5) hb6
  obtain ⟨-, a6, n6, c6, a6', n6', c6', rfl, -, -, -⟩ := ItemAt.form it6
  go_wp2_with fail
  refine hK.out _ _ (HKP.out _ (hB6)) (fun hHeld => ?_)
  clear hK K
  try simp only [Act.put, List.setIfInBounds_toArray, List.set_cons_zero, List.set_cons_succ]
  refine wpAnyH_ready (rs := [20]) (by kernel_rfl) (by simp) (AllReadyH.cons (op_at rfl) (fun K hK => ?_) AllReadyH.nil)
  clear hHeld
  go_simp
  go_at_call_of 53 (Value.agg (cellsL rc).toArray)
  refine (rname_any rc _ O4.out).mono ?_
  rintro e W7 ⟨v7, rfl, it7, hb7⟩
  have hB7 : Below W0.heap.size W0 W7 := Bel.call hB6 hb7
  have c1_7 : Below W1.heap.size W1 W7 := Bel.call c1_6 hb7
  have c2_7 : Below W2.heap.size W2 W7 := Bel.call c2_6 hb7
  have c3_7 : Below W3.heap.size W3 W7 := Bel.call c3_6 hb7
  have c4_7 : Below W4.heap.size W4 W7 := Bel.call c4_6 hb7
  have c5_7 : Below W5.heap.size W5 W7 := Bel.call c5_6 hb7
  have c6_7 : Below W6.heap.size W6 W7 := Bel.call (Bel.refl W6) hb7
  obtain ⟨-, a7, n7, c7, a7', n7', c7', rfl, -, -, -⟩ := ItemAt.form it7
  go_wp2_with fail
  refine hK.out _ _ (HKP.out _ (hB7)) (fun hHeld => ?_)
  clear hK K
  try simp only [Act.put, List.setIfInBounds_toArray, List.set_cons_zero, List.set_cons_succ]
  refine wpAnyH_ready (rs := [21]) (by kernel_rfl) (by simp) (AllReadyH.cons (op_at rfl) (fun K hK => ?_) AllReadyH.nil)
  clear hHeld
  go_simp
  go_wp2_with fail
  refine hK.out _ _ (HKP.out _ (Bel.alloc hB7 _)) (fun hHeld => ?_)
  clear hK K
  try simp only [Act.put, List.setIfInBounds_toArray, List.set_cons_zero, List.set_cons_succ]
  refine wpAnyH_take (i := 22) (op_at rfl) (by kernel_rfl) (by kernel_rfl) (by kernel_rfl) (fun _ _ _ h => h) (Or.inl ⟨by rfl, by intro w hSw; go_simp; (try with_reducible rfl)⟩) hHeld ?_
  simp only [Act.put, List.setIfInBounds_toArray, List.set_cons_zero, List.set_cons_succ]
  refine wpAnyH_ready (rs := [23]) (by kernel_rfl) (by simp) (AllReadyH.cons (op_at rfl) (fun K hK => ?_) AllReadyH.nil)
  clear hHeld
  go_simp
  go_at_call 45
  refine (rencode_any (fun b => W0.heap.size ≤ b) _ 3 I true _ _ (by rw [HI.out]; exact ⟨_, _, rfl, SliceAt.nil _ _ _ _, septI (itUp (Nat.le_refl _) c1_7 it1) (itUp hB1.size c2_7 it2) (itUp hB2.size c3_7 it3) (itUp hB3.size c4_7 it4) (itUp hB4.size c5_7 it5) (itUp hB5.size c6_7 it6) (itUp hB6.size (Bel.refl W7) it7) hB7.size _⟩) HW.out).mono ?_
  rintro e W9 ⟨v9, rfl, ho9, hb9⟩
  have hB9 : Below W0.heap.size W0 W9 := Bel.call (Bel.alloc hB7 _) hb9
  have ho := ho9.lower (base' := w.heap.size) (by simp; have := HB0.out.size; have := hB7.size; omega)
  go_wp2_with fail
  refine hK.out _ _ (HKP.out _ (hB9)) (fun hHeld => ?_)
  clear hK K
  try simp only [Act.put, List.setIfInBounds_toArray, List.set_cons_zero, List.set_cons_succ]
  refine wpAnyH_take (i := 24) (op_at rfl) (by kernel_rfl) (by kernel_rfl) (by kernel_rfl) (fun _ _ _ h => h) (Or.inl ⟨by rfl, by intro w hSw; go_simp; (try with_reducible rfl)⟩) hHeld ?_
  simp only [Act.put, List.setIfInBounds_toArray, List.set_cons_zero, List.set_cons_succ]
  refine wpAnyH_take (i := 25) (op_at rfl) (by kernel_rfl) (by kernel_rfl) (by kernel_rfl) (fun _ _ _ h => h) (Or.inl ⟨by rfl, by intro w hSw; go_simp; (try with_reducible rfl)⟩) hHeld ?_
  simp only [Act.put, List.setIfInBounds_toArray, List.set_cons_zero, List.set_cons_succ]
  refine wpAnyH_take (i := 26) (op_at rfl) (by kernel_rfl) (by kernel_rfl) (by kernel_rfl) (fun _ _ _ h => h) (Or.inl ⟨by rfl, by intro w hSw; go_simp; (try with_reducible rfl)⟩) hHeld ?_
  simp only [Act.put, List.setIfInBounds_toArray, List.set_cons_zero, List.set_cons_succ]
  refine wpAnyH_take (i := 27) (op_at rfl) (by kernel_rfl) (by kernel_rfl) (by kernel_rfl) (fun _ _ _ h => h) (Or.inl ⟨by rfl, by intro w hSw; go_simp; (try with_reducible rfl)⟩) hHeld ?_
  simp only [Act.put, List.setIfInBounds_toArray, List.set_cons_zero, List.set_cons_succ]
  refine wpAnyH_take (i := 28) (op_at rfl) (by kernel_rfl) (by kernel_rfl) (by kernel_rfl) (fun _ _ _ h => h) (Or.inl ⟨by rfl, by intro w hSw; go_simp; (try with_reducible rfl)⟩) hHeld ?_
  simp only [Act.put, List.setIfInBounds_toArray, List.set_cons_zero, List.set_cons_succ]
  refine wpAnyH_done (by kernel_rfl) ?_ _
  have HEND := Lib.hid (HB0.out.trans (hB9.mono HB0.out.size))
  have HO := Lib.hid ho
  clear ho ho9 hb9 hB9
  go_wp2
  go_ret
  exact ⟨v9, rfl, HO.out, HEND.out⟩
end Go.Proofs.Ytndkkgkcbbmnpaa
