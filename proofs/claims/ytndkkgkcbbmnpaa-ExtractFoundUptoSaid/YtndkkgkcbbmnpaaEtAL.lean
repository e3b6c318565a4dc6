/-
  Contract of pergolaref21.Decode.
  Contracts of witness.read and witness.Decode: who owns what they tell.
-/
import Derived.Test.YtndkkgkcbbmnpaaEtAK
namespace Go.Pg
open Go.RowKit
theorem rowsSum_bytes (l : List It) : (l.map fun y => y.bytes.length + 1).sum ≤ 2 * It.wholes l := by
  induction l with
  | nil => simp [It.wholes]
  | cons y r ih =>
    have h1 := It.whole_pos y
    have h2 := It.body_le_whole y
    have h3 := It.body_eq y
    simp only [List.map_cons, List.sum_cons, It.wholes]; omega
theorem sz_small' (n : Nat) (h : n ≤ 16777215) : sz n ≤ n + 4 := by
  have := number_le 3 n (by omega)
  unfold sz; split <;> omega
theorem wholes_bytes (l : List It) (h : It.wholes l ≤ 1048576) : It.wholes ((l.map It.bytes).map .text) ≤ 5 * It.wholes l := by
  induction l with
  | nil => simp [It.wholes]
  | cons y r ih =>
    simp only [It.wholes] at h
    have h1 := It.whole_pos y
    have h2 := It.body_le_whole y
    have h3 := It.body_eq y
    have h4 := ih (by omega)
    have h5 := sz_small' y.bytes.length (by omega)
    have h6 : (It.text y.bytes).whole ≤ y.bytes.length + 4 := by simp only [It.whole]; split <;> omega
    simp only [List.map_cons, It.wholes]; omega
theorem whole_parts (i0 i1 : It) (h : It.wholes [i0, i1] ≤ 1048576) : (witI (i0.items.map It.bytes) (i1.items.map It.bytes)).whole ≤ 16777215 := by
  simp only [It.wholes] at h
  have a0 := It.body_le_whole i0
  have a1 := It.body_le_whole i1
  have b0 := It.body_eq i0
  have b1 := It.body_eq i1
  have c0 := wholes_bytes i0.items (by omega)
  have c1 := wholes_bytes i1.items (by omega)
  have d0 := sz_small' (It.wholes ((i0.items.map It.bytes).map .text)) (by omega)
  have d1 := sz_small' (It.wholes ((i1.items.map It.bytes).map .text)) (by omega)
  have e0 : (textsI (i0.items.map It.bytes)).whole ≤ 5 * It.wholes i0.items + 4 := by unfold textsI; simp only [It.whole]; omega
  have e1 : (textsI (i1.items.map It.bytes)).whole ≤ 5 * It.wholes i1.items + 4 := by unfold textsI; simp only [It.whole]; omega
  have f : It.wholes [textsI (i0.items.map It.bytes), textsI (i1.items.map It.bytes)] = (textsI (i0.items.map It.bytes)).whole + (textsI (i1.items.map It.bytes)).whole := by simp [It.wholes]
  have g := sz_small' (It.wholes [textsI (i0.items.map It.bytes), textsI (i1.items.map It.bytes)]) (by omega)
  unfold witI; simp only [It.whole]; omega
theorem refDecode_pos (bs : List UInt8) (x i0 i1 : It) (h : rdWhole bs = (0, x)) (hi : x.items = [i0, i1]) :
    refDecode bs = if witEncode (i0.items.map It.bytes) (i1.items.map It.bytes) = (bs, 0) then (i0.items.map It.bytes, i1.items.map It.bytes, 0) else ([], [], 210) := by
  unfold refDecode part
  rw [h, hi]
  simp
theorem refDecode_no (bs : List UInt8) (e : Nat) (x : It) (h : rdWhole bs = (e, x)) (hn : e ≠ 0 ∨ x.items.length ≠ 2) : refDecode bs = ([], [], 210) := by
  unfold refDecode
  rw [h, if_neg]
  rintro ⟨h1, h2⟩
  rcases hn with hn | hn
  · exact hn h1
  · exact hn h2
end Go.Pg
namespace Go.Proofs.Ytndkkgkcbbmnpaa
open Go.RowKit Go.Pg

/-- the state of a loop: the witness' box, the rest as it was -/
structure RwSt (Wst wr : World) (wb : Nat) (v0 v1 : Value) : Prop where
  box : wr.heap[wb]? = some (.cells #[v0, v1] 24 (0, 0))
  chg : Chg (fun k => k = wb) Wst wr
theorem RwSt.cell {Wst wr : World} {wb : Nat} {v0 v1 : Value} (h : RwSt Wst wr wb v0 v1) {b o : Nat} {u : Value} (hc : Wst.cell? ⟨b, o, none⟩ = some u) (hne : b ≠ wb) : wr.cell? ⟨b, o, none⟩ = some u :=
  (cell_same (h.chg.block b (cell_lt hc) hne)).trans hc

set_option maxRecDepth 100000 in
set_option maxHeartbeats 8000000 in
theorem rwdecode_any (F0 : Nat → Prop) (w : World) (a : Option Addr) (n c : Nat) (bs : List UInt8) (h0 : BytesAt F0 w (.slice a n c) bs) (hn : n ≤ 1048576) :
    Calls Try.prog 17 #[.slice a n c] w (WDecd fresh w (refDecode bs)) := by
  have hnl := (BytesAt.n h0).1
  obtain ⟨e1, x, hr⟩ : ∃ e1 x, rdWhole bs = (e1, x) := ⟨(rdWhole bs).1, (rdWhole bs).2, rfl⟩
  obtain ⟨i0r, hi, hz0, hz1, hz2⟩ := info_parts infoRow
  have hcall := rdecode_any F0 (w.alloc (.cells #[.slice none 0 0, .slice none 0 0] 24)) a n c bs (BytesAt.below h0 (Bel.alloc (Bel.refl w) _)) (by omega)
  rw [hr] at hcall
  have HC := Lib.hid hcall
  have HR := Lib.hid hr
  have HNL := Lib.hid hnl
  have HIN := Lib.hid h0
  clear h0 hnl hr hcall
  go_enter Try.func17, Try.ntmps17
  go_wp2_with fail
  refine HC.out.mono ?_
  rintro e5 w5 ⟨il, i1, y1, z1, i3, y3, z3, rfl, k1, k2⟩
  have hsz := k2.size
  simp only [World.size_alloc] at hsz
  have h0 : w.heap.size < w5.heap.size := by omega
  have hb5 := (k2.block w.heap.size (by simp)).trans (heap_alloc_new w _)
  have hbel := (Bel.alloc (Bel.refl w) (.cells #[.slice none 0 0, .slice none 0 0] 24)).trans (k2.mono (by simp))
  have HB5 := Lib.hid hb5
  have HBL := Lib.hid hbel
  obtain ⟨-, a1', n1', c1', a2', n2', c2', e1', e2', -, hn3⟩ := ItemAt.form k1
  simp only [Value.slice.injEq] at e1' e2'
  obtain ⟨rfl, rfl, rfl⟩ := e1'
  obtain ⟨rfl, rfl, rfl⟩ := e2'
  obtain ⟨q0, q1⟩ := cells2 hb5
  have f0 := frozen_of_row w5 w.heap.size 0 _ _ hb5
  have f1 := frozen_of_row w5 w.heap.size 1 _ _ hb5
  have K1 := Lib.hid k1
  have HN3 := Lib.hid hn3
  clear hb5 k1 k2 hsz hbel hn3
  by_cases hgood : e1 = 0 ∧ y3 = 2
  · obtain ⟨rfl, rfl⟩ := hgood
    obtain ⟨hb, hfit⟩ := rdWhole_sound bs x HR.out
    have hbl : x.whole = n := by rw [← It.enc_length, ← hb]; exact HNL.out.symm
    obtain ⟨i0, i1x, hi2⟩ : ∃ i0 i1x, x.items = [i0, i1x] := by
      have := HN3.out
      match x.items, this with
      | [i0, i1x], _ => exact ⟨i0, i1x, rfl⟩
    have hits := ItemAt.items K1.out
    rw [hi2] at hits
    have hwl : It.wholes [i0, i1x] ≤ 1048576 := by
      have h1 := It.body_le_whole x
      have h2 : x.body = It.wholes x.items + x.bytes.length := by rw [It.body_eq]; omega
      rw [hi2] at h2
      omega
    have hwp := whole_parts i0 i1x hwl
    have hl0 : i0.items.length ≤ 1048576 ∧ i1x.items.length ≤ 1048576 ∧ (∀ y ∈ i0.items.map It.bytes, y.length ≤ 1048576) ∧ (∀ y ∈ i1x.items.map It.bytes, y.length ≤ 1048576) := by
      simp only [It.wholes] at hwl
      have h3 := It.body_le_whole i0
      have h4 := It.body_le_whole i1x
      have h5 := It.length_le_wholes i0.items
      have h6 := It.length_le_wholes i1x.items
      have h7 := It.body_eq i0
      have h8 := It.body_eq i1x
      refine ⟨by omega, by omega, fun y hy => ?_, fun y hy => ?_⟩
      · obtain ⟨z, hz, rfl⟩ := List.mem_map.1 hy
        have g1 := whole_le_wholes _ z hz
        have g2 := It.body_le_whole z
        have g3 := It.body_eq z
        omega
      · obtain ⟨z, hz, rfl⟩ := List.mem_map.1 hy
        have g1 := whole_le_wholes _ z hz
        have g2 := It.body_le_whole z
        have g3 := It.body_eq z
        omega
    have hwd := refDecode_pos bs x i0 i1x HR.out hi2
    have HWD := Lib.hid hwd
    have HL0 := Lib.hid hl0
    have HWP := Lib.hid hwp
    rcases SliceAt.split hits with ⟨hh, _⟩ | ⟨b, o, rfl, -, -, hfb⟩
    · cases hh
    obtain ⟨A1, N1, C1, A2, N2, C2, g0, g1, g2, git⟩ := ItemsAt.cell hits 0 (by simp)
    obtain ⟨A3, N3, C3, A4, N4, C4, g3, g4, g5, git'⟩ := ItemsAt.cell hits 1 (by simp)
    simp only [Nat.zero_mul, Nat.one_mul, Nat.add_zero, List.getElem_cons_zero, List.getElem_cons_succ] at g0 g1 g2 g3 g4 g5 git git'
    have hblt := cell_lt g0
    have hits0 : ItemsAt (fun b => w.heap.size < b ∧ b < w5.heap.size) w5 7 (.slice A2 N2 C2) i0.items :=
      ItemsAt.carry (ItemAt.items git) (fun b hlt hb => ⟨by have h9 : (w.alloc (.cells #[.slice none 0 0, .slice none 0 0] 24)).heap.size ≤ b := hb; simp only [World.size_alloc] at h9; omega, hlt⟩) (fun _ _ _ => rfl)
    have hits1 : ItemsAt (fun b => w.heap.size < b ∧ b < w5.heap.size) w5 7 (.slice A4 N4 C4) i1x.items :=
      ItemsAt.carry (ItemAt.items git') (fun b hlt hb => ⟨by have h9 : (w.alloc (.cells #[.slice none 0 0, .slice none 0 0] 24)).heap.size ≤ b := hb; simp only [World.size_alloc] at h9; omega, hlt⟩) (fun _ _ _ => rfl)
    have hN2 : N2 = i0.items.length := by
      obtain ⟨-, x1, x2, x3, x4, x5, x6, -, e, -, h⟩ := ItemAt.form git
      simp only [Value.slice.injEq] at e
      omega
    have hN4 : N4 = i1x.items.length := by
      obtain ⟨-, x1, x2, x3, x4, x5, x6, -, e, -, h⟩ := ItemAt.form git'
      simp only [Value.slice.injEq] at e
      omega
    obtain ⟨l0, hl0'⟩ : ∃ l, l = i0.items := ⟨_, rfl⟩
    obtain ⟨l1, hl1'⟩ : ∃ l, l = i1x.items := ⟨_, rfl⟩
    rw [← hl0'] at hits0 hN2 HWD HL0 HWP
    rw [← hl1'] at hits1 hN4 HWD HL0 HWP
    have hN2b : N2 ≤ 1048576 := by have := HL0.out.1; omega
    have hN4b : N4 ≤ 1048576 := by have := HL0.out.2.1; omega
    have HI0 := Lib.hid hits0
    have HI1 := Lib.hid hits1
    have HN2 := Lib.hid hN2
    have HN4 := Lib.hid hN4
    have G2 := Lib.hid g2
    have G5 := Lib.hid g5
    obtain ⟨W1, hW1⟩ : ∃ W, W = (w5.alloc (.cells #[.bool il, .slice i1 y1 z1, .slice (some ⟨b, o, none⟩) 2 z3] 65)).alloc (.cells #[.slice none 0 0, .slice none 0 0] 24) := ⟨_, rfl⟩
    have hbw1 : Below w5.heap.size w5 W1 := by rw [hW1]; exact Bel.alloc (Bel.alloc (Bel.refl w5) _) _
    have hx1 : W1.heap[w5.heap.size]? = some (.cells #[.bool il, .slice i1 y1 z1, .slice (some ⟨b, o, none⟩) 2 z3] 65 (0, 0)) := by
      rw [hW1]; exact (Below.heap_alloc _ _ _ (by simp)).trans (heap_alloc_new w5 _)
    have hwb1 : W1.heap[w5.heap.size + 1]? = some (.cells #[.slice none 0 0, .slice none 0 0] 24 (0, 0)) := by
      rw [hW1]
      have := heap_alloc_new (w5.alloc (.cells #[.bool il, .slice i1 y1 z1, .slice (some ⟨b, o, none⟩) 2 z3] 65)) (.cells #[.slice none 0 0, .slice none 0 0] 24)
      simpa using this
    have hs1 : W1.heap.size = w5.heap.size + 2 := by rw [hW1]; simp
    have HW1 := Lib.hid hW1
    have HBW1 := Lib.hid hbw1
    have HX1 := Lib.hid hx1
    have HS1 := Lib.hid hs1
    have HR0 : Hid (RwSt W1 W1 (w5.heap.size + 1) (.slice none 0 0) (.slice none 0 0)) := Lib.hid ⟨hwb1, Chg.refl _ _⟩
    clear hb hfit hbl hi2 hits hwl hwp hl0 hwd g0 g1 g2 g3 g4 g5 git git' hfb hits0 hits1 hN2 hN4 hl0' hl1' hbw1 hx1 hwb1 hs1 hW1 q0 q1 f0 f1
    go_wp2_with fail
    rw [← HW1.out]
    have HXS : Hid (W1.heap[w5.heap.size]? = some (.cells #[.bool il, .slice i1 y1 z1, .slice (some ⟨b, o, none⟩) 2 z3] 65 (0, 0))) := HX1
    have HCS0 : Hid (W1.cell? ⟨b, o + 2, none⟩ = some (.slice A2 N2 C2)) := Lib.hid ((HBW1.out.cell (p := ⟨b, o + 2, none⟩) hblt).trans G2.out)
    have HBLS := HBW1
    have hszS := HS1.out

    go_loopw [7] (fun i wr => ∃ (k : Nat) (a1 : Option Addr) (c1 : Nat), k ≤ N2 ∧ i = .int .i64 k ∧ Hid (OwnList rowR (fun b => w.heap.size < b ∧ b < w5.heap.size) (w5.heap.size + 2) wr 25 1 (.slice a1 k c1) ((l0.take k).map It.bytes)) ∧
        Hid (RwSt W1 wr (w5.heap.size + 1) (.slice a1 k c1) (.slice none 0 0))) (fun i _ => N2 - (intOf i).toNat)
    case atStart => exact ⟨0, none, 0, Nat.zero_le _, rfl, Lib.hid OwnList.nil, HR0⟩
    case round =>
      obtain ⟨k, a1, c1, hk, rfl, HO, HS⟩ := hrel
      have hN := HN2.out

      have hxk := HS.out.cell (cells3 HXS.out).2.2 (by omega)
      have hgk := HS.out.cell (HCS0.out) (by omega)
      have HBOX := Lib.hid HS.out.box
      have hsz2 := HS.out.chg.size
      have hszb := (Array.getElem?_eq_some_iff.1 HS.out.box).1
      by_cases hlt : k < N2
      · rcases SliceAt.split HI0.out with ⟨_, h00⟩ | ⟨b2, o2, rfl, -, -, hF2⟩
        · omega
        have hb2 : b2 < w5.heap.size := hF2.2
        obtain ⟨x1, y1', z1', x2, y2, z2, g0, g1, g2, git⟩ := ItemsAt.cell HI0.out k (by omega)
        have htk : (l0.take (k + 1)).map It.bytes = (l0.take k).map It.bytes ++ [(l0[k]'(by omega)).bytes] := by
          rw [List.take_succ_eq_append_getElem (show k < l0.length by omega), List.map_append]; rfl
        have hby := ItemAt.bytes git
        obtain ⟨y, hy⟩ : ∃ y, y = l0[k]'(by omega) := ⟨_, rfl⟩
        rw [← hy] at htk hby
        have hcell := HS.out.cell (HBLS.out.cell (p := ⟨b2, o2 + k * 3 + 1, none⟩) hb2 |>.trans g1) (by omega)
        have hbyr : BytesAt (fun b => w.heap.size < b ∧ b < w5.heap.size) wr (.slice x1 y1' z1') y.bytes := hby.carry (fun _ _ x => x) (fun b hb _ => (HS.out.chg.block b (by have := HBLS.out.size; omega) (by omega)).trans (HBLS.out.block b hb.2))
        obtain ⟨P, hP⟩ : ∃ L, L = (l0.take k).map It.bytes := ⟨_, rfl⟩
        rw [← hP] at HO htk
        have hPl : P.length = k := by rw [hP]; simp; omega
        have HT := Lib.hid htk
        have HPL := Lib.hid hPl
        have howr := (HO.out).own
        obtain ⟨R, hR1, hRo, hRs, hRn⟩ := (HO.out).push carriedRow (show rowR (fun b => w.heap.size < b ∧ b < w5.heap.size) wr [.slice x1 y1' z1'] y.bytes from ⟨_, rfl, hbyr⟩) rfl (by decide) (fun b' _ hb' => ⟨hb', fun e => by have := (howr b' e).1; have := hb'.2; have := HBLS.out.size; omega⟩) 25
        have hle : (P.length + [y.bytes].length) * 24 ≤ 140737488355328 := by rw [hPl]; simp; omega
        have hlen : P.length + [y.bytes].length = k + 1 := by rw [hPl]; rfl
        have hbase : (w5.heap.size + 2) ≤ (wr.alloc (.cells [.slice x1 y1' z1'].toArray 25)).drew.heap.size := by simp; omega
        have hX : ∀ w2 : World, (wr.alloc (.cells [.slice x1 y1' z1'].toArray 25)).drew.grownBy w2 (Value.slice a1 k c1).ownBlock → RwSt W1 w2 (w5.heap.size + 1) (.slice a1 k c1) (.slice none 0 0) ∧ (∀ b o u, wr.cell? ⟨b, o, none⟩ = some u → b < w5.heap.size + 1 → w2.cell? ⟨b, o, none⟩ = some u) := by
          intro w2 hg
          have hsz3 := hg.size
          simp only [World.size_drew, World.size_alloc] at hsz3
          have hblk : ∀ b, b < wr.heap.size → (∀ g, (Value.slice a1 k c1).ownBlock = some g → b ≠ g) → w2.heap[b]? = wr.heap[b]? := fun b hb hne => by
            rw [hg.block b (by simp; omega) (fun e => hne b e.symm rfl)]
            exact Below.heap_alloc _ _ _ hb
          refine ⟨⟨(hblk _ hszb (fun g hg e => by have := (howr g hg).1; omega)).trans HBOX.out, ⟨hg.os.trans HS.out.chg.os, hg.tape.trans HS.out.chg.tape, hg.output.trans HS.out.chg.output, by omega, fun j hj hn => ?_⟩⟩, fun b o u hc hb => ?_⟩
          · exact (hblk j (by omega) (fun g hg e => by have := (howr g hg).1; omega)).trans (HS.out.chg.block j hj hn)
          · exact (cell_same (hblk b (by omega) (fun g hg e => by have := (howr g hg).1; omega))).trans hc
        have hRn' : ∀ v' W2, OwnAt W2 (w5.heap.size + 2) 25 1 R v' (P ++ [y.bytes]) → (wr.alloc (.cells [.slice x1 y1' z1'].toArray 25)).drew.grownBy W2 (Value.slice a1 k c1).ownBlock → Moved (wr.alloc (.cells [.slice x1 y1' z1'].toArray 25)).drew (.slice a1 k c1) v' → OwnList rowR (fun b => w.heap.size < b ∧ b < w5.heap.size) (w5.heap.size + 2) W2 25 1 v' (P ++ [y.bytes]) :=
          fun v' W2 ho hg hm => hRn v' W2 ho ⟨hg.os, hg.tape, hg.output, hg.size, hg.block⟩ hm
        have HX := Lib.hid hX
        have HRN := Lib.hid hRn'
        have HRO := Lib.hid hRo.drew'
        have HRS := Lib.hid (hRs.drew' (by decide))
        have HR1 := Lib.hid hR1
        have HLE := Lib.hid hlen
        obtain ⟨bx0, bx1⟩ := cells2 HBOX.out
        have fq := frozen_of_row wr (w5.heap.size + 1) 0 _ _ HBOX.out
        have hne1 : b ≠ w5.heap.size + 1 := by omega
        have hne2 : b2 ≠ w5.heap.size + 1 := by omega
        have HKX := Lib.hid hxk
        have HKG := Lib.hid hgk
        have HKC := Lib.hid hcell
        clear htk hP hPl hX hRn hRn' hRo hRs hR1 howr hlen git hby hbyr g0 g1 g2 hy hN hsz2
        have hk0 : (0 : Int) ≤ (k : Int) := by omega
        have hk1 : (k : Int) < (N2 : Int) := by omega
        go_wp2
        go_region_law (refine step_append_at rfl (.tmp 37) (.tmp 47) 22 rfl (w5.heap.size + 2) 25 i0r (.slice none 0 0) 1 24 underlyingRows hi hz0 hz1 hz2 rfl (by decide) (by decide) HR1.out (.slice a1 k c1) P (by simp [Act.eval]) HRO.out (.slice (some ⟨wr.heap.size, 0, none⟩) 1 1) [y.bytes] (fun _ => True) (by simp [Act.eval]) HRS.out Nat.one_pos hle hbase (k + 1) HLE.out ?_; intro g cap w2 ho hg hm; have hx2 := HX.out _ hg; obtain ⟨r0, r1⟩ := cells2 hx2.1.box; have fr := frozen_of_row w2 (w5.heap.size + 1) 0 _ _ hx2.1.box; have r2 := hx2.2 _ _ _ HKX.out (by omega); have r3 := hx2.2 _ _ _ HKG.out (by omega); have r4 := hx2.2 _ _ _ HKC.out (by omega))
        all_goals
          have hOn := HRN.out _ _ ho hg hm
          have hown := hOn.own
          have hszw := hg.size
          simp only [World.size_drew, World.size_alloc] at hszw
          have hOs : Hid (OwnList rowR (fun b => w.heap.size < b ∧ b < w5.heap.size) (w5.heap.size + 2) (w2.setCell ⟨w5.heap.size + 1, 0, none⟩ (.slice (some ⟨g, 0, none⟩) (k + 1) cap)) 25 1 (.slice (some ⟨g, 0, none⟩) (k + 1) cap) ((l0.take (k + 1)).map It.bytes)) := by
            rw [HT.out]
            exact hOn.carry carriedRow (by simp) (fun b' hb' _ => Below.heap_setCell _ _ _ _ (by have := hb'.2; show b' ≠ w5.heap.size + 1; omega)) (fun g' hg' => Below.heap_setCell _ _ _ _ (by have := (hown g' hg').1; show g' ≠ w5.heap.size + 1; omega))
          have hSs : Hid (RwSt W1 (w2.setCell ⟨w5.heap.size + 1, 0, none⟩ (.slice (some ⟨g, 0, none⟩) (k + 1) cap)) (w5.heap.size + 1) (.slice (some ⟨g, 0, none⟩) (k + 1) cap) (.slice none 0 0)) :=
            Lib.hid ⟨blk_setCell hx2.1.box, hx2.1.chg.atb _⟩
          clear hOn hown ho hg hm hx2 r0 r1 r2 r3 r4 fr hszw
          go_wp2
          go_roundw
          case rel => exact ⟨k + 1, _, _, by omega, num_eq (by omega), hOs, hSs⟩
          case measure => simp [intOf]; omega
      · obtain rfl : N2 = k := by omega
        have hO := HO.out
        rw [List.take_of_length_le (by omega)] at hO
        obtain ⟨wr1, rfl⟩ : ∃ W, W = wr := ⟨_, rfl⟩
        obtain ⟨na, rfl⟩ : ∃ x, x = a1 := ⟨_, rfl⟩
        obtain ⟨nc, rfl⟩ : ∃ x, x = c1 := ⟨_, rfl⟩
        have hrows := hO.at carriedRow (G' := fun b => w.heap.size < b ∧ b ≠ w5.heap.size + 1) (fun b h _ => ⟨h.1, by have := h.2; omega⟩) (fun b h _ => ⟨by omega, by omega⟩) (by decide)
        have HNODES := Lib.hid (show RowsAt (fun b => w.heap.size < b ∧ b ≠ w5.heap.size + 1) wr1 (.slice na N2 nc) (l0.map It.bytes) from hrows)
        have HR1S : Hid (RwSt wr1 wr1 (w5.heap.size + 1) (.slice na N2 nc) (.slice none 0 0)) := Lib.hid ⟨HS.out.box, Chg.refl _ _⟩
        have HXS : Hid (wr1.heap[w5.heap.size]? = some (.cells #[.bool il, .slice i1 y1 z1, .slice (some ⟨b, o, none⟩) 2 z3] 65 (0, 0))) := Lib.hid ((HS.out.chg.block _ (by omega) (by omega)).trans HX1.out)
        have HCS1 : Hid (wr1.cell? ⟨b, o + 3 + 2, none⟩ = some (.slice A4 N4 C4)) := Lib.hid (HS.out.cell ((HBW1.out.cell (p := ⟨b, o + 3 + 2, none⟩) hblt).trans G5.out) (by omega))
        have HBLS : Hid (Below w5.heap.size w5 wr1) := Lib.hid (HBW1.out.trans (HS.out.chg.toBelowAt (by omega) (fun k hk e => by omega)))
        have hszS : w5.heap.size + 2 ≤ wr1.heap.size := by omega
        have hxk1 := (cells3 HXS.out).2.2
        have hc51 := HCS1.out
        clear hO hrows hN HBOX hsz2 hszb HO hlt
        go_wp2
        clear hxk1 hc51 hxk hgk HS

        go_loopw [8] (fun i wr => ∃ (k : Nat) (a1 : Option Addr) (c1 : Nat), k ≤ N4 ∧ i = .int .i64 k ∧ Hid (OwnList rowR (fun b => w.heap.size < b ∧ b < w5.heap.size) wr1.heap.size wr 25 1 (.slice a1 k c1) ((l1.take k).map It.bytes)) ∧
            Hid (RwSt wr1 wr (w5.heap.size + 1) (.slice na N2 nc) (.slice a1 k c1))) (fun i _ => N4 - (intOf i).toNat)
        case atStart => exact ⟨0, none, 0, Nat.zero_le _, rfl, Lib.hid OwnList.nil, HR1S⟩
        case round =>
          obtain ⟨k, a1, c1, hk, rfl, HO, HS⟩ := hrel
          have hN := HN4.out

          have hxk := HS.out.cell (cells3 HXS.out).2.2 (by omega)
          have hgk := HS.out.cell (HCS1.out) (by omega)
          have HBOX := Lib.hid HS.out.box
          have hsz2 := HS.out.chg.size
          have hszb := (Array.getElem?_eq_some_iff.1 HS.out.box).1
          by_cases hlt : k < N4
          · rcases SliceAt.split HI1.out with ⟨_, h00⟩ | ⟨b2, o2, rfl, -, -, hF2⟩
            · omega
            have hb2 : b2 < w5.heap.size := hF2.2
            obtain ⟨x1, y1', z1', x2, y2, z2, g0, g1, g2, git⟩ := ItemsAt.cell HI1.out k (by omega)
            have htk : (l1.take (k + 1)).map It.bytes = (l1.take k).map It.bytes ++ [(l1[k]'(by omega)).bytes] := by
              rw [List.take_succ_eq_append_getElem (show k < l1.length by omega), List.map_append]; rfl
            have hby := ItemAt.bytes git
            obtain ⟨y, hy⟩ : ∃ y, y = l1[k]'(by omega) := ⟨_, rfl⟩
            rw [← hy] at htk hby
            have hcell := HS.out.cell (HBLS.out.cell (p := ⟨b2, o2 + k * 3 + 1, none⟩) hb2 |>.trans g1) (by omega)
            have hbyr : BytesAt (fun b => w.heap.size < b ∧ b < w5.heap.size) wr (.slice x1 y1' z1') y.bytes := hby.carry (fun _ _ x => x) (fun b hb _ => (HS.out.chg.block b (by have := HBLS.out.size; omega) (by omega)).trans (HBLS.out.block b hb.2))
            obtain ⟨P, hP⟩ : ∃ L, L = (l1.take k).map It.bytes := ⟨_, rfl⟩
            rw [← hP] at HO htk
            have hPl : P.length = k := by rw [hP]; simp; omega
            have HT := Lib.hid htk
            have HPL := Lib.hid hPl
            have howr := (HO.out).own
            obtain ⟨R, hR1, hRo, hRs, hRn⟩ := (HO.out).push carriedRow (show rowR (fun b => w.heap.size < b ∧ b < w5.heap.size) wr [.slice x1 y1' z1'] y.bytes from ⟨_, rfl, hbyr⟩) rfl (by decide) (fun b' _ hb' => ⟨hb', fun e => by have := (howr b' e).1; have := hb'.2; have := HBLS.out.size; omega⟩) 25
            have hle : (P.length + [y.bytes].length) * 24 ≤ 140737488355328 := by rw [hPl]; simp; omega
            have hlen : P.length + [y.bytes].length = k + 1 := by rw [hPl]; rfl
            have hbase : wr1.heap.size ≤ (wr.alloc (.cells [.slice x1 y1' z1'].toArray 25)).drew.heap.size := by simp; omega
            have hX : ∀ w2 : World, (wr.alloc (.cells [.slice x1 y1' z1'].toArray 25)).drew.grownBy w2 (Value.slice a1 k c1).ownBlock → RwSt wr1 w2 (w5.heap.size + 1) (.slice na N2 nc) (.slice a1 k c1) ∧ (∀ b o u, wr.cell? ⟨b, o, none⟩ = some u → b < w5.heap.size + 1 → w2.cell? ⟨b, o, none⟩ = some u) := by
              intro w2 hg
              have hsz3 := hg.size
              simp only [World.size_drew, World.size_alloc] at hsz3
              have hblk : ∀ b, b < wr.heap.size → (∀ g, (Value.slice a1 k c1).ownBlock = some g → b ≠ g) → w2.heap[b]? = wr.heap[b]? := fun b hb hne => by
                rw [hg.block b (by simp; omega) (fun e => hne b e.symm rfl)]
                exact Below.heap_alloc _ _ _ hb
              refine ⟨⟨(hblk _ hszb (fun g hg e => by have := (howr g hg).1; omega)).trans HBOX.out, ⟨hg.os.trans HS.out.chg.os, hg.tape.trans HS.out.chg.tape, hg.output.trans HS.out.chg.output, by omega, fun j hj hn => ?_⟩⟩, fun b o u hc hb => ?_⟩
              · exact (hblk j (by omega) (fun g hg e => by have := (howr g hg).1; omega)).trans (HS.out.chg.block j hj hn)
              · exact (cell_same (hblk b (by omega) (fun g hg e => by have := (howr g hg).1; omega))).trans hc
            have hRn' : ∀ v' W2, OwnAt W2 wr1.heap.size 25 1 R v' (P ++ [y.bytes]) → (wr.alloc (.cells [.slice x1 y1' z1'].toArray 25)).drew.grownBy W2 (Value.slice a1 k c1).ownBlock → Moved (wr.alloc (.cells [.slice x1 y1' z1'].toArray 25)).drew (.slice a1 k c1) v' → OwnList rowR (fun b => w.heap.size < b ∧ b < w5.heap.size) wr1.heap.size W2 25 1 v' (P ++ [y.bytes]) :=
              fun v' W2 ho hg hm => hRn v' W2 ho ⟨hg.os, hg.tape, hg.output, hg.size, hg.block⟩ hm
            have HX := Lib.hid hX
            have HRN := Lib.hid hRn'
            have HRO := Lib.hid hRo.drew'
            have HRS := Lib.hid (hRs.drew' (by decide))
            have HR1 := Lib.hid hR1
            have HLE := Lib.hid hlen
            obtain ⟨bx0, bx1⟩ := cells2 HBOX.out
            have fq := frozen_of_row wr (w5.heap.size + 1) 1 _ _ HBOX.out
            have hne1 : b ≠ w5.heap.size + 1 := by omega
            have hne2 : b2 ≠ w5.heap.size + 1 := by omega
            have HKX := Lib.hid hxk
            have HKG := Lib.hid hgk
            have HKC := Lib.hid hcell
            clear htk hP hPl hX hRn hRn' hRo hRs hR1 howr hlen git hby hbyr g0 g1 g2 hy hN hsz2
            have hk0 : (0 : Int) ≤ (k : Int) := by omega
            have hk1 : (k : Int) < (N4 : Int) := by omega
            go_wp2
            go_region_law (refine step_append_at rfl (.tmp 61) (.tmp 71) 22 rfl wr1.heap.size 25 i0r (.slice none 0 0) 1 24 underlyingRows hi hz0 hz1 hz2 rfl (by decide) (by decide) HR1.out (.slice a1 k c1) P (by simp [Act.eval]) HRO.out (.slice (some ⟨wr.heap.size, 0, none⟩) 1 1) [y.bytes] (fun _ => True) (by simp [Act.eval]) HRS.out Nat.one_pos hle hbase (k + 1) HLE.out ?_; intro g cap w2 ho hg hm; have hx2 := HX.out _ hg; obtain ⟨r0, r1⟩ := cells2 hx2.1.box; have fr := frozen_of_row w2 (w5.heap.size + 1) 1 _ _ hx2.1.box; have r2 := hx2.2 _ _ _ HKX.out (by omega); have r3 := hx2.2 _ _ _ HKG.out (by omega); have r4 := hx2.2 _ _ _ HKC.out (by omega))
            all_goals
              have hOn := HRN.out _ _ ho hg hm
              have hown := hOn.own
              have hszw := hg.size
              simp only [World.size_drew, World.size_alloc] at hszw
              have hOs : Hid (OwnList rowR (fun b => w.heap.size < b ∧ b < w5.heap.size) wr1.heap.size (w2.setCell ⟨w5.heap.size + 1, 1, none⟩ (.slice (some ⟨g, 0, none⟩) (k + 1) cap)) 25 1 (.slice (some ⟨g, 0, none⟩) (k + 1) cap) ((l1.take (k + 1)).map It.bytes)) := by
                rw [HT.out]
                exact hOn.carry carriedRow (by simp) (fun b' hb' _ => Below.heap_setCell _ _ _ _ (by have := hb'.2; show b' ≠ w5.heap.size + 1; omega)) (fun g' hg' => Below.heap_setCell _ _ _ _ (by have := (hown g' hg').1; show g' ≠ w5.heap.size + 1; omega))
              have hSs : Hid (RwSt wr1 (w2.setCell ⟨w5.heap.size + 1, 1, none⟩ (.slice (some ⟨g, 0, none⟩) (k + 1) cap)) (w5.heap.size + 1) (.slice na N2 nc) (.slice (some ⟨g, 0, none⟩) (k + 1) cap)) :=
                Lib.hid ⟨blk_setCell hx2.1.box, hx2.1.chg.atb _⟩
              clear hOn hown ho hg hm hx2 r0 r1 r2 r3 r4 fr hszw
              go_wp2
              go_roundw
              case rel => exact ⟨k + 1, _, _, by omega, num_eq (by omega), hOs, hSs⟩
              case measure => simp [intOf]; omega
          · obtain rfl : N4 = k := by omega
            have hO := HO.out
            rw [List.take_of_length_le (by omega)] at hO
            obtain ⟨ca, rfl⟩ : ∃ x, x = a1 := ⟨_, rfl⟩
            obtain ⟨cc, rfl⟩ : ∃ x, x = c1 := ⟨_, rfl⟩
            have hrows := hO.at carriedRow (G' := fun b => w.heap.size < b) (fun b h _ => h.1) (fun b h _ => by omega) (by decide)
            have hC2 : RowsAt (fun b => w.heap.size < b) wr (.slice ca N4 cc) (l1.map It.bytes) := hrows
            have hN2' : RowsAt (fun b => w.heap.size < b) wr (.slice na N2 nc) (l0.map It.bytes) := RowsAt.carry HNODES.out (fun b _ hb => hb.1) (fun b hb hlt => HS.out.chg.block b hlt hb.2)
            have hbelr : Below w5.heap.size w5 wr := HBLS.out.trans (HS.out.chg.toBelowAt (by omega) (fun k hk e => by omega))
            have hbelw : Below w.heap.size w wr := HBL.out.trans (hbelr.mono (by omega))
            obtain ⟨E, hE⟩ : ∃ E, E = witEncode (l0.map It.bytes) (l1.map It.bytes) := ⟨_, rfl⟩
            have hcall := rwencode_any _ wr na ca N2 nc N4 cc (l0.map It.bytes) (l1.map It.bytes) hN2' hC2 (by have := HL0.out.1; rw [List.length_map]; omega) (by have := HL0.out.2.1; rw [List.length_map]; omega) (fun x hx => by have := HL0.out.2.2.1 x hx; omega) (fun x hx => by have := HL0.out.2.2.2 x hx; omega) (by have := HWP.out; omega)
            have hwd := HWD.out
            rw [← hE] at hcall hwd
            obtain ⟨P0, hP0⟩ : ∃ P, P = l0.map It.bytes := ⟨_, rfl⟩
            obtain ⟨P1, hP1⟩ : ∃ P, P = l1.map It.bytes := ⟨_, rfl⟩
            rw [← hP0] at hN2' hwd
            rw [← hP1] at hC2 hwd
            obtain ⟨bx0, bx1⟩ := cells2 HBOX.out
            have HCALL := Lib.hid hcall
            have HWD2 := Lib.hid hwd
            have HNR := Lib.hid hN2'
            have HCR := Lib.hid hC2
            have HBELR := Lib.hid hbelr
            have HBELW := Lib.hid hbelw
            clear hO hrows hC2 hN2' hbelr hbelw hE hcall hwd hP0 hP1 hN hlt
            go_wp2_with fail
            refine HCALL.out.mono ?_
            rintro e w6 ⟨v6, rfl, ho6, hb6⟩
            obtain ⟨x6, z6, rfl, -, -, -⟩ := ho6.len
            have hat6 := ho6.at (F := fun _ => True) (fun _ _ _ _ => trivial) (by decide)
            have hbel6 := HBELW.out.trans (hb6.mono HBELW.out.size)
            have hbr6 := (hb6.block w.heap.size (by omega)).trans ((HBELR.out.block w.heap.size h0).trans HB5.out)
            have hbw6 := (hb6.block (w5.heap.size + 1) hszb).trans HBOX.out
            have s1 := run_string_at (P := Try.prog) hat6 25 5 9 Try.underlying25 Try.underlying5 Try.underlying9
            have s2 := run_string_at (P := Try.prog) (BytesAt.below HIN.out hbel6) 25 5 9 Try.underlying25 Try.underlying5 Try.underlying9
            have HBEL6 := Lib.hid hbel6
            have HBR6 := Lib.hid hbr6
            have HNR6 := Lib.hid (RowsAt.below HNR.out hb6)
            have HCR6 := Lib.hid (RowsAt.below HCR.out hb6)
            clear bx0 bx1
            obtain ⟨bx0, bx1⟩ := cells2 hbw6
            obtain ⟨q0, q1⟩ := cells2 hbr6
            have f0 := frozen_of_row w6 w.heap.size 0 _ _ hbr6
            have f1 := frozen_of_row w6 w.heap.size 1 _ _ hbr6
            have hlt6 : w.heap.size < w6.heap.size := (Array.getElem?_eq_some_iff.1 hbr6).1
            obtain ⟨cs, code⟩ := E
            clear ho6 hat6 hbel6 hbr6 hbw6 hb6 hxk hgk
            by_cases hok : code = 0 ∧ cs = bs
            · obtain ⟨rfl, rfl⟩ := hok
              have hfin : refDecode cs = (P0, P1, 0) := by rw [HWD2.out, if_pos rfl]
              have HF := Lib.hid hfin
              clear hfin
              go_wp2_with fail
              have hbx := box2 HBR6.out (.slice na N2 nc) (.slice ca N4 cc)
              obtain ⟨W, hW⟩ : ∃ W, W = (w6.setCell ⟨w.heap.size, 0, none⟩ (.slice na N2 nc)).setCell ⟨w.heap.size, 1, none⟩ (.slice ca N4 cc) := ⟨_, rfl⟩
              rw [← hW] at hbx ⊢
              obtain ⟨r0, r1⟩ := cells2 hbx.at_
              refine bodyPost_ret (v := .tuple #[.agg #[.slice na N2 nc, .slice ca N4 cc], .int .i64 ((0 : Nat) : Int)]) (by simp [results, Try.results17, go_sem, r0, r1]) rfl ?_
              rw [HF.out]
              exact ⟨na, N2, nc, ca, N4, cc, rfl, RowsAt.carry HNR6.out (fun b _ hb => Nat.le_of_lt hb) (fun b hb _ => hbx.other b (by have : w.heap.size < b := hb; omega)), RowsAt.carry HCR6.out (fun b _ hb => Nat.le_of_lt hb) (fun b hb _ => hbx.other b (by have : w.heap.size < b := hb; omega)), HBEL6.out.trans (hbx.chg.toBelowAt (by omega) (fun k hk e => by omega))⟩
            · have hfin : refDecode bs = ([], [], 210) := by
                rw [HWD2.out, if_neg]
                intro h
                simp only [Prod.mk.injEq] at h
                exact hok ⟨h.2, h.1⟩
              have HF := Lib.hid hfin
              have hcase : (((code : Nat) : Int) != 0) = true ∨ (code = 0 ∧ (cs == bs) = false) := by
                by_cases hc : code = 0
                · exact .inr ⟨hc, by simp; exact fun h => hok ⟨hc, h⟩⟩
                · exact .inl (by simp; omega)
              clear hfin hok
              rcases hcase with h | ⟨rfl, h⟩
              all_goals
                go_wp2_with fail
                have hbx := box2 HBR6.out (.slice none 0 0) (.slice none 0 0)
                obtain ⟨W, hW⟩ : ∃ W, W = (w6.setCell ⟨w.heap.size, 0, none⟩ (.slice none 0 0)).setCell ⟨w.heap.size, 1, none⟩ (.slice none 0 0) := ⟨_, rfl⟩
                rw [← hW] at hbx ⊢
                obtain ⟨r0, r1⟩ := cells2 hbx.at_
                refine bodyPost_ret (v := .tuple #[.agg #[.slice none 0 0, .slice none 0 0], .int .i64 ((210 : Nat) : Int)]) (by simp [results, Try.results17, go_sem, r0, r1]) rfl ?_
                rw [HF.out]
                exact ⟨none, 0, 0, none, 0, 0, rfl, SliceAt.nil _ _ _ _, SliceAt.nil _ _ _ _, HBEL6.out.trans (hbx.chg.toBelowAt (by omega) (fun k hk e => by omega))⟩
  · have hfin : refDecode bs = ([], [], 210) := by
      refine refDecode_no bs e1 x HR.out ?_
      by_cases he : e1 = 0
      · by_cases hy : y3 = 2
        · exact absurd ⟨he, hy⟩ hgood
        · exact .inr (by rw [← HN3.out]; exact hy)
      · exact .inl he
    have HF := Lib.hid hfin
    have hcase : (((e1 : Nat) : Int) != 0) = true ∨ (e1 = 0 ∧ (((y3 : Nat) : Int) != 2) = true) := by
      by_cases he : e1 = 0
      · by_cases hy : y3 = 2
        · exact absurd ⟨he, hy⟩ hgood
        · exact .inr ⟨he, by simp; omega⟩
      · exact .inl (by simp; omega)
    clear hfin hgood
    rcases hcase with h | ⟨rfl, h⟩
    all_goals
      go_wp2_with fail
      have hbx := box2 HB5.out (.slice none 0 0) (.slice none 0 0)
      obtain ⟨W, hW⟩ : ∃ W, W = (w5.setCell ⟨w.heap.size, 0, none⟩ (.slice none 0 0)).setCell ⟨w.heap.size, 1, none⟩ (.slice none 0 0) := ⟨_, rfl⟩
      rw [← hW] at hbx ⊢
      obtain ⟨r0, r1⟩ := cells2 hbx.at_
      have hlw : w.heap.size < W.heap.size := by rw [hbx.size]; exact h0
      refine bodyPost_ret (v := .tuple #[.agg #[.slice none 0 0, .slice none 0 0], .int .i64 ((210 : Nat) : Int)]) (by simp [results, Try.results17, go_sem, r0, r1, hlw]) rfl ?_
      rw [HF.out]
      exact WDecd.bad HBL.out hbx
end Go.Proofs.Ytndkkgkcbbmnpaa
namespace Go.Pg
open Go.RowKit
theorem OwnList.weaken {α : Type} {A : (Nat → Prop) → World → List Value → α → Prop} {G G' : Nat → Prop} {n n' : Nat} {W : World} {e : TypeId} {sz : Nat} {v : Value} {l : List α} (h : OwnList A G n W e sz v l) (hG : ∀ b, G b → G' b) (hn : n' ≤ n) : OwnList A G' n' W e sz v l := by
  obtain ⟨F, h1, h2, h3⟩ := h
  exact ⟨F, fun b hb => ⟨hG b (h1 b hb).1, (h1 b hb).2⟩, h2, h3.lower hn⟩
end Go.Pg
namespace Go.Proofs.Ytndkkgkcbbmnpaa
open Go.RowKit Go.Pg
/-- texts that rise, in a slice of the call's own, or none -/
def ReaddO (F : Nat → Prop) (w : World) (x : It) (e : Ending) (w' : World) : Prop :=
  ∃ v, e = .returned (.tuple #[v, .bool (readOk x)]) ∧ (readOk x = true → OwnList rowR (fun b => F b ∧ b < w.heap.size) (w.heap.size + 1) w' 25 1 v (x.items.map It.bytes)) ∧ Below w.heap.size w w'

set_option maxRecDepth 100000 in
set_option maxHeartbeats 1000000 in
theorem readO_any (F : Nat → Prop) (w : World) (d : Nat) (x : It) (il : Bool) (a1 a2 : Option Addr) (n1 c1 n2 c2 : Nat) (h : ItemAt F w (d + 1) [.bool il, .slice a1 n1 c1, .slice a2 n2 c2] x) (hlen : x.items.length ≤ 1099511627776) :
    Calls Try.prog 48 #[.agg #[.bool il, .slice a1 n1 c1, .slice a2 n2 c2]] w (ReaddO F w x) := by
  obtain ⟨hil, a1', n1', c1', a2', n2', c2', e1, e2, -, hn⟩ := ItemAt.form h
  simp only [Value.slice.injEq] at e1 e2
  obtain ⟨rfl, rfl, rfl⟩ := e1
  obtain ⟨rfl, rfl, rfl⟩ := e2
  have hits := ItemAt.items h
  replace hits : ItemsAt (fun b => F b ∧ b < w.heap.size) w d (.slice a2 n2 c2) x.items := ItemsAt.carry hits (fun b hb hF => ⟨hF, hb⟩) (fun _ _ _ => rfl)
  obtain ⟨l, hl⟩ : ∃ l, l = x.items := ⟨_, rfl⟩
  rw [← hl] at hits hn hlen
  rw [← hn] at hlen
  obtain ⟨i0, hi, hz0, hz1, hz2⟩ := info_parts infoRow
  have HIL := Lib.hid hil
  have HL := Lib.hid hl
  have HN := Lib.hid hn
  have HITS := Lib.hid hits
  clear hil hl hn hits h
  go_enter Try.func48, Try.ntmps48
  go_wp2
  go_loopw [4, 10] (fun s i wr => ∃ k : Nat, k ≤ n2 ∧ i = .int .i64 k ∧ Hid (flat (l.take k) = true) ∧ Hid (OwnList rowR (fun b => F b ∧ b < w.heap.size) (w.heap.size + 1) wr 25 1 s ((l.take k).map It.bytes)) ∧
      Hid (Below w.heap.size w wr ∧ wr.heap[w.heap.size]? = some (.cells #[.bool il, .slice a1 n1 c1, .slice a2 n2 c2] 65 (0, 0)))) (fun _ i _ => n2 - (intOf i).toNat)
  case atStart => exact ⟨0, Nat.zero_le _, rfl, Lib.hid rfl, OwnList.nil, Bel.alloc (Bel.refl w) _, heap_alloc_new w _⟩
  case round =>
    obtain ⟨k, hk, rfl, HFL, HO, HB⟩ := hrel
    have hN := HN.out
    by_cases hlt : k < n2
    · rcases SliceAt.split HITS.out with ⟨_, h0⟩ | ⟨b, o, rfl, -, -, -⟩
      · omega
      have hwr := ItemsAt.below HITS.out HB.out.1
      obtain ⟨x1, y1, z1, x2, y2, z2, g0, g1, g2, git⟩ := ItemsAt.cell hwr k (by omega)
      have htk : (l.take (k + 1)).map It.bytes = (l.take k).map It.bytes ++ [(l[k]'(by omega)).bytes] := by
        rw [List.take_succ_eq_append_getElem (show k < l.length by omega), List.map_append]; rfl
      have hfl := flat_take_succ l k (by omega)
      have hno := flat_no l k (by omega)
      obtain ⟨y, hy⟩ : ∃ y, y = l[k]'(by omega) := ⟨_, rfl⟩
      rw [← hy] at g0 git htk hfl hno
      have HT := Lib.hid htk
      have hby := ItemAt.bytes git
      obtain ⟨q, hq⟩ : ∃ q, q = y.isList := ⟨_, rfl⟩
      rw [← hq] at g0 hfl hno
      obtain ⟨L, hL⟩ : ∃ L, L = (l.take k).map It.bytes := ⟨_, rfl⟩
      rw [← hL] at HO HT
      have hLl : L.length = k := by rw [hL]; simp; omega
      have HLL := Lib.hid hLl
      clear hwr hy htk hL hLl hN git hq
      cases q with
      | true =>
        have HNO := Lib.hid (hno rfl)
        clear hno hfl hby
        go_wp2_with fail
        go_ret2
        have hr : readOk x = false := by unfold readOk; rw [← HL.out, HNO.out]; rfl
        exact ⟨.slice none 0 0, by rw [hr]; rfl, (fun h => by rw [hr] at h; cases h), HB.out.1.alloc HB.out.1.size _⟩
      | false =>
        have HFL1 : Hid (flat (l.take (k + 1)) = true) := Lib.hid (by rw [hfl, HFL.out]; rfl)
        have hsw := (Array.getElem?_eq_some_iff.1 HB.out.2).1
        have howr := (HO.out).own
        have HB1 : Hid (Below w.heap.size w (wr.alloc (.cells #[.bool false, .slice x1 y1 z1, .slice x2 y2 z2] 65)) ∧ (wr.alloc (.cells #[.bool false, .slice x1 y1 z1, .slice x2 y2 z2] 65)).heap[w.heap.size]? = some (.cells #[.bool il, .slice a1 n1 c1, .slice (some ⟨b, o, none⟩) n2 c2] 65 (0, 0))) :=
          Lib.hid ⟨Bel.alloc HB.out.1 _, (Below.heap_alloc _ _ _ hsw).trans HB.out.2⟩
        have hO1 := (HO.out).call carriedRow (Bel.alloc (Bel.refl wr) (.cells #[.bool false, .slice x1 y1 z1, .slice x2 y2 z2] 65))
        have hrow : rowR (fun b => F b ∧ b < w.heap.size) (wr.alloc (.cells #[.bool false, .slice x1 y1 z1, .slice x2 y2 z2] 65)) [.slice x1 y1 z1] y.bytes := ⟨_, rfl, BytesAt.below hby (Bel.alloc (Bel.refl wr) _)⟩
        obtain ⟨R, hR1, hRo, hRs, hRn⟩ := hO1.push carriedRow hrow rfl (by decide) (fun b' _ hb' => ⟨hb', fun e => by have := (howr b' e).1; have := hb'.2; omega⟩) 25
        have hle : (L.length + [y.bytes].length) * 24 ≤ 140737488355328 := by rw [HLL.out]; simp; omega
        have hbase : w.heap.size + 1 ≤ ((wr.alloc (.cells #[.bool false, .slice x1 y1 z1, .slice x2 y2 z2] 65)).alloc (.cells [.slice x1 y1 z1].toArray 25)).heap.size := by simp; omega
        simp only [World.size_alloc] at hRs
        have HRN := Lib.hid hRn
        have HRO := Lib.hid hRo
        have HRS := Lib.hid hRs
        have HR1 := Lib.hid hR1
        clear hRn hO1 howr hRo hRs hR1 hrow hno hfl hby
        go_wp2_with (at_builtin; refine wpList_append_at rfl (.tmp 16) (.tmp 19) 22 rfl (w.heap.size + 1) 25 i0 (.slice none 0 0) 1 24 underlyingRows hi hz0 hz1 hz2 rfl (by decide) (by decide) HR1.out _ L rfl HRO.out _ [y.bytes] (fun _ => True) rfl HRS.out hle hbase ?_; intro v' w2 ho hg hm)
        have HOn := Lib.hid (HRN.out _ _ ho hg hm)
        have hown := (HRO.out).own
        have HB2 : Hid (Below w.heap.size w w2 ∧ w2.heap[w.heap.size]? = some (.cells #[.bool il, .slice a1 n1 c1, .slice (some ⟨b, o, none⟩) n2 c2] 65 (0, 0))) := by
          have hb1 := HB1.out.1
          have hbx := HB1.out.2
          have hlt' := (Array.getElem?_eq_some_iff.1 hbx).1
          refine ⟨(Bel.alloc hb1 _).grown hg (by simp; omega) (fun k hk => by have := (hown k hk).1; omega), ?_⟩
          rw [hg.block _ (by simp; omega) (fun e => by have := (hown _ e.symm).1; omega), Below.heap_alloc _ _ _ hlt']
          exact hbx
        clear ho hg hm hown
        go_roundw
        case rel => exact ⟨k + 1, by omega, num_eq (by omega), HFL1, by rw [HT.out]; exact HOn.out, HB2.out⟩
        case measure => simp [intOf]; omega
    · obtain rfl : k = n2 := by omega
      have hO := HO.out
      have hfl := HFL.out
      rw [List.take_of_length_le (by omega)] at hO hfl
      have hits := hO.at carriedRow (G' := fun b => F b ∧ b < w.heap.size ∨ w.heap.size + 1 ≤ b) (fun _ h _ => .inl h) (fun b h _ => .inr h) (by decide)
      obtain ⟨va, vc, hvv, -, -, -⟩ := SliceAt.len hits
      have hll : (l.map It.bytes).length ≤ 1152921504606846976 := by simp; omega
      obtain ⟨q0, q1, q2⟩ := cells3 HB.out.2
      have hsw := (Array.getElem?_eq_some_iff.1 HB.out.2).1
      have HFL' := Lib.hid hfl
      have HITS' := Lib.hid hits
      have HOO := Lib.hid hO
      clear hO hfl hits hN hvv
      cases il with
      | false =>
        go_wp2_with fail
        go_ret2
        have hr : readOk x = false := by unfold readOk; rw [← HIL.out]; simp
        exact ⟨_, by rw [hr]; rfl, (fun h => by rw [hr] at h; cases h), HB.out.1⟩
      | true =>
        go_wp2_with fail
        refine (rises_any _ wr _ _ HITS'.out hll).mono ?_
        rintro e w1 ⟨rfl, hb1⟩
        have hr : readOk x = rising (l.map It.bytes) := by unfold readOk; rw [← HIL.out, ← HL.out, HFL'.out]; rfl
        have HR := Lib.hid hr
        have HB1 := Lib.hid hb1
        clear hr hb1
        go_wp2_with fail
        go_ret2
        refine ⟨_, by rw [HR.out]; rfl, fun h => ?_, Bel.call HB.out.1 HB1.out⟩
        rw [← HL.out]
        exact HOO.out.call carriedRow HB1.out

/-- a witness, in slices of the call's own, or an empty one and a fault -/
def WDecdO (w : World) (r : List (List UInt8) × List (List UInt8) × Nat) (e : Ending) (w' : World) : Prop :=
  ∃ N0 a1 n1 c1 a2 n2 c2, e = .returned (.tuple #[.agg #[.slice a1 n1 c1, .slice a2 n2 c2], .int .i64 r.2.2]) ∧ w.heap.size < N0 ∧ OwnList rowR (fun b => w.heap.size ≤ b ∧ b < N0) N0 w' 25 1 (.slice a1 n1 c1) r.1 ∧
    OwnList rowR (fun b => w.heap.size ≤ b ∧ b < N0) N0 w' 25 1 (.slice a2 n2 c2) r.2.1 ∧ Below w.heap.size w w'
theorem WDecdO.bad {w W1 W : World} {o : Obj} (h1 : Below w.heap.size w W1) (hb : Box2 W1 W w.heap.size (.slice none 0 0) (.slice none 0 0) 24) :
    WDecdO w ([], [], 210) (.returned (.tuple #[.agg #[.slice none 0 0, .slice none 0 0], .int .i64 ((210 : Nat) : Int)])) (W.alloc o) :=
  ⟨w.heap.size + 1, none, 0, 0, none, 0, 0, rfl, Nat.lt_succ_self _, OwnList.nil, OwnList.nil, (h1.trans (hb.chg.toBelowAt h1.size (fun k hk e => by omega))).alloc (by rw [hb.size]; exact h1.size) _⟩

set_option maxRecDepth 100000 in
set_option maxHeartbeats 4000000 in
theorem wdecodeO_any (F0 : Nat → Prop) (w : World) (a : Option Addr) (n c : Nat) (bs : List UInt8) (h0 : BytesAt F0 w (.slice a n c) bs) (hn : n ≤ 1099511627776) :
    Calls Try.prog 16 #[.slice a n c] w (WDecdO w (witDecode bs)) := by
  have hnl : n = bs.length := by
    obtain ⟨a', c', hv, h1, -⟩ := h0
    simp only [Value.slice.injEq] at hv
    exact hv.2.1
  obtain ⟨e1, x, hr⟩ : ∃ e1 x, rdWhole bs = (e1, x) := ⟨(rdWhole bs).1, (rdWhole bs).2, rfl⟩
  have hcall := decode_any F0 (w.alloc (.cells #[.slice none 0 0, .slice none 0 0] 24)) a n c bs (BytesAt.below h0 (Bel.alloc (Bel.refl w) _)) (by omega)
  rw [hr] at hcall
  have HC := Lib.hid hcall
  have HR := Lib.hid hr
  have HNL := Lib.hid hnl
  clear h0 hnl hr hcall
  go_enter Try.func16, Try.ntmps16
  go_wp2_with fail
  refine HC.out.mono ?_
  rintro e5 w5 ⟨il, i1, y1, z1, i3, y3, z3, rfl, k1, k2⟩
  have hsz := k2.size
  simp only [World.size_alloc] at hsz
  have h0 : w.heap.size < w5.heap.size := by omega
  have hb5 := (k2.block w.heap.size (by simp)).trans (heap_alloc_new w _)
  have hbel := (Bel.alloc (Bel.refl w) (.cells #[.slice none 0 0, .slice none 0 0] 24)).trans (k2.mono (by simp))
  have HB5 := Lib.hid hb5
  have HBL := Lib.hid hbel
  obtain ⟨hil, a1', n1', c1', a2', n2', c2', e1', e2', -, hn3⟩ := ItemAt.form k1
  simp only [Value.slice.injEq] at e1' e2'
  obtain ⟨rfl, rfl, rfl⟩ := e1'
  obtain ⟨rfl, rfl, rfl⟩ := e2'
  obtain ⟨q0, q1⟩ := cells2 hb5
  have f0 := frozen_of_row w5 w.heap.size 0 _ _ hb5
  have f1 := frozen_of_row w5 w.heap.size 1 _ _ hb5
  have K1 := Lib.hid k1
  have HIL := Lib.hid hil
  have HN3 := Lib.hid hn3
  clear hb5 k1 k2 hsz hbel hil hn3
  by_cases hgood : e1 = 0 ∧ il = true ∧ y3 = 2
  · obtain ⟨rfl, rfl, rfl⟩ := hgood
    obtain ⟨hb, hfit⟩ := rdWhole_sound bs x HR.out
    have hbl : x.whole = n := by rw [← It.enc_length, ← hb]; exact HNL.out.symm
    obtain ⟨i0, i1x, hi⟩ : ∃ i0 i1x, x.items = [i0, i1x] := by
      have := HN3.out
      match x.items, this with
      | [i0, i1x], _ => exact ⟨i0, i1x, rfl⟩
    have hits := ItemAt.items K1.out
    rw [hi] at hits
    replace hits := ItemsAt.carry hits (F' := fun b => (w.alloc (.cells #[.slice none 0 0, .slice none 0 0] 24)).heap.size ≤ b ∧ b < w5.heap.size) (fun b hlt hb => ⟨hb, hlt⟩) (fun _ _ _ => rfl)
    have hl0 : i0.items.length ≤ 1099511627776 ∧ i1x.items.length ≤ 1099511627776 := by
      have h1 := It.body_le_whole x
      have h2 : x.body = It.wholes x.items + x.bytes.length := by rw [It.body_eq]; omega
      rw [hi] at h2
      simp only [It.wholes] at h2
      have h3 := It.body_le_whole i0
      have h4 := It.body_le_whole i1x
      have h5 := It.length_le_wholes i0.items
      have h6 := It.length_le_wholes i1x.items
      have h7 := It.body_eq i0
      have h8 := It.body_eq i1x
      omega
    have hwd := witDecode_pos bs x i0 i1x HR.out HIL.out.symm hi
    have HWD := Lib.hid hwd
    have HI := Lib.hid hi
    have HL0 := Lib.hid hl0
    rcases SliceAt.split hits with ⟨hh, _⟩ | ⟨b, o, rfl, -, -, hfb⟩
    · cases hh
    obtain ⟨A1, N1, C1, A2, N2, C2, g0, g1, g2, git⟩ := ItemsAt.cell hits 0 (by simp)
    obtain ⟨A3, N3, C3, A4, N4, C4, g3, g4, g5, git'⟩ := ItemsAt.cell hits 1 (by simp)
    simp only [Nat.zero_mul, Nat.one_mul, Nat.add_zero, List.getElem_cons_zero, List.getElem_cons_succ] at g0 g1 g2 g3 g4 g5 git git'
    have hblt := cell_lt g0
    have hbne : b ≠ w.heap.size := by
      have h9 : (w.alloc (.cells #[.slice none 0 0, .slice none 0 0] 24)).heap.size ≤ b := hfb.1
      simp only [World.size_alloc] at h9; omega
    obtain ⟨L0, hL0⟩ : ∃ L, L = i0.isList := ⟨_, rfl⟩
    obtain ⟨L1, hL1⟩ : ∃ L, L = i1x.isList := ⟨_, rfl⟩
    rw [← hL0] at g0 git
    rw [← hL1] at g3 git'
    have GIT := Lib.hid git
    have GIT' := Lib.hid git'
    clear hb hfit hbl hits hl0 hwd hi git git' hL0 hL1 hfb
    obtain ⟨W1, hW1⟩ : ∃ W, W = w5.alloc (.cells #[.bool true, .slice i1 y1 z1, .slice (some ⟨b, o, none⟩) 2 z3] 65) := ⟨_, rfl⟩
    have hbw1 : Below w5.heap.size w5 W1 := by rw [hW1]; exact Bel.alloc (Bel.refl w5) _
    have hx1 : W1.heap[w5.heap.size]? = some (.cells #[.bool true, .slice i1 y1 z1, .slice (some ⟨b, o, none⟩) 2 z3] 65 (0, 0)) := by rw [hW1]; exact heap_alloc_new w5 _
    have hs1 : W1.heap.size = w5.heap.size + 1 := by rw [hW1]; simp
    have HW1 := Lib.hid hW1
    have HBW1 := Lib.hid hbw1
    have HX1 := Lib.hid hx1
    have HS1 := Lib.hid hs1
    clear hW1 hbw1 hx1 hs1
    go_wp2_with fail
    rw [← HW1.out]
    refine (readO_any _ W1 7 i0 L0 A1 A2 N1 C1 N2 C2 (ItemAt.below GIT.out HBW1.out) HL0.out.1).mono ?_
    rintro e w2 ⟨v1, rfl, m1, m2⟩
    have hb02 : Below w5.heap.size w5 w2 := HBW1.out.trans (m2.mono HBW1.out.size)
    have p2 := cell_below hb02 g3
    have p3 := cell_below hb02 g4
    have p4 := cell_below hb02 g5
    have hx2 := (m2.block w5.heap.size (by rw [HS1.out]; omega)).trans HX1.out
    obtain ⟨r0, r1, r2⟩ := cells3 hx2
    have HB02 := Lib.hid hb02
    have M1 := Lib.hid m1
    have GIT2 := Lib.hid (ItemAt.below GIT'.out hb02)
    have HBM := Lib.hid m2
    have HSW1 := HS1
    clear m1 m2 hb02 hx2 g0 g1 g2 g3 g4 g5 q0 q1 f0 f1
    go_wp2_with fail
    refine (readO_any _ w2 7 i1x L1 A3 A4 N3 C3 N4 C4 GIT2.out HL0.out.2).mono ?_
    rintro e w3 ⟨v2, rfl, m3, m4⟩
    have hb03 : Below w5.heap.size w5 w3 := HB02.out.trans (m4.mono HB02.out.size)
    have hb3 := (hb03.block w.heap.size h0).trans HB5.out
    obtain ⟨q0, q1⟩ := cells2 hb3
    have f0 := frozen_of_row w3 w.heap.size 0 _ _ hb3
    have f1 := frozen_of_row w3 w.heap.size 1 _ _ hb3
    have hlt3 : w.heap.size < w3.heap.size := Nat.lt_of_lt_of_le h0 hb03.size
    have HB3 := Lib.hid hb3
    have HB03 := Lib.hid (HBL.out.trans (hb03.mono (Nat.le_of_lt h0)))
    have M3 := Lib.hid m3
    have HB34 := Lib.hid m4
    clear m3 m4 hb03 hb3 r0 r1 r2 p2 p3 p4
    obtain ⟨s0, hs0⟩ : ∃ s, s = readOk i0 := ⟨_, rfl⟩
    obtain ⟨s1, hs1⟩ : ∃ s, s = readOk i1x := ⟨_, rfl⟩
    rw [← hs0] at M1 HWD ⊢
    rw [← hs1] at M3 HWD ⊢
    have HS0 := Lib.hid hs0
    have HS1 := Lib.hid hs1
    clear hs0 hs1
    by_cases hok : s0 = true ∧ s1 = true
    · obtain ⟨rfl, rfl⟩ := hok
      obtain ⟨w1a, w1c, hv1, -, -, -⟩ := OwnList.len (M1.out rfl)
      obtain ⟨w2a, w2c, hv2, -, -, -⟩ := OwnList.len (M3.out rfl)
      have M1' := M1.out rfl
      have M3' := M3.out rfl
      obtain ⟨P, hP⟩ : ∃ P, P = i0.items.map It.bytes := ⟨_, rfl⟩
      obtain ⟨Q, hQ⟩ : ∃ P, P = i1x.items.map It.bytes := ⟨_, rfl⟩
      rw [← hP] at hv1 M1'
      rw [← hQ] at hv2 M3'
      have hfin : witDecode bs = (P, Q, 0) := by rw [HWD.out, if_pos ⟨rfl, rfl⟩, hP, hQ]
      have HF := Lib.hid hfin
      subst hv1 hv2
      have N1' := Lib.hid M1'
      have N3' := Lib.hid M3'
      clear hfin hP hQ M1' M3' M1 M3
      go_wp2_with fail
      have hbx := box2 HB3.out (.slice w1a P.length w1c) (.slice w2a Q.length w2c)
      obtain ⟨W, hW⟩ : ∃ W, W = (w3.setCell ⟨w.heap.size, 0, none⟩ (.slice w1a P.length w1c)).setCell ⟨w.heap.size, 1, none⟩ (.slice w2a Q.length w2c) := ⟨_, rfl⟩
      rw [← hW] at hbx ⊢
      obtain ⟨r0, r1⟩ := cells2 hbx.at_
      refine bodyPost_ret (v := .tuple #[.agg #[.slice w1a P.length w1c, .slice w2a Q.length w2c], .int .i64 ((0 : Nat) : Int)]) (by simp [results, Try.results16, go_sem, r0, r1]) rfl ?_
      rw [HF.out]
      have hfar : ∀ b, w.heap.size < b → W.heap[b]? = w3.heap[b]? := fun b hb => hbx.other b (by omega)
      have hs02 := HB02.out.size
      have hs1 := HSW1.out
      have hsW1 : W1.heap.size ≤ w2.heap.size := HBM.out.size
      have h00 : w.heap.size < W1.heap.size := by rw [hs1]; exact Nat.lt_succ_of_lt h0
      refine ⟨W1.heap.size + 1, w1a, P.length, w1c, w2a, Q.length, w2c, rfl, by omega, ?_, ?_, HB03.out.trans (hbx.chg.toBelowAt (by omega) (fun k hk e => by omega))⟩
      · refine OwnList.weaken (OwnList.carry carriedRow (N1'.out.call carriedRow HB34.out) (by rw [hbx.size]; exact Nat.le_refl _) (fun b hb _ => hfar b ?_) (fun k hk => hfar k ?_)) (fun b hb => ?_) (by omega)
        · have h9 := hb.1.1; simp only [World.size_alloc] at h9; omega
        · have := (N1'.out.own k hk).1; omega
        · have h9 := hb.1.1; have := hb.2; simp only [World.size_alloc] at h9; exact ⟨by omega, by omega⟩
      · refine OwnList.weaken (OwnList.carry carriedRow N3'.out (by rw [hbx.size]; exact Nat.le_refl _) (fun b hb _ => hfar b ?_) (fun k hk => hfar k ?_)) (fun b hb => ?_) (by omega)
        · have h9 := hb.1.1; simp only [World.size_alloc] at h9; omega
        · have := (N3'.out.own k hk).1; omega
        · have h9 := hb.1.1; have := hb.1.2; simp only [World.size_alloc] at h9; exact ⟨by omega, by omega⟩
    · have hfin : witDecode bs = ([], [], 210) := by rw [HWD.out, if_neg hok]
      have HF := Lib.hid hfin
      have hcase : s0 = false ∨ (s0 = true ∧ s1 = false) := by
        cases s0
        · exact .inl rfl
        · cases s1
          · exact .inr ⟨rfl, rfl⟩
          · exact absurd ⟨rfl, rfl⟩ hok
      clear hfin hok M1 M3 HWD
      rcases hcase with rfl | ⟨rfl, rfl⟩
      all_goals
        go_wp2_with fail
        have hbx := box2 HB3.out (.slice none 0 0) (.slice none 0 0)
        obtain ⟨W, hW⟩ : ∃ W, W = (w3.setCell ⟨w.heap.size, 0, none⟩ (.slice none 0 0)).setCell ⟨w.heap.size, 1, none⟩ (.slice none 0 0) := ⟨_, rfl⟩
        rw [← hW] at hbx ⊢
        obtain ⟨r0, r1⟩ := cells2 hbx.at_
        refine bodyPost_ret (v := .tuple #[.agg #[.slice none 0 0, .slice none 0 0], .int .i64 ((210 : Nat) : Int)]) (by simp [results, Try.results16, go_sem, r0, r1]) rfl ?_
        rw [HF.out]
        exact ⟨w.heap.size + 1, none, 0, 0, none, 0, 0, rfl, Nat.lt_succ_self _, OwnList.nil, OwnList.nil, HB03.out.trans (hbx.chg.toBelowAt (by omega) (fun k hk e => by omega))⟩
  · have hfin : witDecode bs = ([], [], 210) := by
      refine witDecode_no bs e1 x HR.out ?_
      by_cases he : e1 = 0
      · by_cases hl : il = true
        · by_cases hy : y3 = 2
          · exact absurd ⟨he, hl, hy⟩ hgood
          · exact .inr (.inr (by rw [← HN3.out]; exact hy))
        · exact .inr (.inl (by rw [← HIL.out]; simpa using hl))
      · exact .inl he
    have HF := Lib.hid hfin
    have hcase : (((e1 : Nat) : Int) != 0) = true ∨ (e1 = 0 ∧ il = false) ∨ (e1 = 0 ∧ il = true ∧ (((y3 : Nat) : Int) != 2) = true) := by
      by_cases he : e1 = 0
      · by_cases hl : il = true
        · by_cases hy : y3 = 2
          · exact absurd ⟨he, hl, hy⟩ hgood
          · exact .inr (.inr ⟨he, hl, by simp; omega⟩)
        · exact .inr (.inl ⟨he, by simpa using hl⟩)
      · exact .inl (by simp; omega)
    clear hfin hgood
    rcases hcase with h | ⟨rfl, rfl⟩ | ⟨rfl, rfl, h⟩
    all_goals
      go_wp2_with fail
      have hbx := box2 HB5.out (.slice none 0 0) (.slice none 0 0)
      obtain ⟨W, hW⟩ : ∃ W, W = (w5.setCell ⟨w.heap.size, 0, none⟩ (.slice none 0 0)).setCell ⟨w.heap.size, 1, none⟩ (.slice none 0 0) := ⟨_, rfl⟩
      rw [← hW] at hbx ⊢
      obtain ⟨r0, r1⟩ := cells2 hbx.at_
      have hlw : w.heap.size < W.heap.size := by rw [hbx.size]; exact h0
      refine bodyPost_ret (v := .tuple #[.agg #[.slice none 0 0, .slice none 0 0], .int .i64 ((210 : Nat) : Int)]) (by simp [results, Try.results16, go_sem, r0, r1, hlw]) rfl ?_
      rw [HF.out]
      exact WDecdO.bad HBL.out hbx
end Go.Proofs.Ytndkkgkcbbmnpaa
