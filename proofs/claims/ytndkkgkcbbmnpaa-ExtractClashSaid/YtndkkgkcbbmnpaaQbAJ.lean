/-
  Contract of pergolaref21.Decode.
  Every text of bytes is read as its witness, or refused; what was told is its owner's (the statement WitnessDecodes).
  The frame of a law's proof in the form without a bound on bulk: what the form's own reach gives for an argument that is a slice of bytes.
-/
import Derived.Test.YtndkkgkcbbmnpaaQbAI
import Derived.SizedLaws
namespace Go.Pg
open Go.RowKit
theorem rowsSum_bytes (l : List It) : (l.map fun y => y.bytes.length + 1).sum ≤ 2 * It.wholes l := by
  induction l with
  | nil => simp [It.wholes]
  | cons y r ih =>
    have h1 := It.whole_pos y
    have h2 := It.body_le_whole y
    have h3 := It.body_eq y
    simp only [List.map_cons, List.sum_cons, It.wholes]; omega
theorem sz_small' (n : Nat) (h : n ≤ 1099511627776) : sz n ≤ n + 7 := by
  have := number_le 6 n (by omega)
  unfold sz; split <;> omega
theorem wholes_bytes (l : List It) (h : It.wholes l ≤ 1073741824) : It.wholes ((l.map It.bytes).map .text) ≤ 8 * It.wholes l := by
  induction l with
  | nil => simp [It.wholes]
  | cons y r ih =>
    simp only [It.wholes] at h
    have h1 := It.whole_pos y
    have h2 := It.body_le_whole y
    have h3 := It.body_eq y
    have h4 := ih (by omega)
    have h5 := sz_small' y.bytes.length (by omega)
    have h6 : (It.text y.bytes).whole ≤ y.bytes.length + 7 := by simp only [It.whole]; split <;> omega
    simp only [List.map_cons, It.wholes]; omega
theorem whole_parts (i0 i1 : It) (h : It.wholes [i0, i1] ≤ 1073741824) : (witI (i0.items.map It.bytes) (i1.items.map It.bytes)).whole ≤ 140737488351232 := by
  simp only [It.wholes] at h
  have a0 := It.body_le_whole i0
  have a1 := It.body_le_whole i1
  have b0 := It.body_eq i0
  have b1 := It.body_eq i1
  have c0 := wholes_bytes i0.items (by omega)
  have c1 := wholes_bytes i1.items (by omega)
  have d0 := sz_small' (It.wholes ((i0.items.map It.bytes).map .text)) (by omega)
  have d1 := sz_small' (It.wholes ((i1.items.map It.bytes).map .text)) (by omega)
  have e0 : (textsI (i0.items.map It.bytes)).whole ≤ 8 * It.wholes i0.items + 7 := by unfold textsI; simp only [It.whole]; omega
  have e1 : (textsI (i1.items.map It.bytes)).whole ≤ 8 * It.wholes i1.items + 7 := by unfold textsI; simp only [It.whole]; omega
  have f : It.wholes [textsI (i0.items.map It.bytes), textsI (i1.items.map It.bytes)] = (textsI (i0.items.map It.bytes)).whole + (textsI (i1.items.map It.bytes)).whole := by simp [It.wholes]
  have g := sz_small' (It.wholes [textsI (i0.items.map It.bytes), textsI (i1.items.map It.bytes)]) (by omega)
  unfold witI; simp only [It.whole]; omega
theorem refDecode_pos (bs : List UInt8) (x i0 i1 : It) (h : rdWhole bs = (0, x)) (hi : x.items = [i0, i1]) :
    refDecode bs = if witEncode (i0.items.map It.bytes) (i1.items.map It.bytes) = (bs, 0) then (i0.items.map It.bytes, i1.items.map It.bytes, 0) else ([], [], 210) := by
  unfold refDecode part
  rw [h, hi]
  simp
theorem refDecode_no (bs : List UInt8) (e : Nat) (x : It) (h : rdWhole bs = (e, x)) (hn : e ≠ 0 ∨ x.items.length ≠ 2) : refDecode bs = ([], [], 210) := by
  unfold refDecode
  rw [h, if_neg]
  rintro ⟨h1, h2⟩
  rcases hn with hn | hn
  · exact hn h1
  · exact hn h2
end Go.Pg
namespace Go.Proofs.Ytndkkgkcbbmnpaa
open Go.RowKit Go.Pg

/-- the state of a loop: the witness' box, the rest as it was -/
structure RwSt (Wst wr : World) (wb : Nat) (v0 v1 : Value) : Prop where
  box : wr.heap[wb]? = some (.cells #[v0, v1] 24 (0, 0))
  chg : Chg (fun k => k = wb) Wst wr
theorem RwSt.cell {Wst wr : World} {wb : Nat} {v0 v1 : Value} (h : RwSt Wst wr wb v0 v1) {b o : Nat} {u : Value} (hc : Wst.cell? ⟨b, o, none⟩ = some u) (hne : b ≠ wb) : wr.cell? ⟨b, o, none⟩ = some u :=
  (cell_same (h.chg.block b (cell_lt hc) hne)).trans hc

set_option maxRecDepth 100000 in
set_option maxHeartbeats 8000000 in
theorem rwdecode_any (F0 : Nat → Prop) (w : World) (a : Option Addr) (n c : Nat) (bs : List UInt8) (h0 : BytesAt F0 w (.slice a n c) bs) (hn : n ≤ 140737488351232) :
    Calls Try.prog 17 #[.slice a n c] w (WDecd fresh w (refDecode bs)) := by
  have hnl := (BytesAt.n h0).1
  obtain ⟨e1, x, hr⟩ : ∃ e1 x, rdWhole bs = (e1, x) := ⟨(rdWhole bs).1, (rdWhole bs).2, rfl⟩
  obtain ⟨i0r, hi, hz0, hz1, hz2⟩ := info_parts infoRow
  have hcall := rdecode_any F0 (w.alloc (.cells #[.slice none 0 0, .slice none 0 0] 24)) a n c bs (BytesAt.below h0 (Bel.alloc (Bel.refl w) _)) (by omega)
  rw [hr] at hcall
  have HC := Lib.hid hcall
  have HR := Lib.hid hr
  have HNL := Lib.hid hnl
  have HIN := Lib.hid h0
  clear h0 hnl hr hcall
  go_enter Try.func17, Try.ntmps17
  go_wp2_with fail
  refine HC.out.mono ?_
  rintro e5 w5 ⟨il, i1, y1, z1, i3, y3, z3, rfl, k1, k2⟩
  have hsz := k2.size
  simp only [World.size_alloc] at hsz
  have h0 : w.heap.size < w5.heap.size := by omega
  have hb5 := (k2.block w.heap.size (by simp)).trans (heap_alloc_new w _)
  have hbel := (Bel.alloc (Bel.refl w) (.cells #[.slice none 0 0, .slice none 0 0] 24)).trans (k2.mono (by simp))
  have HB5 := Lib.hid hb5
  have HBL := Lib.hid hbel
  obtain ⟨-, a1', n1', c1', a2', n2', c2', e1', e2', -, hn3⟩ := ItemAt.form k1
  simp only [Value.slice.injEq] at e1' e2'
  obtain ⟨rfl, rfl, rfl⟩ := e1'
  obtain ⟨rfl, rfl, rfl⟩ := e2'
  obtain ⟨q0, q1⟩ := cells2 hb5
  have f0 := frozen_of_row w5 w.heap.size 0 _ _ hb5
  have f1 := frozen_of_row w5 w.heap.size 1 _ _ hb5
  have K1 := Lib.hid k1
  have HN3 := Lib.hid hn3
  clear hb5 k1 k2 hsz hbel hn3
  by_cases hgood : e1 = 0 ∧ y3 = 2
  · obtain ⟨rfl, rfl⟩ := hgood
    obtain ⟨hb, hfit⟩ := rdWhole_sound bs x HR.out
    have hbl : x.whole = n := by rw [← It.enc_length, ← hb]; exact HNL.out.symm
    obtain ⟨i0, i1x, hi2⟩ : ∃ i0 i1x, x.items = [i0, i1x] := by
      have := HN3.out
      match x.items, this with
      | [i0, i1x], _ => exact ⟨i0, i1x, rfl⟩
    have hits := ItemAt.items K1.out
    rw [hi2] at hits
    have hwl : It.wholes [i0, i1x] ≤ 16777216 := by
      have h1 := fits_body hfit
      have h2 : x.body = It.wholes x.items + x.bytes.length := by rw [It.body_eq]; omega
      rw [hi2] at h2
      omega
    have hwp := whole_parts i0 i1x (by omega)
    have hl0 : i0.items.length ≤ 16777216 ∧ i1x.items.length ≤ 16777216 ∧ (∀ y ∈ i0.items.map It.bytes, y.length ≤ 16777216) ∧ (∀ y ∈ i1x.items.map It.bytes, y.length ≤ 16777216) := by
      simp only [It.wholes] at hwl
      have h3 := It.body_le_whole i0
      have h4 := It.body_le_whole i1x
      have h5 := It.length_le_wholes i0.items
      have h6 := It.length_le_wholes i1x.items
      have h7 := It.body_eq i0
      have h8 := It.body_eq i1x
      refine ⟨by omega, by omega, fun y hy => ?_, fun y hy => ?_⟩
      · obtain ⟨z, hz, rfl⟩ := List.mem_map.1 hy
        have g1 := whole_le_wholes _ z hz
        have g2 := It.body_le_whole z
        have g3 := It.body_eq z
        omega
      · obtain ⟨z, hz, rfl⟩ := List.mem_map.1 hy
        have g1 := whole_le_wholes _ z hz
        have g2 := It.body_le_whole z
        have g3 := It.body_eq z
        omega
    have hwd := refDecode_pos bs x i0 i1x HR.out hi2
    have HWD := Lib.hid hwd
    have HL0 := Lib.hid hl0
    have HWP := Lib.hid hwp
    rcases SliceAt.split hits with ⟨hh, _⟩ | ⟨b, o, rfl, -, -, hfb⟩
    · cases hh
    obtain ⟨A1, N1, C1, A2, N2, C2, g0, g1, g2, git⟩ := ItemsAt.cell hits 0 (by simp)
    obtain ⟨A3, N3, C3, A4, N4, C4, g3, g4, g5, git'⟩ := ItemsAt.cell hits 1 (by simp)
    simp only [Nat.zero_mul, Nat.one_mul, Nat.add_zero, List.getElem_cons_zero, List.getElem_cons_succ] at g0 g1 g2 g3 g4 g5 git git'
    have hblt := cell_lt g0
    have hits0 : ItemsAt (fun b => w.heap.size < b ∧ b < w5.heap.size) w5 7 (.slice A2 N2 C2) i0.items :=
      ItemsAt.carry (ItemAt.items git) (fun b hlt hb => ⟨by have h9 : (w.alloc (.cells #[.slice none 0 0, .slice none 0 0] 24)).heap.size ≤ b := hb; simp only [World.size_alloc] at h9; omega, hlt⟩) (fun _ _ _ => rfl)
    have hits1 : ItemsAt (fun b => w.heap.size < b ∧ b < w5.heap.size) w5 7 (.slice A4 N4 C4) i1x.items :=
      ItemsAt.carry (ItemAt.items git') (fun b hlt hb => ⟨by have h9 : (w.alloc (.cells #[.slice none 0 0, .slice none 0 0] 24)).heap.size ≤ b := hb; simp only [World.size_alloc] at h9; omega, hlt⟩) (fun _ _ _ => rfl)
    have hN2 : N2 = i0.items.length := by
      obtain ⟨-, x1, x2, x3, x4, x5, x6, -, e, -, h⟩ := ItemAt.form git
      simp only [Value.slice.injEq] at e
      omega
    have hN4 : N4 = i1x.items.length := by
      obtain ⟨-, x1, x2, x3, x4, x5, x6, -, e, -, h⟩ := ItemAt.form git'
      simp only [Value.slice.injEq] at e
      omega
    obtain ⟨l0, hl0'⟩ : ∃ l, l = i0.items := ⟨_, rfl⟩
    obtain ⟨l1, hl1'⟩ : ∃ l, l = i1x.items := ⟨_, rfl⟩
    rw [← hl0'] at hits0 hN2 HWD HL0 HWP
    rw [← hl1'] at hits1 hN4 HWD HL0 HWP
    have hN2b : N2 ≤ 16777216 := by have := HL0.out.1; omega
    have hN4b : N4 ≤ 16777216 := by have := HL0.out.2.1; omega
    have HI0 := Lib.hid hits0
    have HI1 := Lib.hid hits1
    have HN2 := Lib.hid hN2
    have HN4 := Lib.hid hN4
    have G2 := Lib.hid g2
    have G5 := Lib.hid g5
    obtain ⟨W1, hW1⟩ : ∃ W, W = (w5.alloc (.cells #[.bool il, .slice i1 y1 z1, .slice (some ⟨b, o, none⟩) 2 z3] 65)).alloc (.cells #[.slice none 0 0, .slice none 0 0] 24) := ⟨_, rfl⟩
    have hbw1 : Below w5.heap.size w5 W1 := by rw [hW1]; exact Bel.alloc (Bel.alloc (Bel.refl w5) _) _
    have hx1 : W1.heap[w5.heap.size]? = some (.cells #[.bool il, .slice i1 y1 z1, .slice (some ⟨b, o, none⟩) 2 z3] 65 (0, 0)) := by
      rw [hW1]; exact (Below.heap_alloc _ _ _ (by simp)).trans (heap_alloc_new w5 _)
    have hwb1 : W1.heap[w5.heap.size + 1]? = some (.cells #[.slice none 0 0, .slice none 0 0] 24 (0, 0)) := by
      rw [hW1]
      have := heap_alloc_new (w5.alloc (.cells #[.bool il, .slice i1 y1 z1, .slice (some ⟨b, o, none⟩) 2 z3] 65)) (.cells #[.slice none 0 0, .slice none 0 0] 24)
      simpa using this
    have hs1 : W1.heap.size = w5.heap.size + 2 := by rw [hW1]; simp
    have HW1 := Lib.hid hW1
    have HBW1 := Lib.hid hbw1
    have HX1 := Lib.hid hx1
    have HS1 := Lib.hid hs1
    have HR0 : Hid (RwSt W1 W1 (w5.heap.size + 1) (.slice none 0 0) (.slice none 0 0)) := Lib.hid ⟨hwb1, Chg.refl _ _⟩
    clear hb hfit hbl hi2 hits hwl hwp hl0 hwd g0 g1 g2 g3 g4 g5 git git' hfb hits0 hits1 hN2 hN4 hl0' hl1' hbw1 hx1 hwb1 hs1 hW1 q0 q1 f0 f1
    go_wp2_with fail
    rw [← HW1.out]
    have HXS : Hid (W1.heap[w5.heap.size]? = some (.cells #[.bool il, .slice i1 y1 z1, .slice (some ⟨b, o, none⟩) 2 z3] 65 (0, 0))) := HX1
    have HCS0 : Hid (W1.cell? ⟨b, o + 2, none⟩ = some (.slice A2 N2 C2)) := Lib.hid ((HBW1.out.cell (p := ⟨b, o + 2, none⟩) hblt).trans G2.out)
    have HBLS := HBW1
    have hszS := HS1.out

    go_loopw [7] (fun i wr => ∃ (k : Nat) (a1 : Option Addr) (c1 : Nat), k ≤ N2 ∧ i = .int .i64 k ∧ Hid (OwnList rowR (fun b => w.heap.size < b ∧ b < w5.heap.size) (w5.heap.size + 2) wr 25 1 (.slice a1 k c1) ((l0.take k).map It.bytes)) ∧
        Hid (RwSt W1 wr (w5.heap.size + 1) (.slice a1 k c1) (.slice none 0 0))) (fun i _ => N2 - (intOf i).toNat)
    case atStart => exact ⟨0, none, 0, Nat.zero_le _, rfl, Lib.hid OwnList.nil, HR0⟩
    case round =>
      obtain ⟨k, a1, c1, hk, rfl, HO, HS⟩ := hrel
      have hN := HN2.out

      have hxk := HS.out.cell (cells3 HXS.out).2.2 (by omega)
      have hgk := HS.out.cell (HCS0.out) (by omega)
      have HBOX := Lib.hid HS.out.box
      have hsz2 := HS.out.chg.size
      have hszb := (Array.getElem?_eq_some_iff.1 HS.out.box).1
      by_cases hlt : k < N2
      · rcases SliceAt.split HI0.out with ⟨_, h00⟩ | ⟨b2, o2, rfl, -, -, hF2⟩
        · omega
        have hb2 : b2 < w5.heap.size := hF2.2
        obtain ⟨x1, y1', z1', x2, y2, z2, g0, g1, g2, git⟩ := ItemsAt.cell HI0.out k (by omega)
        have htk : (l0.take (k + 1)).map It.bytes = (l0.take k).map It.bytes ++ [(l0[k]'(by omega)).bytes] := by
          rw [List.take_succ_eq_append_getElem (show k < l0.length by omega), List.map_append]; rfl
        have hby := ItemAt.bytes git
        obtain ⟨y, hy⟩ : ∃ y, y = l0[k]'(by omega) := ⟨_, rfl⟩
        rw [← hy] at htk hby
        have hcell := HS.out.cell (HBLS.out.cell (p := ⟨b2, o2 + k * 3 + 1, none⟩) hb2 |>.trans g1) (by omega)
        have hbyr : BytesAt (fun b => w.heap.size < b ∧ b < w5.heap.size) wr (.slice x1 y1' z1') y.bytes := hby.carry (fun _ _ x => x) (fun b hb _ => (HS.out.chg.block b (by have := HBLS.out.size; omega) (by omega)).trans (HBLS.out.block b hb.2))
        obtain ⟨P, hP⟩ : ∃ L, L = (l0.take k).map It.bytes := ⟨_, rfl⟩
        rw [← hP] at HO htk
        have hPl : P.length = k := by rw [hP]; simp; omega
        have HT := Lib.hid htk
        have HPL := Lib.hid hPl
        have howr := (HO.out).own
        obtain ⟨R, hR1, hRo, hRs, hRn⟩ := (HO.out).push carriedRow (show rowR (fun b => w.heap.size < b ∧ b < w5.heap.size) wr [.slice x1 y1' z1'] y.bytes from ⟨_, rfl, hbyr⟩) rfl (by decide) (fun b' _ hb' => ⟨hb', fun e => by have := (howr b' e).1; have := hb'.2; have := HBLS.out.size; omega⟩) 25
        have hle : (P.length + [y.bytes].length) * 24 ≤ 140737488355328 := by rw [hPl]; simp; omega
        have hlen : P.length + [y.bytes].length = k + 1 := by rw [hPl]; rfl
        have hbase : (w5.heap.size + 2) ≤ (wr.alloc (.cells [.slice x1 y1' z1'].toArray 25)).drew.heap.size := by simp; omega
        have hX : ∀ w2 : World, (wr.alloc (.cells [.slice x1 y1' z1'].toArray 25)).drew.grownBy w2 (Value.slice a1 k c1).ownBlock → RwSt W1 w2 (w5.heap.size + 1) (.slice a1 k c1) (.slice none 0 0) ∧ (∀ b o u, wr.cell? ⟨b, o, none⟩ = some u → b < w5.heap.size + 1 → w2.cell? ⟨b, o, none⟩ = some u) := by
          intro w2 hg
          have hsz3 := hg.size
          simp only [World.size_drew, World.size_alloc] at hsz3
          have hblk : ∀ b, b < wr.heap.size → (∀ g, (Value.slice a1 k c1).ownBlock = some g → b ≠ g) → w2.heap[b]? = wr.heap[b]? := fun b hb hne => by
            rw [hg.block b (by simp; omega) (fun e => hne b e.symm rfl)]
            exact Below.heap_alloc _ _ _ hb
          refine ⟨⟨(hblk _ hszb (fun g hg e => by have := (howr g hg).1; omega)).trans HBOX.out, ⟨hg.os.trans HS.out.chg.os, hg.tape.trans HS.out.chg.tape, hg.output.trans HS.out.chg.output, by omega, fun j hj hn => ?_⟩⟩, fun b o u hc hb => ?_⟩
          · exact (hblk j (by omega) (fun g hg e => by have := (howr g hg).1; omega)).trans (HS.out.chg.block j hj hn)
          · exact (cell_same (hblk b (by omega) (fun g hg e => by have := (howr g hg).1; omega))).trans hc
        have hRn' : ∀ v' W2, OwnAt W2 (w5.heap.size + 2) 25 1 R v' (P ++ [y.bytes]) → (wr.alloc (.cells [.slice x1 y1' z1'].toArray 25)).drew.grownBy W2 (Value.slice a1 k c1).ownBlock → Moved (wr.alloc (.cells [.slice x1 y1' z1'].toArray 25)).drew (.slice a1 k c1) v' → OwnList rowR (fun b => w.heap.size < b ∧ b < w5.heap.size) (w5.heap.size + 2) W2 25 1 v' (P ++ [y.bytes]) :=
          fun v' W2 ho hg hm => hRn v' W2 ho ⟨hg.os, hg.tape, hg.output, hg.size, hg.block⟩ hm
        have HX := Lib.hid hX
        have HRN := Lib.hid hRn'
        have HRO := Lib.hid hRo.drew'
        have HRS := Lib.hid (hRs.drew' (by decide))
        have HR1 := Lib.hid hR1
        have HLE := Lib.hid hlen
        obtain ⟨bx0, bx1⟩ := cells2 HBOX.out
        have fq := frozen_of_row wr (w5.heap.size + 1) 0 _ _ HBOX.out
        have hne1 : b ≠ w5.heap.size + 1 := by omega
        have hne2 : b2 ≠ w5.heap.size + 1 := by omega
        have HKX := Lib.hid hxk
        have HKG := Lib.hid hgk
        have HKC := Lib.hid hcell
        clear htk hP hPl hX hRn hRn' hRo hRs hR1 howr hlen git hby hbyr g0 g1 g2 hy hN hsz2
        have hk0 : (0 : Int) ≤ (k : Int) := by omega
        have hk1 : (k : Int) < (N2 : Int) := by omega
        go_wp2
        go_region_law (refine step_append_at rfl (.tmp 37) (.tmp 47) 22 rfl (w5.heap.size + 2) 25 i0r (.slice none 0 0) 1 24 underlyingRows hi hz0 hz1 hz2 rfl (by decide) (by decide) HR1.out (.slice a1 k c1) P (by simp [Act.eval]) HRO.out (.slice (some ⟨wr.heap.size, 0, none⟩) 1 1) [y.bytes] (fun _ => True) (by simp [Act.eval]) HRS.out Nat.one_pos hle hbase (k + 1) HLE.out ?_; intro g cap w2 ho hg hm; have hx2 := HX.out _ hg; obtain ⟨r0, r1⟩ := cells2 hx2.1.box; have fr := frozen_of_row w2 (w5.heap.size + 1) 0 _ _ hx2.1.box; have r2 := hx2.2 _ _ _ HKX.out (by omega); have r3 := hx2.2 _ _ _ HKG.out (by omega); have r4 := hx2.2 _ _ _ HKC.out (by omega))
        all_goals
          have hOn := HRN.out _ _ ho hg hm
          have hown := hOn.own
          have hszw := hg.size
          simp only [World.size_drew, World.size_alloc] at hszw
          have hOs : Hid (OwnList rowR (fun b => w.heap.size < b ∧ b < w5.heap.size) (w5.heap.size + 2) (w2.setCell ⟨w5.heap.size + 1, 0, none⟩ (.slice (some ⟨g, 0, none⟩) (k + 1) cap)) 25 1 (.slice (some ⟨g, 0, none⟩) (k + 1) cap) ((l0.take (k + 1)).map It.bytes)) := by
            rw [HT.out]
            exact hOn.carry carriedRow (by simp) (fun b' hb' _ => Below.heap_setCell _ _ _ _ (by have := hb'.2; show b' ≠ w5.heap.size + 1; omega)) (fun g' hg' => Below.heap_setCell _ _ _ _ (by have := (hown g' hg').1; show g' ≠ w5.heap.size + 1; omega))
          have hSs : Hid (RwSt W1 (w2.setCell ⟨w5.heap.size + 1, 0, none⟩ (.slice (some ⟨g, 0, none⟩) (k + 1) cap)) (w5.heap.size + 1) (.slice (some ⟨g, 0, none⟩) (k + 1) cap) (.slice none 0 0)) :=
            Lib.hid ⟨blk_setCell hx2.1.box, hx2.1.chg.atb _⟩
          clear hOn hown ho hg hm hx2 r0 r1 r2 r3 r4 fr hszw
          go_wp2
          go_roundw
          case rel => exact ⟨k + 1, _, _, by omega, num_eq (by omega), hOs, hSs⟩
          case measure => simp [intOf]; omega
      · obtain rfl : N2 = k := by omega
        have hO := HO.out
        rw [List.take_of_length_le (by omega)] at hO
        obtain ⟨wr1, rfl⟩ : ∃ W, W = wr := ⟨_, rfl⟩
        obtain ⟨na, rfl⟩ : ∃ x, x = a1 := ⟨_, rfl⟩
        obtain ⟨nc, rfl⟩ : ∃ x, x = c1 := ⟨_, rfl⟩
        have hrows := hO.at carriedRow (G' := fun b => w.heap.size < b ∧ b ≠ w5.heap.size + 1) (fun b h _ => ⟨h.1, by have := h.2; omega⟩) (fun b h _ => ⟨by omega, by omega⟩) (by decide)
        have HNODES := Lib.hid (show RowsAt (fun b => w.heap.size < b ∧ b ≠ w5.heap.size + 1) wr1 (.slice na N2 nc) (l0.map It.bytes) from hrows)
        have HR1S : Hid (RwSt wr1 wr1 (w5.heap.size + 1) (.slice na N2 nc) (.slice none 0 0)) := Lib.hid ⟨HS.out.box, Chg.refl _ _⟩
        have HXS : Hid (wr1.heap[w5.heap.size]? = some (.cells #[.bool il, .slice i1 y1 z1, .slice (some ⟨b, o, none⟩) 2 z3] 65 (0, 0))) := Lib.hid ((HS.out.chg.block _ (by omega) (by omega)).trans HX1.out)
        have HCS1 : Hid (wr1.cell? ⟨b, o + 3 + 2, none⟩ = some (.slice A4 N4 C4)) := Lib.hid (HS.out.cell ((HBW1.out.cell (p := ⟨b, o + 3 + 2, none⟩) hblt).trans G5.out) (by omega))
        have HBLS : Hid (Below w5.heap.size w5 wr1) := Lib.hid (HBW1.out.trans (HS.out.chg.toBelowAt (by omega) (fun k hk e => by omega)))
        have hszS : w5.heap.size + 2 ≤ wr1.heap.size := by omega
        have hxk1 := (cells3 HXS.out).2.2
        have hc51 := HCS1.out
        clear hO hrows hN HBOX hsz2 hszb HO hlt
        go_wp2
        clear hxk1 hc51 hxk hgk HS

        go_loopw [8] (fun i wr => ∃ (k : Nat) (a1 : Option Addr) (c1 : Nat), k ≤ N4 ∧ i = .int .i64 k ∧ Hid (OwnList rowR (fun b => w.heap.size < b ∧ b < w5.heap.size) wr1.heap.size wr 25 1 (.slice a1 k c1) ((l1.take k).map It.bytes)) ∧
            Hid (RwSt wr1 wr (w5.heap.size + 1) (.slice na N2 nc) (.slice a1 k c1))) (fun i _ => N4 - (intOf i).toNat)
        case atStart => exact ⟨0, none, 0, Nat.zero_le _, rfl, Lib.hid OwnList.nil, HR1S⟩
        case round =>
          obtain ⟨k, a1, c1, hk, rfl, HO, HS⟩ := hrel
          have hN := HN4.out

          have hxk := HS.out.cell (cells3 HXS.out).2.2 (by omega)
          have hgk := HS.out.cell (HCS1.out) (by omega)
          have HBOX := Lib.hid HS.out.box
          have hsz2 := HS.out.chg.size
          have hszb := (Array.getElem?_eq_some_iff.1 HS.out.box).1
          by_cases hlt : k < N4
          · rcases SliceAt.split HI1.out with ⟨_, h00⟩ | ⟨b2, o2, rfl, -, -, hF2⟩
            · omega
            have hb2 : b2 < w5.heap.size := hF2.2
            obtain ⟨x1, y1', z1', x2, y2, z2, g0, g1, g2, git⟩ := ItemsAt.cell HI1.out k (by omega)
            have htk : (l1.take (k + 1)).map It.bytes = (l1.take k).map It.bytes ++ [(l1[k]'(by omega)).bytes] := by
              rw [List.take_succ_eq_append_getElem (show k < l1.length by omega), List.map_append]; rfl
            have hby := ItemAt.bytes git
            obtain ⟨y, hy⟩ : ∃ y, y = l1[k]'(by omega) := ⟨_, rfl⟩
            rw [← hy] at htk hby
            have hcell := HS.out.cell (HBLS.out.cell (p := ⟨b2, o2 + k * 3 + 1, none⟩) hb2 |>.trans g1) (by omega)
            have hbyr : BytesAt (fun b => w.heap.size < b ∧ b < w5.heap.size) wr (.slice x1 y1' z1') y.bytes := hby.carry (fun _ _ x => x) (fun b hb _ => (HS.out.chg.block b (by have := HBLS.out.size; omega) (by omega)).trans (HBLS.out.block b hb.2))
            obtain ⟨P, hP⟩ : ∃ L, L = (l1.take k).map It.bytes := ⟨_, rfl⟩
            rw [← hP] at HO htk
            have hPl : P.length = k := by rw [hP]; simp; omega
            have HT := Lib.hid htk
            have HPL := Lib.hid hPl
            have howr := (HO.out).own
            obtain ⟨R, hR1, hRo, hRs, hRn⟩ := (HO.out).push carriedRow (show rowR (fun b => w.heap.size < b ∧ b < w5.heap.size) wr [.slice x1 y1' z1'] y.bytes from ⟨_, rfl, hbyr⟩) rfl (by decide) (fun b' _ hb' => ⟨hb', fun e => by have := (howr b' e).1; have := hb'.2; have := HBLS.out.size; omega⟩) 25
            have hle : (P.length + [y.bytes].length) * 24 ≤ 140737488355328 := by rw [hPl]; simp; omega
            have hlen : P.length + [y.bytes].length = k + 1 := by rw [hPl]; rfl
            have hbase : wr1.heap.size ≤ (wr.alloc (.cells [.slice x1 y1' z1'].toArray 25)).drew.heap.size := by simp; omega
            have hX : ∀ w2 : World, (wr.alloc (.cells [.slice x1 y1' z1'].toArray 25)).drew.grownBy w2 (Value.slice a1 k c1).ownBlock → RwSt wr1 w2 (w5.heap.size + 1) (.slice na N2 nc) (.slice a1 k c1) ∧ (∀ b o u, wr.cell? ⟨b, o, none⟩ = some u → b < w5.heap.size + 1 → w2.cell? ⟨b, o, none⟩ = some u) := by
              intro w2 hg
              have hsz3 := hg.size
              simp only [World.size_drew, World.size_alloc] at hsz3
              have hblk : ∀ b, b < wr.heap.size → (∀ g, (Value.slice a1 k c1).ownBlock = some g → b ≠ g) → w2.heap[b]? = wr.heap[b]? := fun b hb hne => by
                rw [hg.block b (by simp; omega) (fun e => hne b e.symm rfl)]
                exact Below.heap_alloc _ _ _ hb
              refine ⟨⟨(hblk _ hszb (fun g hg e => by have := (howr g hg).1; omega)).trans HBOX.out, ⟨hg.os.trans HS.out.chg.os, hg.tape.trans HS.out.chg.tape, hg.output.trans HS.out.chg.output, by omega, fun j hj hn => ?_⟩⟩, fun b o u hc hb => ?_⟩
              · exact (hblk j (by omega) (fun g hg e => by have := (howr g hg).1; omega)).trans (HS.out.chg.block j hj hn)
              · exact (cell_same (hblk b (by omega) (fun g hg e => by have := (howr g hg).1; omega))).trans hc
            have hRn' : ∀ v' W2, OwnAt W2 wr1.heap.size 25 1 R v' (P ++ [y.bytes]) → (wr.alloc (.cells [.slice x1 y1' z1'].toArray 25)).drew.grownBy W2 (Value.slice a1 k c1).ownBlock → Moved (wr.alloc (.cells [.slice x1 y1' z1'].toArray 25)).drew (.slice a1 k c1) v' → OwnList rowR (fun b => w.heap.size < b ∧ b < w5.heap.size) wr1.heap.size W2 25 1 v' (P ++ [y.bytes]) :=
              fun v' W2 ho hg hm => hRn v' W2 ho ⟨hg.os, hg.tape, hg.output, hg.size, hg.block⟩ hm
            have HX := Lib.hid hX
            have HRN := Lib.hid hRn'
            have HRO := Lib.hid hRo.drew'
            have HRS := Lib.hid (hRs.drew' (by decide))
            have HR1 := Lib.hid hR1
            have HLE := Lib.hid hlen
            obtain ⟨bx0, bx1⟩ := cells2 HBOX.out
            have fq := frozen_of_row wr (w5.heap.size + 1) 1 _ _ HBOX.out
            have hne1 : b ≠ w5.heap.size + 1 := by omega
            have hne2 : b2 ≠ w5.heap.size + 1 := by omega
            have HKX := Lib.hid hxk
            have HKG := Lib.hid hgk
            have HKC := Lib.hid hcell
            clear htk hP hPl hX hRn hRn' hRo hRs hR1 howr hlen git hby hbyr g0 g1 g2 hy hN hsz2
            have hk0 : (0 : Int) ≤ (k : Int) := by omega
            have hk1 : (k : Int) < (N4 : Int) := by omega
            go_wp2
            go_region_law (refine step_append_at rfl (.tmp 61) (.tmp 71) 22 rfl wr1.heap.size 25 i0r (.slice none 0 0) 1 24 underlyingRows hi hz0 hz1 hz2 rfl (by decide) (by decide) HR1.out (.slice a1 k c1) P (by simp [Act.eval]) HRO.out (.slice (some ⟨wr.heap.size, 0, none⟩) 1 1) [y.bytes] (fun _ => True) (by simp [Act.eval]) HRS.out Nat.one_pos hle hbase (k + 1) HLE.out ?_; intro g cap w2 ho hg hm; have hx2 := HX.out _ hg; obtain ⟨r0, r1⟩ := cells2 hx2.1.box; have fr := frozen_of_row w2 (w5.heap.size + 1) 1 _ _ hx2.1.box; have r2 := hx2.2 _ _ _ HKX.out (by omega); have r3 := hx2.2 _ _ _ HKG.out (by omega); have r4 := hx2.2 _ _ _ HKC.out (by omega))
            all_goals
              have hOn := HRN.out _ _ ho hg hm
              have hown := hOn.own
              have hszw := hg.size
              simp only [World.size_drew, World.size_alloc] at hszw
              have hOs : Hid (OwnList rowR (fun b => w.heap.size < b ∧ b < w5.heap.size) wr1.heap.size (w2.setCell ⟨w5.heap.size + 1, 1, none⟩ (.slice (some ⟨g, 0, none⟩) (k + 1) cap)) 25 1 (.slice (some ⟨g, 0, none⟩) (k + 1) cap) ((l1.take (k + 1)).map It.bytes)) := by
                rw [HT.out]
                exact hOn.carry carriedRow (by simp) (fun b' hb' _ => Below.heap_setCell _ _ _ _ (by have := hb'.2; show b' ≠ w5.heap.size + 1; omega)) (fun g' hg' => Below.heap_setCell _ _ _ _ (by have := (hown g' hg').1; show g' ≠ w5.heap.size + 1; omega))
              have hSs : Hid (RwSt wr1 (w2.setCell ⟨w5.heap.size + 1, 1, none⟩ (.slice (some ⟨g, 0, none⟩) (k + 1) cap)) (w5.heap.size + 1) (.slice na N2 nc) (.slice (some ⟨g, 0, none⟩) (k + 1) cap)) :=
                Lib.hid ⟨blk_setCell hx2.1.box, hx2.1.chg.atb _⟩
              clear hOn hown ho hg hm hx2 r0 r1 r2 r3 r4 fr hszw
              go_wp2
              go_roundw
              case rel => exact ⟨k + 1, _, _, by omega, num_eq (by omega), hOs, hSs⟩
              case measure => simp [intOf]; omega
          · obtain rfl : N4 = k := by omega
            have hO := HO.out
            rw [List.take_of_length_le (by omega)] at hO
            obtain ⟨ca, rfl⟩ : ∃ x, x = a1 := ⟨_, rfl⟩
            obtain ⟨cc, rfl⟩ : ∃ x, x = c1 := ⟨_, rfl⟩
            have hrows := hO.at carriedRow (G' := fun b => w.heap.size < b) (fun b h _ => h.1) (fun b h _ => by omega) (by decide)
            have hC2 : RowsAt (fun b => w.heap.size < b) wr (.slice ca N4 cc) (l1.map It.bytes) := hrows
            have hN2' : RowsAt (fun b => w.heap.size < b) wr (.slice na N2 nc) (l0.map It.bytes) := RowsAt.carry HNODES.out (fun b _ hb => hb.1) (fun b hb hlt => HS.out.chg.block b hlt hb.2)
            have hbelr : Below w5.heap.size w5 wr := HBLS.out.trans (HS.out.chg.toBelowAt (by omega) (fun k hk e => by omega))
            have hbelw : Below w.heap.size w wr := HBL.out.trans (hbelr.mono (by omega))
            obtain ⟨E, hE⟩ : ∃ E, E = witEncode (l0.map It.bytes) (l1.map It.bytes) := ⟨_, rfl⟩
            have hcall := rwencode_any _ wr na ca N2 nc N4 cc (l0.map It.bytes) (l1.map It.bytes) hN2' hC2 (by have := HL0.out.1; rw [List.length_map]; omega) (by have := HL0.out.2.1; rw [List.length_map]; omega) (fun x hx => by have := HL0.out.2.2.1 x hx; omega) (fun x hx => by have := HL0.out.2.2.2 x hx; omega) (by have := HWP.out; omega)
            have hwd := HWD.out
            rw [← hE] at hcall hwd
            obtain ⟨P0, hP0⟩ : ∃ P, P = l0.map It.bytes := ⟨_, rfl⟩
            obtain ⟨P1, hP1⟩ : ∃ P, P = l1.map It.bytes := ⟨_, rfl⟩
            rw [← hP0] at hN2' hwd
            rw [← hP1] at hC2 hwd
            obtain ⟨bx0, bx1⟩ := cells2 HBOX.out
            have HCALL := Lib.hid hcall
            have HWD2 := Lib.hid hwd
            have HNR := Lib.hid hN2'
            have HCR := Lib.hid hC2
            have HBELR := Lib.hid hbelr
            have HBELW := Lib.hid hbelw
            clear hO hrows hC2 hN2' hbelr hbelw hE hcall hwd hP0 hP1 hN hlt
            go_wp2_with fail
            refine HCALL.out.mono ?_
            rintro e w6 ⟨v6, rfl, ho6, hb6⟩
            obtain ⟨x6, z6, rfl, -, -, -⟩ := ho6.len
            have hat6 := ho6.at (F := fun _ => True) (fun _ _ _ _ => trivial) (by decide)
            have hbel6 := HBELW.out.trans (hb6.mono HBELW.out.size)
            have hbr6 := (hb6.block w.heap.size (by omega)).trans ((HBELR.out.block w.heap.size h0).trans HB5.out)
            have hbw6 := (hb6.block (w5.heap.size + 1) hszb).trans HBOX.out
            have s1 := run_string_at (P := Try.prog) hat6 25 5 9 Try.underlying25 Try.underlying5 Try.underlying9
            have s2 := run_string_at (P := Try.prog) (BytesAt.below HIN.out hbel6) 25 5 9 Try.underlying25 Try.underlying5 Try.underlying9
            have HBEL6 := Lib.hid hbel6
            have HBR6 := Lib.hid hbr6
            have HNR6 := Lib.hid (RowsAt.below HNR.out hb6)
            have HCR6 := Lib.hid (RowsAt.below HCR.out hb6)
            clear bx0 bx1
            obtain ⟨bx0, bx1⟩ := cells2 hbw6
            obtain ⟨q0, q1⟩ := cells2 hbr6
            have f0 := frozen_of_row w6 w.heap.size 0 _ _ hbr6
            have f1 := frozen_of_row w6 w.heap.size 1 _ _ hbr6
            have hlt6 : w.heap.size < w6.heap.size := (Array.getElem?_eq_some_iff.1 hbr6).1
            obtain ⟨cs, code⟩ := E
            clear ho6 hat6 hbel6 hbr6 hbw6 hb6 hxk hgk
            by_cases hok : code = 0 ∧ cs = bs
            · obtain ⟨rfl, rfl⟩ := hok
              have hfin : refDecode cs = (P0, P1, 0) := by rw [HWD2.out, if_pos rfl]
              have HF := Lib.hid hfin
              clear hfin
              go_wp2_with fail
              have hbx := box2 HBR6.out (.slice na N2 nc) (.slice ca N4 cc)
              obtain ⟨W, hW⟩ : ∃ W, W = (w6.setCell ⟨w.heap.size, 0, none⟩ (.slice na N2 nc)).setCell ⟨w.heap.size, 1, none⟩ (.slice ca N4 cc) := ⟨_, rfl⟩
              rw [← hW] at hbx ⊢
              obtain ⟨r0, r1⟩ := cells2 hbx.at_
              refine bodyPost_ret (v := .tuple #[.agg #[.slice na N2 nc, .slice ca N4 cc], .int .i64 ((0 : Nat) : Int)]) (by simp [results, Try.results17, go_sem, r0, r1]) rfl ?_
              rw [HF.out]
              exact ⟨na, N2, nc, ca, N4, cc, rfl, RowsAt.carry HNR6.out (fun b _ hb => Nat.le_of_lt hb) (fun b hb _ => hbx.other b (by have : w.heap.size < b := hb; omega)), RowsAt.carry HCR6.out (fun b _ hb => Nat.le_of_lt hb) (fun b hb _ => hbx.other b (by have : w.heap.size < b := hb; omega)), HBEL6.out.trans (hbx.chg.toBelowAt (by omega) (fun k hk e => by omega))⟩
            · have hfin : refDecode bs = ([], [], 210) := by
                rw [HWD2.out, if_neg]
                intro h
                simp only [Prod.mk.injEq] at h
                exact hok ⟨h.2, h.1⟩
              have HF := Lib.hid hfin
              have hcase : (((code : Nat) : Int) != 0) = true ∨ (code = 0 ∧ (cs == bs) = false) := by
                by_cases hc : code = 0
                · exact .inr ⟨hc, by simp; exact fun h => hok ⟨hc, h⟩⟩
                · exact .inl (by simp; omega)
              clear hfin hok
              rcases hcase with h | ⟨rfl, h⟩
              all_goals
                go_wp2_with fail
                have hbx := box2 HBR6.out (.slice none 0 0) (.slice none 0 0)
                obtain ⟨W, hW⟩ : ∃ W, W = (w6.setCell ⟨w.heap.size, 0, none⟩ (.slice none 0 0)).setCell ⟨w.heap.size, 1, none⟩ (.slice none 0 0) := ⟨_, rfl⟩
                rw [← hW] at hbx ⊢
                obtain ⟨r0, r1⟩ := cells2 hbx.at_
                refine bodyPost_ret (v := .tuple #[.agg #[.slice none 0 0, .slice none 0 0], .int .i64 ((210 : Nat) : Int)]) (by simp [results, Try.results17, go_sem, r0, r1]) rfl ?_
                rw [HF.out]
                exact ⟨none, 0, 0, none, 0, 0, rfl, SliceAt.nil _ _ _ _, SliceAt.nil _ _ _ _, HBEL6.out.trans (hbx.chg.toBelowAt (by omega) (fun k hk e => by omega))⟩
  · have hfin : refDecode bs = ([], [], 210) := by
      refine refDecode_no bs e1 x HR.out ?_
      by_cases he : e1 = 0
      · by_cases hy : y3 = 2
        · exact absurd ⟨he, hy⟩ hgood
        · exact .inr (by rw [← HN3.out]; exact hy)
      · exact .inl he
    have HF := Lib.hid hfin
    have hcase : (((e1 : Nat) : Int) != 0) = true ∨ (e1 = 0 ∧ (((y3 : Nat) : Int) != 2) = true) := by
      by_cases he : e1 = 0
      · by_cases hy : y3 = 2
        · exact absurd ⟨he, hy⟩ hgood
        · exact .inr ⟨he, by simp; omega⟩
      · exact .inl (by simp; omega)
    clear hfin hgood
    rcases hcase with h | ⟨rfl, h⟩
    all_goals
      go_wp2_with fail
      have hbx := box2 HB5.out (.slice none 0 0) (.slice none 0 0)
      obtain ⟨W, hW⟩ : ∃ W, W = (w5.setCell ⟨w.heap.size, 0, none⟩ (.slice none 0 0)).setCell ⟨w.heap.size, 1, none⟩ (.slice none 0 0) := ⟨_, rfl⟩
      rw [← hW] at hbx ⊢
      obtain ⟨r0, r1⟩ := cells2 hbx.at_
      have hlw : w.heap.size < W.heap.size := by rw [hbx.size]; exact h0
      refine bodyPost_ret (v := .tuple #[.agg #[.slice none 0 0, .slice none 0 0], .int .i64 ((210 : Nat) : Int)]) (by simp [results, Try.results17, go_sem, r0, r1, hlw]) rfl ?_
      rw [HF.out]
      exact WDecd.bad HBL.out hbx
end Go.Proofs.Ytndkkgkcbbmnpaa
namespace Go.Pg
open Go.RowKit
/-- bytes of some blocks have been written over; all else is as it was -/
structure Spoilt (W wr : World) (lo hi : Nat) : Prop where
  os : wr.os = W.os
  tape : wr.tape = W.tape
  output : wr.output = W.output
  size : wr.heap.size = W.heap.size
  blk : ∀ b, ¬ (lo ≤ b ∧ b < hi) → wr.heap[b]? = W.heap[b]?
  cell : ∀ b o u, W.cell? ⟨b, o, none⟩ = some u → (∃ n m, u = .int .u8 n ∧ wr.cell? ⟨b, o, none⟩ = some (.int .u8 m)) ∨ wr.cell? ⟨b, o, none⟩ = some u
  frz : ∀ b o, W.frozen? ⟨b, o, none⟩ = false → wr.frozen? ⟨b, o, none⟩ = false
theorem Spoilt.refl (W : World) (lo hi : Nat) : Spoilt W W lo hi := ⟨rfl, rfl, rfl, rfl, fun _ _ => rfl, fun _ _ _ h => .inr h, fun _ _ h => h⟩
theorem Spoilt.byte {W wr : World} {lo hi b o : Nat} {n : Int} (h : Spoilt W wr lo hi) (hc : W.cell? ⟨b, o, none⟩ = some (.int .u8 n)) : ∃ m, wr.cell? ⟨b, o, none⟩ = some (.int .u8 m) := by
  rcases h.cell b o _ hc with ⟨_, m, _, h⟩ | h
  · exact ⟨m, h⟩
  · exact ⟨n, h⟩
theorem Spoilt.slice {W wr : World} {lo hi b o : Nat} {a : Option Addr} {n c : Nat} (h : Spoilt W wr lo hi) (hc : W.cell? ⟨b, o, none⟩ = some (.slice a n c)) : wr.cell? ⟨b, o, none⟩ = some (.slice a n c) := by
  rcases h.cell b o _ hc with ⟨_, m, h, _⟩ | h
  · cases h
  · exact h
theorem Spoilt.below {W wr : World} {lo hi : Nat} (h : Spoilt W wr lo hi) : Below lo W wr := ⟨h.os, h.tape, h.output, Nat.le_of_eq h.size.symm, fun k hk => h.blk k (by omega)⟩
theorem Spoilt.store {W wr : World} {lo hi b o : Nat} {n v : Int} (h : Spoilt W wr lo hi) (hb : lo ≤ b ∧ b < hi) (hc : W.cell? ⟨b, o, none⟩ = some (.int .u8 n)) : Spoilt W (wr.setCell ⟨b, o, none⟩ (.int .u8 v)) lo hi := by
  refine ⟨h.os, h.tape, h.output, by rw [← h.size]; simp [World.setCell], fun k hk => ?_, fun b' o' u hu => ?_, fun b' o' hf => ?_⟩
  · rw [Below.heap_setCell _ _ _ _ (by show k ≠ b; omega)]; exact h.blk k hk
  · by_cases he : b' = b ∧ o' = o
    · obtain ⟨rfl, rfl⟩ := he
      rw [hc] at hu
      simp only [Option.some.injEq] at hu
      subst hu
      obtain ⟨m, hm⟩ := h.byte hc
      exact .inl ⟨n, v, rfl, World.cell?_setCell_same _ _ _ hm⟩
    · have hne : (⟨b, o, none⟩ : Addr) ≠ ⟨b', o', none⟩ := fun e => he (by simp only [Addr.mk.injEq, and_true] at e; exact ⟨e.1.symm, e.2.symm⟩)
      rw [World.cell?_setCell_other _ _ _ _ hne]
      exact h.cell b' o' u hu
  · rw [World.frozen?_setCell]; exact h.frz b' o' hf
end Go.Pg
namespace Go.Proofs.Ytndkkgkcbbmnpaa
open Go.ChangeShapes Go.WideShapes Go.ChangeAt Go.RowKit Go.Pg

set_option maxRecDepth 100000 in
set_option maxHeartbeats 4000000 in
theorem decodes_walk (w : World) (ab : Option Addr) (nb cb : Nat) (B : List UInt8) (hB : BytesAt (fun b => b < w.heap.size) w (.slice ab nb cb) B) (hBl : B.length ≤ 140737488351232) :
    Calls Try.prog 4 #[.slice ab nb cb] w fun e w' => e = .returned (.bool true) ∧ Below w.heap.size w w' := by
  have hnb := (BytesAt.n hB).1
  obtain ⟨N, C, d, hD⟩ := triple (witDecode B)
  have hRD := refDecode_eq B
  rw [hD] at hRD
  have hNl : N.length ≤ 140737488351232 ∧ C.length ≤ 140737488351232 := by
    rcases witDecode_cases B with ⟨N2, C2, h⟩ | h
    · rw [hD] at h; simp only [Prod.mk.injEq] at h
      obtain ⟨rfl, rfl, rfl⟩ := h
      obtain ⟨-, h2, h3, -⟩ := witDecode_small B _ _ hD
      exact ⟨by omega, by omega⟩
    · rw [hD] at h; simp only [Prod.mk.injEq] at h
      obtain ⟨rfl, rfl, -⟩ := h
      simp
  obtain ⟨i0, hi, hz0, hz1, hz2⟩ := info_parts infoU8
  have hown : OwnAt (w.alloc (.cells #[] 5)) w.heap.size 5 1 byteR (.slice (some ⟨w.heap.size, 0, none⟩) 0 0) ([] : List UInt8) :=
    ⟨[], World.ownsRow_made w #[] 0 (Nat.le_refl _) (by decide) rfl, Rows.nil _ _⟩
  have hsrc : BytesAt (fun b => b < w.heap.size) (w.alloc (.cells #[] 5)) (.slice ab nb cb) B := BytesAt.below hB (Bel.alloc (Bel.refl w) _)
  have hle : (([] : List UInt8).length + B.length) * 1 ≤ 140737488355328 := by simp; omega
  have hbase : w.heap.size ≤ (w.alloc (.cells #[] 5)).heap.size := by simp
  have HB := Lib.hid hB
  have HD := Lib.hid hD
  have HRD := Lib.hid hRD
  have HNL := Lib.hid hNl
  have HNB := Lib.hid hnb
  clear hB hD hRD hNl hnb
  go_enter Try.func4, Try.ntmps4
  go_wp2_with (at_builtin; refine wpList_append_at rfl (.tmp 12) (.tmp 13) 25 rfl w.heap.size 5 i0 (.int .u8 0) 1 1 underlying25 hi hz0 hz1 hz2 rfl (by decide) (by decide) byteR.one (.slice (some ⟨w.heap.size, 0, none⟩) 0 0) [] rfl hown _ B (fun b => b < w.heap.size) rfl hsrc hle hbase ?next)
  case next =>
  intro v2 w2 ho hg hm
  obtain ⟨ag, cg, hv2, -, -, -⟩ := ho.len
  have hbg : Below w.heap.size w w2 := (Bel.alloc (Bel.refl w) _).grown hg hbase (fun k hk => (hown.own k hk).1)
  have hgv := ho.at (F := fun _ => True) (fun _ _ _ _ => trivial) (by decide)
  obtain ⟨mg, hmg⟩ : ∃ m, m = B.length := ⟨_, rfl⟩
  subst hv2
  rw [← hmg] at hgv ⊢
  have HG := Lib.hid hgv
  have HBG := Lib.hid hbg
  have hmgl : mg ≤ 140737488351232 := by omega
  have hnbl : nb ≤ 140737488351232 := by have := HNB.out; omega
  clear ho hg hm hgv hbg hown hsrc hle hbase hmg
  go_wp2_with fail
  refine (wdecode_any (fun _ => True) w2 ag mg cg B HG.out (by omega)).mono ?_
  rintro e w3 ⟨a5, n5, c5, a6, n6, c6, he, g1, g2, hb3⟩
  rw [HD.out] at he g1 g2
  subst he
  have hbx3 : Below w3.heap.size w3 (w3.alloc (.cells #[.slice a5 n5 c5, .slice a6 n6 c6] 24)) := Bel.alloc (Bel.refl w3) _
  have hrow1 : RowsAt (fun b => w2.heap.size ≤ b ∧ b < w3.heap.size) w3 (.slice a5 n5 c5) N := RowsAt.carry g1 (fun b hlt hb => ⟨hb, hlt⟩) (fun _ _ _ => rfl)
  have hrow2 : RowsAt (fun b => w2.heap.size ≤ b ∧ b < w3.heap.size) w3 (.slice a6 n6 c6) C := RowsAt.carry g2 (fun b hlt hb => ⟨hb, hlt⟩) (fun _ _ _ => rfl)
  obtain ⟨W3, hW3⟩ : ∃ W, W = w3.alloc (.cells #[.slice a5 n5 c5, .slice a6 n6 c6] 24) := ⟨_, rfl⟩
  have hk3 : W3.heap[w3.heap.size]? = some (.cells #[.slice a5 n5 c5, .slice a6 n6 c6] 24 (0, 0)) := by rw [hW3]; exact heap_alloc_new w3 _
  rw [← hW3] at hbx3
  have hbw3 : Below w.heap.size w W3 := Bel.call (Bel.call HBG.out hb3) hbx3
  have hs3 := hb3.size
  have hsW3 : W3.heap.size = w3.heap.size + 1 := by rw [hW3]; simp
  have HW3 := Lib.hid hW3
  have HROW1 := Lib.hid (RowsAt.below hrow1 hbx3)
  have HROW2 := Lib.hid (RowsAt.below hrow2 hbx3)
  have HK3 := Lib.hid hk3
  have HBW3 := Lib.hid hbw3
  have HG3 := Lib.hid (BytesAt.carry (BytesAt.below (BytesAt.below HG.out hb3) hbx3) (F' := fun _ => True) (fun _ _ x => x) (fun _ _ _ => rfl))
  have HGA : Hid (BytesAt (fun b => b < w2.heap.size) W3 (.slice ag mg cg) B) := Lib.hid (BytesAt.carry HG.out (fun b hlt _ => hlt) (fun b _ hlt => (hbx3.block b (by omega)).trans (hb3.block b hlt)))
  have HSW3 := Lib.hid hsW3
  clear g1 g2 hb3 hbx3 hrow1 hrow2 hW3 hk3 hbw3 hsW3
  go_wp2_with fail
  rw [← HW3.out]
  refine (rwdecode_any (fun b => b < w.heap.size) W3 ab nb cb B (BytesAt.below HB.out HBW3.out) hnbl).mono ?_
  rintro e w4 ⟨a7, n7, c7, a8, n8, c8, he, g3, g4, hb4⟩
  rw [HRD.out] at he g3 g4
  subst he
  obtain ⟨W4, hW4⟩ : ∃ W, W = w4.alloc (.cells #[.slice a7 n7 c7, .slice a8 n8 c8] 24) := ⟨_, rfl⟩
  have hbx4 : Below w4.heap.size w4 W4 := by rw [hW4]; exact Bel.alloc (Bel.refl w4) _
  have hk4 : W4.heap[w4.heap.size]? = some (.cells #[.slice a7 n7 c7, .slice a8 n8 c8] 24 (0, 0)) := by rw [hW4]; exact heap_alloc_new w4 _
  have hb34 : Below W3.heap.size W3 W4 := hb4.trans (hbx4.mono hb4.size)
  have hs4 := hb34.size
  have hlt4 : w4.heap.size < W4.heap.size := by rw [hW4]; simp
  have hs34 := hb4.size
  have HW4 := Lib.hid hW4
  have HK4 := Lib.hid hk4
  have HB34 := Lib.hid hb34
  have HROW3 : Hid (RowsAt (fun b => w3.heap.size < b) W4 (.slice a7 n7 c7) N) := Lib.hid (RowsAt.below (RowsAt.carry g3 (fun b _ hb => by have h9 : W3.heap.size ≤ b := hb; rw [HSW3.out] at h9; show w3.heap.size < b; omega) (fun _ _ _ => rfl)) hbx4)
  have HROW4 : Hid (RowsAt (fun b => w3.heap.size < b) W4 (.slice a8 n8 c8) C) := Lib.hid (RowsAt.below (RowsAt.carry g4 (fun b _ hb => by have h9 : W3.heap.size ≤ b := hb; rw [HSW3.out] at h9; show w3.heap.size < b; omega) (fun _ _ _ => rfl)) hbx4)
  clear g3 g4 hb4 hbx4 hW4 hk4 hb34
  go_wp2_with fail
  rw [← HW4.out]
  refine (alive_any W4).mono ?_
  rintro e w5 ⟨rfl, hb5⟩
  have hb35 := HB34.out.trans (hb5.mono HB34.out.size)
  have hk53 := (hb35.block w3.heap.size (by rw [HSW3.out]; omega)).trans HK3.out
  have hk54 := (hb5.block w4.heap.size hlt4).trans HK4.out
  obtain ⟨p0, p1⟩ := cells2 hk53
  obtain ⟨q0, q1⟩ := cells2 hk54
  have HB35 := Lib.hid hb35
  have HB45 := Lib.hid hb5
  have HK53 := Lib.hid hk53
  have HK54 := Lib.hid hk54
  clear hb5 hb35 hk53 hk54
  go_wp2_with fail
  refine (same_any _ _ _ _ _ _ _ _ _ _ _ _ _ _ _ N C N C (RowsAt.below HROW1.out HB35.out) (RowsAt.below HROW2.out HB35.out) (RowsAt.below HROW3.out HB45.out) (RowsAt.below HROW4.out HB45.out) (by have := HNL.out.1; omega) (by have := HNL.out.2; omega)).mono ?_
  rintro e w6 ⟨rfl, hb6⟩
  simp only [and_self, decide_true]
  have hb36 := HB35.out.trans (hb6.mono HB35.out.size)
  have hb46 : Below W4.heap.size W4 w6 := Bel.call HB45.out hb6
  have hk63 := (hb36.block w3.heap.size (by rw [HSW3.out]; omega)).trans HK3.out
  have hk64 := (hb46.block w4.heap.size hlt4).trans HK4.out
  clear p0 p1 q0 q1
  obtain ⟨p0, p1⟩ := cells2 hk63
  have HB36 := Lib.hid hb36
  have HK63 := Lib.hid hk63
  have HK64 := Lib.hid hk64
  have HR6 := Lib.hid (RowsAt.below HROW1.out hb36)
  have HR63 := Lib.hid (RowsAt.below HROW3.out hb46)
  have HR64 := Lib.hid (RowsAt.below HROW4.out hb46)
  have HG6 := Lib.hid (BytesAt.below HGA.out hb36)
  have hsz6 := hb46.size
  have hbw6 := HBW3.out.trans (hb36.mono HBW3.out.size)
  have HBW6 := Lib.hid hbw6
  have hn5 : n5 = N.length ∧ n5 ≤ 140737488351232 := by
    obtain ⟨a', c', hv, -⟩ := SliceAt.len HR6.out
    simp only [Value.slice.injEq] at hv
    exact ⟨hv.2.1, by rw [hv.2.1]; exact HNL.out.1⟩
  have hn5b := hn5.2
  have HN5 := Lib.hid hn5.1
  have hsg : w.heap.size ≤ w2.heap.size := HBG.out.size
  have hs36 : w3.heap.size < w4.heap.size := by rw [← Nat.succ_le_iff, show w3.heap.size.succ = W3.heap.size from HSW3.out.symm]; exact hs34
  clear hb6 hb36 hb46 hk63 hk64 hbw6 hn5
  go_wp2_with fail
  go_loopw [41] (fun i wr => ∃ k : Nat, k ≤ n5 ∧ i = .int .i64 k ∧ Hid (Spoilt w6 wr w2.heap.size w3.heap.size)) (fun i _ => n5 - (intOf i).toNat)
  case atStart => exact ⟨0, Nat.zero_le _, rfl, Lib.hid (Spoilt.refl _ _ _)⟩
  case round =>
    obtain ⟨k, hk, rfl, HS⟩ := hrel
    have hkb := (HS.out.blk w3.heap.size (by omega)).trans HK63.out
    obtain ⟨r0, r1⟩ := cells2 hkb
    by_cases hlt : k < n5
    · rcases SliceAt.split HR6.out with ⟨_, h00⟩ | ⟨lb, lo, rfl, -, -, -⟩
      · omega
      obtain ⟨u, hcu, hbu⟩ := RowsAt.cell HR6.out k (by have := HN5.out; omega)
      obtain ⟨au, cu, hu, hul, hum, -⟩ := SliceAt.len hbu
      obtain ⟨m, hm⟩ : ∃ m, m = (N[k]'(by have := HN5.out; omega)).length := ⟨_, rfl⟩
      have hmb : m ≤ 9223372036854775807 := by unfold maxLen at hum; omega
      subst hu
      rw [← hm] at hcu hbu
      have hcr := HS.out.slice hcu
      have HBU := Lib.hid hbu
      have HCU := Lib.hid hcu
      have HM := Lib.hid hm
      have hkz : (0 : Int) ≤ (k : Int) := by omega
      have hkn : (k : Int) < (n5 : Int) := by omega
      obtain ⟨wo, rfl⟩ : ∃ W, W = wr := ⟨_, rfl⟩
      clear hbu hcu hm hkb
      go_wp2_with fail
      go_loopw [50] (fun i wr => ∃ j : Nat, j ≤ m ∧ i = .int .i64 j ∧ Hid (Spoilt w6 wr w2.heap.size w3.heap.size)) (fun i _ => m - (intOf i).toNat)
      case atStart => exact ⟨0, Nat.zero_le _, rfl, HS⟩
      case round =>
        obtain ⟨j, hj, rfl, HS2⟩ := hrel
        have hkb2 := (HS2.out.blk w3.heap.size (by omega)).trans HK63.out
        clear r0 r1 hcr
        obtain ⟨r0, r1⟩ := cells2 hkb2
        have hcr := HS2.out.slice HCU.out
        clear hkb2
        by_cases hjm : j < m
        · rcases SliceAt.split HBU.out with ⟨_, h00⟩ | ⟨tb, t0, rfl, -, -, htb⟩
          · omega
          have hby := BytesAt.cell HBU.out j (by have := HM.out; omega)
          have hfr := HS2.out.frz _ _ (SliceAt.free HBU.out j (by have := HM.out; omega))
          obtain ⟨x, hx⟩ := HS2.out.byte hby
          have hS3 := Lib.hid (HS2.out.store (v := 99) htb hby)
          have hjz : (0 : Int) ≤ (j : Int) := by omega
          have hjn : (j : Int) < (m : Int) := by omega
          clear hby
          go_wp2_with fail
          go_roundw
          case rel => exact ⟨j + 1, by omega, num_eq (by omega), hS3⟩
          case measure => simp [intOf]; omega
        · obtain rfl : m = j := by omega
          go_wp2_with fail
          go_roundw
          case rel => exact ⟨k + 1, by omega, num_eq (by omega), HS2⟩
          case measure => simp [intOf]; omega
    · obtain rfl : n5 = k := by omega
      have hbel6 : Below w2.heap.size w6 wr := HS.out.below
      have hgr : BytesAt (fun b => b < w2.heap.size) wr (.slice ag mg cg) B := BytesAt.carry HG6.out (fun _ _ x => x) (fun b hb _ => HS.out.blk b (by omega))
      have hbwr : Below w.heap.size w wr := HBW6.out.trans (hbel6.mono hsg)
      have hk64 := (HS.out.blk w4.heap.size (by omega)).trans HK64.out
      have hr63 : RowsAt (fun b => w3.heap.size < b) wr (.slice a7 n7 c7) N := RowsAt.carry HR63.out (fun _ _ x => x) (fun b hb _ => HS.out.blk b (by omega))
      have hr64 : RowsAt (fun b => w3.heap.size < b) wr (.slice a8 n8 c8) C := RowsAt.carry HR64.out (fun _ _ x => x) (fun b hb _ => HS.out.blk b (by omega))
      have hlt4r : w4.heap.size < wr.heap.size := by have := HS.out.size; omega
      have HGR := Lib.hid hgr
      have HBWR := Lib.hid hbwr
      have HK64r := Lib.hid hk64
      have HR63r := Lib.hid hr63
      have HR64r := Lib.hid hr64
      clear hbel6 hgr hbwr hk64 hr63 hr64 hlt
      go_wp2_with fail
      refine (wdecode_any _ wr ag mg cg B HGR.out (by omega)).mono ?_
      rintro e w7 ⟨a9, n9, c9, a10, n10, c10, he, g5, g6, hb7⟩
      rw [HD.out] at he g5 g6
      subst he
      obtain ⟨W7, hW7⟩ : ∃ W, W = w7.alloc (.cells #[.slice a9 n9 c9, .slice a10 n10 c10] 24) := ⟨_, rfl⟩
      have hbx7 : Below w7.heap.size w7 W7 := by rw [hW7]; exact Bel.alloc (Bel.refl w7) _
      have hb7' : Below wr.heap.size wr W7 := Bel.call hb7 hbx7
      have hk74 := (hb7'.block w4.heap.size hlt4r).trans HK64r.out
      obtain ⟨t0, t1⟩ := cells2 hk74
      have s1 := run_string_at (P := Try.prog) (BytesAt.below HGR.out hb7') 25 5 9 Try.underlying25 Try.underlying5 Try.underlying9
      have s2 := run_string_at (P := Try.prog) (BytesAt.below HB.out (HBWR.out.trans (hb7'.mono HBWR.out.size))) 25 5 9 Try.underlying25 Try.underlying5 Try.underlying9
      have hlt47 : w4.heap.size < w7.heap.size := Nat.lt_of_lt_of_le hlt4r hb7.size
      have HW7 := Lib.hid hW7
      have HB7 := Lib.hid (HBWR.out.trans (hb7'.mono HBWR.out.size))
      have HG5 := Lib.hid (RowsAt.below g5 hbx7)
      have HG6' := Lib.hid (RowsAt.below g6 hbx7)
      have HR73 := Lib.hid (RowsAt.below HR63r.out hb7')
      have HR74 := Lib.hid (RowsAt.below HR64r.out hb7')
      rw [hW7] at t0 t1 s1 s2
      clear g5 g6 hb7 hbx7 hb7' hk74 hW7 r0 r1
      go_wp2_with fail
      rw [← HW7.out]
      refine (same_any _ _ _ _ _ _ _ _ _ _ _ _ _ _ _ N C N C HG5.out HG6'.out HR73.out HR74.out (by have := HNL.out.1; omega) (by have := HNL.out.2; omega)).mono ?_
      rintro e w8 ⟨rfl, hb8⟩
      simp only [and_self, decide_true]
      have HB8 := Lib.hid hb8
      clear hb8 t0 t1 s1 s2
      go_wp2_with fail
      go_ret
      exact ⟨rfl, HB7.out.trans (HB8.out.mono HB7.out.size)⟩
end Go.Proofs.Ytndkkgkcbbmnpaa
namespace Go.Proofs.Ytndkkgkcbbmnpaa
open Go.ChangeShapes Go.WideShapes Go.ChangeAt Go.RowKit Go.Pg

section
variable {H : Type} {enc : TypeId × Value → H} {P : Program} {w : World} {held : Bool}
/-- an argument that is a slice of bytes, by its reading alone -/
theorem open_bytes_read {t e : TypeId} {fuel : Nat} {v : Value} {x : DataW H × List MemPlace} (ht : P.underlying t = some (.slice e)) (he : P.underlying e = some (.int .u8)) (hc : P.cellsOf e = 1)
    (h : DataW.trod enc P w 0 (fun _ => true) held fuel t [v] = some x) (hfz : ∀ b o, MemPlace.cell b o ∈ x.2 → w.frozen? ⟨b, o, none⟩ = false) :
    ∃ bs a c, v = .slice a bs.length c ∧ BytesAt (fun b => b < w.heap.size) w v bs ∧ (bs = [] ∨ ∃ elems spare, x.1 = .slice elems spare ∧ bs.length = elems.length) := by
  rcases open_ints ht he hc h with ⟨hv, rfl⟩ | ⟨a, len, cap, zs, hv, -, hl, hm, hz, rfl, hcell, hwf⟩
  · simp only [List.cons.injEq, and_true] at hv
    subst hv
    exact ⟨[], none, 0, rfl, BytesAt.nil _ _, .inl rfl⟩
  · simp only [List.cons.injEq, and_true] at hv
    subst hv
    simp only [if_true] at hz
    have hb := bytes_at (w := w) (A := some a) (L := len) (C := cap) (Z := zs) hl hm hz hwf (fun h => by cases h) (fun a' ha c hc => by cases ha; exact hcell c (by omega)) (fun a' ha c hc => by cases ha; exact hfz _ _ (List.mem_map.2 ⟨c, List.mem_range.2 (by omega), rfl⟩))
    have hlen : ((zs.take len).map fun n => UInt8.ofNat n.toNat).length = len := by rw [List.length_map, List.length_take]; omega
    refine ⟨_, some a, cap, by rw [hlen], hb, .inr ⟨_, _, rfl, ?_⟩⟩
    rw [hlen]
    simp [lits]; omega
/-- what the form's own reach gives for it -/
theorem bytes_reach {ts : List TypeId} {ds : List (DataW H)} (hz : (DataW.weightsEach P ts ds).all (· ≤ reachBytes) = true) {j : Nat} {t e : TypeId} {d : DataW H} {n : Nat} (hj : ts[j]? = some t) (hd : ds[j]? = some d)
    (ht : P.underlying t = some (.slice e)) (hb : P.bytesOf e = 1) (h : n = 0 ∨ ∃ elems spare, d = .slice elems spare ∧ n = elems.length) : n ≤ 140737488351232 := by
  rcases h with rfl | ⟨elems, spare, rfl, rfl⟩
  · omega
  · have h1 := sized_slice hz hj hd ht
    rw [hb] at h1
    have h2 : reachBytes = 140737488351232 := rfl
    omega
end
end Go.Proofs.Ytndkkgkcbbmnpaa
