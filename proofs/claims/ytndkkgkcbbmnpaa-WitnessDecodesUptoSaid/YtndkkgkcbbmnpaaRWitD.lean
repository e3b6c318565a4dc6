/-
  Contract of pergolaref21.Decode.
-/
import Derived.Test.YtndkkgkcbbmnpaaDecL
import Derived.Test.YtndkkgkcbbmnpaaWitF
import Derived.Test.YtndkkgkcbbmnpaaRefH
import Derived.Test.YtndkkgkcbbmnpaaStep
namespace Go.Pg
open Go.RowKit
theorem rowsSum_bytes (l : List It) : (l.map fun y => y.bytes.length + 1).sum ≤ 2 * It.wholes l := by
  induction l with
  | nil => simp [It.wholes]
  | cons y r ih =>
    have h1 := It.whole_pos y
    have h2 := It.body_le_whole y
    have h3 := It.body_eq y
    simp only [List.map_cons, List.sum_cons, It.wholes]; omega
theorem sz_small' (n : Nat) (h : n ≤ 16777215) : sz n ≤ n + 4 := by
  have := number_le 3 n (by omega)
  unfold sz; split <;> omega
theorem wholes_bytes (l : List It) (h : It.wholes l ≤ 1048576) : It.wholes ((l.map It.bytes).map .text) ≤ 5 * It.wholes l := by
  induction l with
  | nil => simp [It.wholes]
  | cons y r ih =>
    simp only [It.wholes] at h
    have h1 := It.whole_pos y
    have h2 := It.body_le_whole y
    have h3 := It.body_eq y
    have h4 := ih (by omega)
    have h5 := sz_small' y.bytes.length (by omega)
    have h6 : (It.text y.bytes).whole ≤ y.bytes.length + 4 := by simp only [It.whole]; split <;> omega
    simp only [List.map_cons, It.wholes]; omega
theorem whole_parts (i0 i1 : It) (h : It.wholes [i0, i1] ≤ 1048576) : (witI (i0.items.map It.bytes) (i1.items.map It.bytes)).whole ≤ 16777215 := by
  simp only [It.wholes] at h
  have a0 := It.body_le_whole i0
  have a1 := It.body_le_whole i1
  have b0 := It.body_eq i0
  have b1 := It.body_eq i1
  have c0 := wholes_bytes i0.items (by omega)
  have c1 := wholes_bytes i1.items (by omega)
  have d0 := sz_small' (It.wholes ((i0.items.map It.bytes).map .text)) (by omega)
  have d1 := sz_small' (It.wholes ((i1.items.map It.bytes).map .text)) (by omega)
  have e0 : (textsI (i0.items.map It.bytes)).whole ≤ 5 * It.wholes i0.items + 4 := by unfold textsI; simp only [It.whole]; omega
  have e1 : (textsI (i1.items.map It.bytes)).whole ≤ 5 * It.wholes i1.items + 4 := by unfold textsI; simp only [It.whole]; omega
  have f : It.wholes [textsI (i0.items.map It.bytes), textsI (i1.items.map It.bytes)] = (textsI (i0.items.map It.bytes)).whole + (textsI (i1.items.map It.bytes)).whole := by simp [It.wholes]
  have g := sz_small' (It.wholes [textsI (i0.items.map It.bytes), textsI (i1.items.map It.bytes)]) (by omega)
  unfold witI; simp only [It.whole]; omega
theorem refDecode_pos (bs : List UInt8) (x i0 i1 : It) (h : rdWhole bs = (0, x)) (hi : x.items = [i0, i1]) :
    refDecode bs = if witEncode (i0.items.map It.bytes) (i1.items.map It.bytes) = (bs, 0) then (i0.items.map It.bytes, i1.items.map It.bytes, 0) else ([], [], 210) := by
  unfold refDecode part
  rw [h, hi]
  simp
theorem refDecode_no (bs : List UInt8) (e : Nat) (x : It) (h : rdWhole bs = (e, x)) (hn : e ≠ 0 ∨ x.items.length ≠ 2) : refDecode bs = ([], [], 210) := by
  unfold refDecode
  rw [h, if_neg]
  rintro ⟨h1, h2⟩
  rcases hn with hn | hn
  · exact hn h1
  · exact hn h2
end Go.Pg
namespace Go.Proofs.Ytndkkgkcbbmnpaa
open Go.RowKit Go.Pg

/-- the state of a loop: the witness' box, the rest as it was -/
structure RwSt (Wst wr : World) (wb : Nat) (v0 v1 : Value) : Prop where
  box : wr.heap[wb]? = some (.cells #[v0, v1] 24 (0, 0))
  chg : Chg (fun k => k = wb) Wst wr
theorem RwSt.cell {Wst wr : World} {wb : Nat} {v0 v1 : Value} (h : RwSt Wst wr wb v0 v1) {b o : Nat} {u : Value} (hc : Wst.cell? ⟨b, o, none⟩ = some u) (hne : b ≠ wb) : wr.cell? ⟨b, o, none⟩ = some u :=
  (cell_same (h.chg.block b (cell_lt hc) hne)).trans hc

set_option maxRecDepth 100000 in
set_option maxHeartbeats 8000000 in
theorem rwdecode_any (F0 : Nat → Prop) (w : World) (a : Option Addr) (n c : Nat) (bs : List UInt8) (h0 : BytesAt F0 w (.slice a n c) bs) (hn : n ≤ 1048576) :
    Calls Try.prog 17 #[.slice a n c] w (WDecd fresh w (refDecode bs)) := by
  have hnl := (BytesAt.n h0).1
  obtain ⟨e1, x, hr⟩ : ∃ e1 x, rdWhole bs = (e1, x) := ⟨(rdWhole bs).1, (rdWhole bs).2, rfl⟩
  obtain ⟨i0r, hi, hz0, hz1, hz2⟩ := info_parts infoRow
  have hcall := rdecode_any F0 (w.alloc (.cells #[.slice none 0 0, .slice none 0 0] 24)) a n c bs (BytesAt.below h0 (Bel.alloc (Bel.refl w) _)) (by omega)
  rw [hr] at hcall
  have HC := Lib.hid hcall
  have HR := Lib.hid hr
  have HNL := Lib.hid hnl
  have HIN := Lib.hid h0
  clear h0 hnl hr hcall
  go_enter Try.func17, Try.ntmps17
  go_wp2_with fail
  refine HC.out.mono ?_
  rintro e5 w5 ⟨il, i1, y1, z1, i3, y3, z3, rfl, k1, k2⟩
  have hsz := k2.size
  simp only [World.size_alloc] at hsz
  have h0 : w.heap.size < w5.heap.size := by omega
  have hb5 := (k2.block w.heap.size (by simp)).trans (heap_alloc_new w _)
  have hbel := (Bel.alloc (Bel.refl w) (.cells #[.slice none 0 0, .slice none 0 0] 24)).trans (k2.mono (by simp))
  have HB5 := Lib.hid hb5
  have HBL := Lib.hid hbel
  obtain ⟨-, a1', n1', c1', a2', n2', c2', e1', e2', -, hn3⟩ := ItemAt.form k1
  simp only [Value.slice.injEq] at e1' e2'
  obtain ⟨rfl, rfl, rfl⟩ := e1'
  obtain ⟨rfl, rfl, rfl⟩ := e2'
  obtain ⟨q0, q1⟩ := cells2 hb5
  have f0 := frozen_of_row w5 w.heap.size 0 _ _ hb5
  have f1 := frozen_of_row w5 w.heap.size 1 _ _ hb5
  have K1 := Lib.hid k1
  have HN3 := Lib.hid hn3
  clear hb5 k1 k2 hsz hbel hn3
  by_cases hgood : e1 = 0 ∧ y3 = 2
  · obtain ⟨rfl, rfl⟩ := hgood
    obtain ⟨hb, hfit⟩ := rdWhole_sound bs x HR.out
    have hbl : x.whole = n := by rw [← It.enc_length, ← hb]; exact HNL.out.symm
    obtain ⟨i0, i1x, hi2⟩ : ∃ i0 i1x, x.items = [i0, i1x] := by
      have := HN3.out
      match x.items, this with
      | [i0, i1x], _ => exact ⟨i0, i1x, rfl⟩
    have hits := ItemAt.items K1.out
    rw [hi2] at hits
    have hwl : It.wholes [i0, i1x] ≤ 1048576 := by
      have h1 := It.body_le_whole x
      have h2 : x.body = It.wholes x.items + x.bytes.length := by rw [It.body_eq]; omega
      rw [hi2] at h2
      omega
    have hwp := whole_parts i0 i1x hwl
    have hl0 : i0.items.length ≤ 1048576 ∧ i1x.items.length ≤ 1048576 ∧ (∀ y ∈ i0.items.map It.bytes, y.length ≤ 1048576) ∧ (∀ y ∈ i1x.items.map It.bytes, y.length ≤ 1048576) := by
      simp only [It.wholes] at hwl
      have h3 := It.body_le_whole i0
      have h4 := It.body_le_whole i1x
      have h5 := It.length_le_wholes i0.items
      have h6 := It.length_le_wholes i1x.items
      have h7 := It.body_eq i0
      have h8 := It.body_eq i1x
      refine ⟨by omega, by omega, fun y hy => ?_, fun y hy => ?_⟩
      · obtain ⟨z, hz, rfl⟩ := List.mem_map.1 hy
        have g1 := whole_le_wholes _ z hz
        have g2 := It.body_le_whole z
        have g3 := It.body_eq z
        omega
      · obtain ⟨z, hz, rfl⟩ := List.mem_map.1 hy
        have g1 := whole_le_wholes _ z hz
        have g2 := It.body_le_whole z
        have g3 := It.body_eq z
        omega
    have hwd := refDecode_pos bs x i0 i1x HR.out hi2
    have HWD := Lib.hid hwd
    have HL0 := Lib.hid hl0
    have HWP := Lib.hid hwp
    rcases SliceAt.split hits with ⟨hh, _⟩ | ⟨b, o, rfl, -, -, hfb⟩
    · cases hh
    obtain ⟨A1, N1, C1, A2, N2, C2, g0, g1, g2, git⟩ := ItemsAt.cell hits 0 (by simp)
    obtain ⟨A3, N3, C3, A4, N4, C4, g3, g4, g5, git'⟩ := ItemsAt.cell hits 1 (by simp)
    simp only [Nat.zero_mul, Nat.one_mul, Nat.add_zero, List.getElem_cons_zero, List.getElem_cons_succ] at g0 g1 g2 g3 g4 g5 git git'
    have hblt := cell_lt g0
    have hits0 : ItemsAt (fun b => w.heap.size < b ∧ b < w5.heap.size) w5 7 (.slice A2 N2 C2) i0.items :=
      ItemsAt.carry (ItemAt.items git) (fun b hlt hb => ⟨by have h9 : (w.alloc (.cells #[.slice none 0 0, .slice none 0 0] 24)).heap.size ≤ b := hb; simp only [World.size_alloc] at h9; omega, hlt⟩) (fun _ _ _ => rfl)
    have hits1 : ItemsAt (fun b => w.heap.size < b ∧ b < w5.heap.size) w5 7 (.slice A4 N4 C4) i1x.items :=
      ItemsAt.carry (ItemAt.items git') (fun b hlt hb => ⟨by have h9 : (w.alloc (.cells #[.slice none 0 0, .slice none 0 0] 24)).heap.size ≤ b := hb; simp only [World.size_alloc] at h9; omega, hlt⟩) (fun _ _ _ => rfl)
    have hN2 : N2 = i0.items.length := by
      obtain ⟨-, x1, x2, x3, x4, x5, x6, -, e, -, h⟩ := ItemAt.form git
      simp only [Value.slice.injEq] at e
      omega
    have hN4 : N4 = i1x.items.length := by
      obtain ⟨-, x1, x2, x3, x4, x5, x6, -, e, -, h⟩ := ItemAt.form git'
      simp only [Value.slice.injEq] at e
      omega
    obtain ⟨l0, hl0'⟩ : ∃ l, l = i0.items := ⟨_, rfl⟩
    obtain ⟨l1, hl1'⟩ : ∃ l, l = i1x.items := ⟨_, rfl⟩
    rw [← hl0'] at hits0 hN2 HWD HL0 HWP
    rw [← hl1'] at hits1 hN4 HWD HL0 HWP
    have hN2b : N2 ≤ 1048576 := by have := HL0.out.1; omega
    have hN4b : N4 ≤ 1048576 := by have := HL0.out.2.1; omega
    have HI0 := Lib.hid hits0
    have HI1 := Lib.hid hits1
    have HN2 := Lib.hid hN2
    have HN4 := Lib.hid hN4
    have G2 := Lib.hid g2
    have G5 := Lib.hid g5
    obtain ⟨W1, hW1⟩ : ∃ W, W = (w5.alloc (.cells #[.bool il, .slice i1 y1 z1, .slice (some ⟨b, o, none⟩) 2 z3] 65)).alloc (.cells #[.slice none 0 0, .slice none 0 0] 24) := ⟨_, rfl⟩
    have hbw1 : Below w5.heap.size w5 W1 := by rw [hW1]; exact Bel.alloc (Bel.alloc (Bel.refl w5) _) _
    have hx1 : W1.heap[w5.heap.size]? = some (.cells #[.bool il, .slice i1 y1 z1, .slice (some ⟨b, o, none⟩) 2 z3] 65 (0, 0)) := by
      rw [hW1]; exact (Below.heap_alloc _ _ _ (by simp)).trans (heap_alloc_new w5 _)
    have hwb1 : W1.heap[w5.heap.size + 1]? = some (.cells #[.slice none 0 0, .slice none 0 0] 24 (0, 0)) := by
      rw [hW1]
      have := heap_alloc_new (w5.alloc (.cells #[.bool il, .slice i1 y1 z1, .slice (some ⟨b, o, none⟩) 2 z3] 65)) (.cells #[.slice none 0 0, .slice none 0 0] 24)
      simpa using this
    have hs1 : W1.heap.size = w5.heap.size + 2 := by rw [hW1]; simp
    have HW1 := Lib.hid hW1
    have HBW1 := Lib.hid hbw1
    have HX1 := Lib.hid hx1
    have HS1 := Lib.hid hs1
    have HR0 : Hid (RwSt W1 W1 (w5.heap.size + 1) (.slice none 0 0) (.slice none 0 0)) := Lib.hid ⟨hwb1, Chg.refl _ _⟩
    clear hb hfit hbl hi2 hits hwl hwp hl0 hwd g0 g1 g2 g3 g4 g5 git git' hfb hits0 hits1 hN2 hN4 hl0' hl1' hbw1 hx1 hwb1 hs1 hW1 q0 q1 f0 f1
    go_wp2_with fail
    rw [← HW1.out]
    have HXS : Hid (W1.heap[w5.heap.size]? = some (.cells #[.bool il, .slice i1 y1 z1, .slice (some ⟨b, o, none⟩) 2 z3] 65 (0, 0))) := HX1
    have HCS0 : Hid (W1.cell? ⟨b, o + 2, none⟩ = some (.slice A2 N2 C2)) := Lib.hid ((HBW1.out.cell (p := ⟨b, o + 2, none⟩) hblt).trans G2.out)
    have HBLS := HBW1
    have hszS := HS1.out

    go_loopw [7] (fun i wr => ∃ (k : Nat) (a1 : Option Addr) (c1 : Nat), k ≤ N2 ∧ i = .int .i64 k ∧ Hid (OwnList rowR (fun b => w.heap.size < b ∧ b < w5.heap.size) (w5.heap.size + 2) wr 25 1 (.slice a1 k c1) ((l0.take k).map It.bytes)) ∧
        Hid (RwSt W1 wr (w5.heap.size + 1) (.slice a1 k c1) (.slice none 0 0))) (fun i _ => N2 - (intOf i).toNat)
    case atStart => exact ⟨0, none, 0, Nat.zero_le _, rfl, Lib.hid OwnList.nil, HR0⟩
    case round =>
      obtain ⟨k, a1, c1, hk, rfl, HO, HS⟩ := hrel
      have hN := HN2.out

      have hxk := HS.out.cell (cells3 HXS.out).2.2 (by omega)
      have hgk := HS.out.cell (HCS0.out) (by omega)
      have HBOX := Lib.hid HS.out.box
      have hsz2 := HS.out.chg.size
      have hszb := (Array.getElem?_eq_some_iff.1 HS.out.box).1
      by_cases hlt : k < N2
      · rcases SliceAt.split HI0.out with ⟨_, h00⟩ | ⟨b2, o2, rfl, -, -, hF2⟩
        · omega
        have hb2 : b2 < w5.heap.size := hF2.2
        obtain ⟨x1, y1', z1', x2, y2, z2, g0, g1, g2, git⟩ := ItemsAt.cell HI0.out k (by omega)
        have htk : (l0.take (k + 1)).map It.bytes = (l0.take k).map It.bytes ++ [(l0[k]'(by omega)).bytes] := by
          rw [List.take_succ_eq_append_getElem (show k < l0.length by omega), List.map_append]; rfl
        have hby := ItemAt.bytes git
        obtain ⟨y, hy⟩ : ∃ y, y = l0[k]'(by omega) := ⟨_, rfl⟩
        rw [← hy] at htk hby
        have hcell := HS.out.cell (HBLS.out.cell (p := ⟨b2, o2 + k * 3 + 1, none⟩) hb2 |>.trans g1) (by omega)
        have hbyr : BytesAt (fun b => w.heap.size < b ∧ b < w5.heap.size) wr (.slice x1 y1' z1') y.bytes := hby.carry (fun _ _ x => x) (fun b hb _ => (HS.out.chg.block b (by have := HBLS.out.size; omega) (by omega)).trans (HBLS.out.block b hb.2))
        obtain ⟨P, hP⟩ : ∃ L, L = (l0.take k).map It.bytes := ⟨_, rfl⟩
        rw [← hP] at HO htk
        have hPl : P.length = k := by rw [hP]; simp; omega
        have HT := Lib.hid htk
        have HPL := Lib.hid hPl
        have howr := (HO.out).own
        obtain ⟨R, hR1, hRo, hRs, hRn⟩ := (HO.out).push carriedRow (show rowR (fun b => w.heap.size < b ∧ b < w5.heap.size) wr [.slice x1 y1' z1'] y.bytes from ⟨_, rfl, hbyr⟩) rfl (by decide) (fun b' _ hb' => ⟨hb', fun e => by have := (howr b' e).1; have := hb'.2; have := HBLS.out.size; omega⟩) 25
        have hle : (P.length + [y.bytes].length) * 24 ≤ 140737488355328 := by rw [hPl]; simp; omega
        have hlen : P.length + [y.bytes].length = k + 1 := by rw [hPl]; rfl
        have hbase : (w5.heap.size + 2) ≤ (wr.alloc (.cells [.slice x1 y1' z1'].toArray 25)).drew.heap.size := by simp; omega
        have hX : ∀ w2 : World, (wr.alloc (.cells [.slice x1 y1' z1'].toArray 25)).drew.grownBy w2 (Value.slice a1 k c1).ownBlock → RwSt W1 w2 (w5.heap.size + 1) (.slice a1 k c1) (.slice none 0 0) ∧ (∀ b o u, wr.cell? ⟨b, o, none⟩ = some u → b < w5.heap.size + 1 → w2.cell? ⟨b, o, none⟩ = some u) := by
          intro w2 hg
          have hsz3 := hg.size
          simp only [World.size_drew, World.size_alloc] at hsz3
          have hblk : ∀ b, b < wr.heap.size → (∀ g, (Value.slice a1 k c1).ownBlock = some g → b ≠ g) → w2.heap[b]? = wr.heap[b]? := fun b hb hne => by
            rw [hg.block b (by simp; omega) (fun e => hne b e.symm rfl)]
            exact Below.heap_alloc _ _ _ hb
          refine ⟨⟨(hblk _ hszb (fun g hg e => by have := (howr g hg).1; omega)).trans HBOX.out, ⟨hg.os.trans HS.out.chg.os, hg.tape.trans HS.out.chg.tape, hg.output.trans HS.out.chg.output, by omega, fun j hj hn => ?_⟩⟩, fun b o u hc hb => ?_⟩
          · exact (hblk j (by omega) (fun g hg e => by have := (howr g hg).1; omega)).trans (HS.out.chg.block j hj hn)
          · exact (cell_same (hblk b (by omega) (fun g hg e => by have := (howr g hg).1; omega))).trans hc
        have hRn' : ∀ v' W2, OwnAt W2 (w5.heap.size + 2) 25 1 R v' (P ++ [y.bytes]) → (wr.alloc (.cells [.slice x1 y1' z1'].toArray 25)).drew.grownBy W2 (Value.slice a1 k c1).ownBlock → Moved (wr.alloc (.cells [.slice x1 y1' z1'].toArray 25)).drew (.slice a1 k c1) v' → OwnList rowR (fun b => w.heap.size < b ∧ b < w5.heap.size) (w5.heap.size + 2) W2 25 1 v' (P ++ [y.bytes]) :=
          fun v' W2 ho hg hm => hRn v' W2 ho ⟨hg.os, hg.tape, hg.output, hg.size, hg.block⟩ hm
        have HX := Lib.hid hX
        have HRN := Lib.hid hRn'
        have HRO := Lib.hid hRo.drew'
        have HRS := Lib.hid (hRs.drew' (by decide))
        have HR1 := Lib.hid hR1
        have HLE := Lib.hid hlen
        obtain ⟨bx0, bx1⟩ := cells2 HBOX.out
        have fq := frozen_of_row wr (w5.heap.size + 1) 0 _ _ HBOX.out
        have hne1 : b ≠ w5.heap.size + 1 := by omega
        have hne2 : b2 ≠ w5.heap.size + 1 := by omega
        have HKX := Lib.hid hxk
        have HKG := Lib.hid hgk
        have HKC := Lib.hid hcell
        clear htk hP hPl hX hRn hRn' hRo hRs hR1 howr hlen git hby hbyr g0 g1 g2 hy hN hsz2
        have hk0 : (0 : Int) ≤ (k : Int) := by omega
        have hk1 : (k : Int) < (N2 : Int) := by omega
        go_wp2
        go_region_law (refine step_append_at rfl (.tmp 37) (.tmp 47) 22 rfl (w5.heap.size + 2) 25 i0r (.slice none 0 0) 1 24 underlyingRows hi hz0 hz1 hz2 rfl (by decide) (by decide) HR1.out (.slice a1 k c1) P (by simp [Act.eval, Act.put]) HRO.out (.slice (some ⟨wr.heap.size, 0, none⟩) 1 1) [y.bytes] (fun _ => True) (by simp [Act.eval, Act.put]) HRS.out Nat.one_pos hle hbase (k + 1) HLE.out ?_; intro g cap w2 ho hg hm; have hx2 := HX.out _ hg; obtain ⟨r0, r1⟩ := cells2 hx2.1.box; have fr := frozen_of_row w2 (w5.heap.size + 1) 0 _ _ hx2.1.box; have r2 := hx2.2 _ _ _ HKX.out (by omega); have r3 := hx2.2 _ _ _ HKG.out (by omega); have r4 := hx2.2 _ _ _ HKC.out (by omega))
        all_goals
          have hOn := HRN.out _ _ ho hg hm
          have hown := hOn.own
          have hszw := hg.size
          simp only [World.size_drew, World.size_alloc] at hszw
          have hOs : Hid (OwnList rowR (fun b => w.heap.size < b ∧ b < w5.heap.size) (w5.heap.size + 2) (w2.setCell ⟨w5.heap.size + 1, 0, none⟩ (.slice (some ⟨g, 0, none⟩) (k + 1) cap)) 25 1 (.slice (some ⟨g, 0, none⟩) (k + 1) cap) ((l0.take (k + 1)).map It.bytes)) := by
            rw [HT.out]
            exact hOn.carry carriedRow (by simp) (fun b' hb' _ => Below.heap_setCell _ _ _ _ (by have := hb'.2; show b' ≠ w5.heap.size + 1; omega)) (fun g' hg' => Below.heap_setCell _ _ _ _ (by have := (hown g' hg').1; show g' ≠ w5.heap.size + 1; omega))
          have hSs : Hid (RwSt W1 (w2.setCell ⟨w5.heap.size + 1, 0, none⟩ (.slice (some ⟨g, 0, none⟩) (k + 1) cap)) (w5.heap.size + 1) (.slice (some ⟨g, 0, none⟩) (k + 1) cap) (.slice none 0 0)) :=
            Lib.hid ⟨blk_setCell hx2.1.box, hx2.1.chg.atb _⟩
          clear hOn hown ho hg hm hx2 r0 r1 r2 r3 r4 fr hszw
          go_wp2
          go_roundw
          case rel => exact ⟨k + 1, _, _, by omega, num_eq (by omega), hOs, hSs⟩
          case measure => simp [intOf]; omega
      · obtain rfl : N2 = k := by omega
        have hO := HO.out
        rw [List.take_of_length_le (by omega)] at hO
        obtain ⟨wr1, rfl⟩ : ∃ W, W = wr := ⟨_, rfl⟩
        obtain ⟨na, rfl⟩ : ∃ x, x = a1 := ⟨_, rfl⟩
        obtain ⟨nc, rfl⟩ : ∃ x, x = c1 := ⟨_, rfl⟩
        have hrows := hO.at carriedRow (G' := fun b => w.heap.size < b ∧ b ≠ w5.heap.size + 1) (fun b h _ => ⟨h.1, by have := h.2; omega⟩) (fun b h _ => ⟨by omega, by omega⟩) (by decide)
        have HNODES := Lib.hid (show RowsAt (fun b => w.heap.size < b ∧ b ≠ w5.heap.size + 1) wr1 (.slice na N2 nc) (l0.map It.bytes) from hrows)
        have HR1S : Hid (RwSt wr1 wr1 (w5.heap.size + 1) (.slice na N2 nc) (.slice none 0 0)) := Lib.hid ⟨HS.out.box, Chg.refl _ _⟩
        have HXS : Hid (wr1.heap[w5.heap.size]? = some (.cells #[.bool il, .slice i1 y1 z1, .slice (some ⟨b, o, none⟩) 2 z3] 65 (0, 0))) := Lib.hid ((HS.out.chg.block _ (by omega) (by omega)).trans HX1.out)
        have HCS1 : Hid (wr1.cell? ⟨b, o + 3 + 2, none⟩ = some (.slice A4 N4 C4)) := Lib.hid (HS.out.cell ((HBW1.out.cell (p := ⟨b, o + 3 + 2, none⟩) hblt).trans G5.out) (by omega))
        have HBLS : Hid (Below w5.heap.size w5 wr1) := Lib.hid (HBW1.out.trans (HS.out.chg.toBelowAt (by omega) (fun k hk e => by omega)))
        have hszS : w5.heap.size + 2 ≤ wr1.heap.size := by omega
        have hxk1 := (cells3 HXS.out).2.2
        have hc51 := HCS1.out
        clear hO hrows hN HBOX hsz2 hszb HO hlt
        go_wp2
        clear hxk1 hc51 hxk hgk HS

        go_loopw [8] (fun i wr => ∃ (k : Nat) (a1 : Option Addr) (c1 : Nat), k ≤ N4 ∧ i = .int .i64 k ∧ Hid (OwnList rowR (fun b => w.heap.size < b ∧ b < w5.heap.size) wr1.heap.size wr 25 1 (.slice a1 k c1) ((l1.take k).map It.bytes)) ∧
            Hid (RwSt wr1 wr (w5.heap.size + 1) (.slice na N2 nc) (.slice a1 k c1))) (fun i _ => N4 - (intOf i).toNat)
        case atStart => exact ⟨0, none, 0, Nat.zero_le _, rfl, Lib.hid OwnList.nil, HR1S⟩
        case round =>
          obtain ⟨k, a1, c1, hk, rfl, HO, HS⟩ := hrel
          have hN := HN4.out

          have hxk := HS.out.cell (cells3 HXS.out).2.2 (by omega)
          have hgk := HS.out.cell (HCS1.out) (by omega)
          have HBOX := Lib.hid HS.out.box
          have hsz2 := HS.out.chg.size
          have hszb := (Array.getElem?_eq_some_iff.1 HS.out.box).1
          by_cases hlt : k < N4
          · rcases SliceAt.split HI1.out with ⟨_, h00⟩ | ⟨b2, o2, rfl, -, -, hF2⟩
            · omega
            have hb2 : b2 < w5.heap.size := hF2.2
            obtain ⟨x1, y1', z1', x2, y2, z2, g0, g1, g2, git⟩ := ItemsAt.cell HI1.out k (by omega)
            have htk : (l1.take (k + 1)).map It.bytes = (l1.take k).map It.bytes ++ [(l1[k]'(by omega)).bytes] := by
              rw [List.take_succ_eq_append_getElem (show k < l1.length by omega), List.map_append]; rfl
            have hby := ItemAt.bytes git
            obtain ⟨y, hy⟩ : ∃ y, y = l1[k]'(by omega) := ⟨_, rfl⟩
            rw [← hy] at htk hby
            have hcell := HS.out.cell (HBLS.out.cell (p := ⟨b2, o2 + k * 3 + 1, none⟩) hb2 |>.trans g1) (by omega)
            have hbyr : BytesAt (fun b => w.heap.size < b ∧ b < w5.heap.size) wr (.slice x1 y1' z1') y.bytes := hby.carry (fun _ _ x => x) (fun b hb _ => (HS.out.chg.block b (by have := HBLS.out.size; omega) (by omega)).trans (HBLS.out.block b hb.2))
            obtain ⟨P, hP⟩ : ∃ L, L = (l1.take k).map It.bytes := ⟨_, rfl⟩
            rw [← hP] at HO htk
            have hPl : P.length = k := by rw [hP]; simp; omega
            have HT := Lib.hid htk
            have HPL := Lib.hid hPl
            have howr := (HO.out).own
            obtain ⟨R, hR1, hRo, hRs, hRn⟩ := (HO.out).push carriedRow (show rowR (fun b => w.heap.size < b ∧ b < w5.heap.size) wr [.slice x1 y1' z1'] y.bytes from ⟨_, rfl, hbyr⟩) rfl (by decide) (fun b' _ hb' => ⟨hb', fun e => by have := (howr b' e).1; have := hb'.2; have := HBLS.out.size; omega⟩) 25
            have hle : (P.length + [y.bytes].length) * 24 ≤ 140737488355328 := by rw [hPl]; simp; omega
            have hlen : P.length + [y.bytes].length = k + 1 := by rw [hPl]; rfl
            have hbase : wr1.heap.size ≤ (wr.alloc (.cells [.slice x1 y1' z1'].toArray 25)).drew.heap.size := by simp; omega
            have hX : ∀ w2 : World, (wr.alloc (.cells [.slice x1 y1' z1'].toArray 25)).drew.grownBy w2 (Value.slice a1 k c1).ownBlock → RwSt wr1 w2 (w5.heap.size + 1) (.slice na N2 nc) (.slice a1 k c1) ∧ (∀ b o u, wr.cell? ⟨b, o, none⟩ = some u → b < w5.heap.size + 1 → w2.cell? ⟨b, o, none⟩ = some u) := by
              intro w2 hg
              have hsz3 := hg.size
              simp only [World.size_drew, World.size_alloc] at hsz3
              have hblk : ∀ b, b < wr.heap.size → (∀ g, (Value.slice a1 k c1).ownBlock = some g → b ≠ g) → w2.heap[b]? = wr.heap[b]? := fun b hb hne => by
                rw [hg.block b (by simp; omega) (fun e => hne b e.symm rfl)]
                exact Below.heap_alloc _ _ _ hb
              refine ⟨⟨(hblk _ hszb (fun g hg e => by have := (howr g hg).1; omega)).trans HBOX.out, ⟨hg.os.trans HS.out.chg.os, hg.tape.trans HS.out.chg.tape, hg.output.trans HS.out.chg.output, by omega, fun j hj hn => ?_⟩⟩, fun b o u hc hb => ?_⟩
              · exact (hblk j (by omega) (fun g hg e => by have := (howr g hg).1; omega)).trans (HS.out.chg.block j hj hn)
              · exact (cell_same (hblk b (by omega) (fun g hg e => by have := (howr g hg).1; omega))).trans hc
            have hRn' : ∀ v' W2, OwnAt W2 wr1.heap.size 25 1 R v' (P ++ [y.bytes]) → (wr.alloc (.cells [.slice x1 y1' z1'].toArray 25)).drew.grownBy W2 (Value.slice a1 k c1).ownBlock → Moved (wr.alloc (.cells [.slice x1 y1' z1'].toArray 25)).drew (.slice a1 k c1) v' → OwnList rowR (fun b => w.heap.size < b ∧ b < w5.heap.size) wr1.heap.size W2 25 1 v' (P ++ [y.bytes]) :=
              fun v' W2 ho hg hm => hRn v' W2 ho ⟨hg.os, hg.tape, hg.output, hg.size, hg.block⟩ hm
            have HX := Lib.hid hX
            have HRN := Lib.hid hRn'
            have HRO := Lib.hid hRo.drew'
            have HRS := Lib.hid (hRs.drew' (by decide))
            have HR1 := Lib.hid hR1
            have HLE := Lib.hid hlen
            obtain ⟨bx0, bx1⟩ := cells2 HBOX.out
            have fq := frozen_of_row wr (w5.heap.size + 1) 1 _ _ HBOX.out
            have hne1 : b ≠ w5.heap.size + 1 := by omega
            have hne2 : b2 ≠ w5.heap.size + 1 := by omega
            have HKX := Lib.hid hxk
            have HKG := Lib.hid hgk
            have HKC := Lib.hid hcell
            clear htk hP hPl hX hRn hRn' hRo hRs hR1 howr hlen git hby hbyr g0 g1 g2 hy hN hsz2
            have hk0 : (0 : Int) ≤ (k : Int) := by omega
            have hk1 : (k : Int) < (N4 : Int) := by omega
            go_wp2
            go_region_law (refine step_append_at rfl (.tmp 61) (.tmp 71) 22 rfl wr1.heap.size 25 i0r (.slice none 0 0) 1 24 underlyingRows hi hz0 hz1 hz2 rfl (by decide) (by decide) HR1.out (.slice a1 k c1) P (by simp [Act.eval, Act.put]) HRO.out (.slice (some ⟨wr.heap.size, 0, none⟩) 1 1) [y.bytes] (fun _ => True) (by simp [Act.eval, Act.put]) HRS.out Nat.one_pos hle hbase (k + 1) HLE.out ?_; intro g cap w2 ho hg hm; have hx2 := HX.out _ hg; obtain ⟨r0, r1⟩ := cells2 hx2.1.box; have fr := frozen_of_row w2 (w5.heap.size + 1) 1 _ _ hx2.1.box; have r2 := hx2.2 _ _ _ HKX.out (by omega); have r3 := hx2.2 _ _ _ HKG.out (by omega); have r4 := hx2.2 _ _ _ HKC.out (by omega))
            all_goals
              have hOn := HRN.out _ _ ho hg hm
              have hown := hOn.own
              have hszw := hg.size
              simp only [World.size_drew, World.size_alloc] at hszw
              have hOs : Hid (OwnList rowR (fun b => w.heap.size < b ∧ b < w5.heap.size) wr1.heap.size (w2.setCell ⟨w5.heap.size + 1, 1, none⟩ (.slice (some ⟨g, 0, none⟩) (k + 1) cap)) 25 1 (.slice (some ⟨g, 0, none⟩) (k + 1) cap) ((l1.take (k + 1)).map It.bytes)) := by
                rw [HT.out]
                exact hOn.carry carriedRow (by simp) (fun b' hb' _ => Below.heap_setCell _ _ _ _ (by have := hb'.2; show b' ≠ w5.heap.size + 1; omega)) (fun g' hg' => Below.heap_setCell _ _ _ _ (by have := (hown g' hg').1; show g' ≠ w5.heap.size + 1; omega))
              have hSs : Hid (RwSt wr1 (w2.setCell ⟨w5.heap.size + 1, 1, none⟩ (.slice (some ⟨g, 0, none⟩) (k + 1) cap)) (w5.heap.size + 1) (.slice na N2 nc) (.slice (some ⟨g, 0, none⟩) (k + 1) cap)) :=
                Lib.hid ⟨blk_setCell hx2.1.box, hx2.1.chg.atb _⟩
              clear hOn hown ho hg hm hx2 r0 r1 r2 r3 r4 fr hszw
              go_wp2
              go_roundw
              case rel => exact ⟨k + 1, _, _, by omega, num_eq (by omega), hOs, hSs⟩
              case measure => simp [intOf]; omega
          · obtain rfl : N4 = k := by omega
            have hO := HO.out
            rw [List.take_of_length_le (by omega)] at hO
            obtain ⟨ca, rfl⟩ : ∃ x, x = a1 := ⟨_, rfl⟩
            obtain ⟨cc, rfl⟩ : ∃ x, x = c1 := ⟨_, rfl⟩
            have hrows := hO.at carriedRow (G' := fun b => w.heap.size < b) (fun b h _ => h.1) (fun b h _ => by omega) (by decide)
            have hC2 : RowsAt (fun b => w.heap.size < b) wr (.slice ca N4 cc) (l1.map It.bytes) := hrows
            have hN2' : RowsAt (fun b => w.heap.size < b) wr (.slice na N2 nc) (l0.map It.bytes) := RowsAt.carry HNODES.out (fun b _ hb => hb.1) (fun b hb hlt => HS.out.chg.block b hlt hb.2)
            have hbelr : Below w5.heap.size w5 wr := HBLS.out.trans (HS.out.chg.toBelowAt (by omega) (fun k hk e => by omega))
            have hbelw : Below w.heap.size w wr := HBL.out.trans (hbelr.mono (by omega))
            obtain ⟨E, hE⟩ : ∃ E, E = witEncode (l0.map It.bytes) (l1.map It.bytes) := ⟨_, rfl⟩
            have hcall := rwencode_any _ wr na ca N2 nc N4 cc (l0.map It.bytes) (l1.map It.bytes) hN2' hC2 (by have := HL0.out.1; rw [List.length_map]; omega) (by have := HL0.out.2.1; rw [List.length_map]; omega) (fun x hx => by have := HL0.out.2.2.1 x hx; omega) (fun x hx => by have := HL0.out.2.2.2 x hx; omega) (by have := HWP.out; omega)
            have hwd := HWD.out
            rw [← hE] at hcall hwd
            obtain ⟨P0, hP0⟩ : ∃ P, P = l0.map It.bytes := ⟨_, rfl⟩
            obtain ⟨P1, hP1⟩ : ∃ P, P = l1.map It.bytes := ⟨_, rfl⟩
            rw [← hP0] at hN2' hwd
            rw [← hP1] at hC2 hwd
            obtain ⟨bx0, bx1⟩ := cells2 HBOX.out
            have HCALL := Lib.hid hcall
            have HWD2 := Lib.hid hwd
            have HNR := Lib.hid hN2'
            have HCR := Lib.hid hC2
            have HBELR := Lib.hid hbelr
            have HBELW := Lib.hid hbelw
            clear hO hrows hC2 hN2' hbelr hbelw hE hcall hwd hP0 hP1 hN hlt
            go_wp2_with fail
            refine HCALL.out.mono ?_
            rintro e w6 ⟨v6, rfl, ho6, hb6⟩
            obtain ⟨x6, z6, rfl, -, -, -⟩ := ho6.len
            have hat6 := ho6.at (F := fun _ => True) (fun _ _ _ _ => trivial) (by decide)
            have hbel6 := HBELW.out.trans (hb6.mono HBELW.out.size)
            have hbr6 := (hb6.block w.heap.size (by omega)).trans ((HBELR.out.block w.heap.size h0).trans HB5.out)
            have hbw6 := (hb6.block (w5.heap.size + 1) hszb).trans HBOX.out
            have s1 := run_string_at (P := Try.prog) hat6 25 5 9 Try.underlying25 Try.underlying5 Try.underlying9
            have s2 := run_string_at (P := Try.prog) (BytesAt.below HIN.out hbel6) 25 5 9 Try.underlying25 Try.underlying5 Try.underlying9
            have HBEL6 := Lib.hid hbel6
            have HBR6 := Lib.hid hbr6
            have HNR6 := Lib.hid (RowsAt.below HNR.out hb6)
            have HCR6 := Lib.hid (RowsAt.below HCR.out hb6)
            clear bx0 bx1
            obtain ⟨bx0, bx1⟩ := cells2 hbw6
            obtain ⟨q0, q1⟩ := cells2 hbr6
            have f0 := frozen_of_row w6 w.heap.size 0 _ _ hbr6
            have f1 := frozen_of_row w6 w.heap.size 1 _ _ hbr6
            have hlt6 : w.heap.size < w6.heap.size := (Array.getElem?_eq_some_iff.1 hbr6).1
            obtain ⟨cs, code⟩ := E
            clear ho6 hat6 hbel6 hbr6 hbw6 hb6 hxk hgk
            by_cases hok : code = 0 ∧ cs = bs
            · obtain ⟨rfl, rfl⟩ := hok
              have hfin : refDecode cs = (P0, P1, 0) := by rw [HWD2.out, if_pos rfl]
              have HF := Lib.hid hfin
              clear hfin
              go_wp2_with fail
              have hbx := box2 HBR6.out (.slice na N2 nc) (.slice ca N4 cc)
              obtain ⟨W, hW⟩ : ∃ W, W = (w6.setCell ⟨w.heap.size, 0, none⟩ (.slice na N2 nc)).setCell ⟨w.heap.size, 1, none⟩ (.slice ca N4 cc) := ⟨_, rfl⟩
              rw [← hW] at hbx ⊢
              obtain ⟨r0, r1⟩ := cells2 hbx.at_
              refine bodyPost_ret (v := .tuple #[.agg #[.slice na N2 nc, .slice ca N4 cc], .int .i64 ((0 : Nat) : Int)]) (by simp [results, Try.results17, go_sem, r0, r1]) rfl ?_
              rw [HF.out]
              exact ⟨na, N2, nc, ca, N4, cc, rfl, RowsAt.carry HNR6.out (fun b _ hb => Nat.le_of_lt hb) (fun b hb _ => hbx.other b (by have : w.heap.size < b := hb; omega)), RowsAt.carry HCR6.out (fun b _ hb => Nat.le_of_lt hb) (fun b hb _ => hbx.other b (by have : w.heap.size < b := hb; omega)), HBEL6.out.trans (hbx.chg.toBelowAt (by omega) (fun k hk e => by omega))⟩
            · have hfin : refDecode bs = ([], [], 210) := by
                rw [HWD2.out, if_neg]
                intro h
                simp only [Prod.mk.injEq] at h
                exact hok ⟨h.2, h.1⟩
              have HF := Lib.hid hfin
              have hcase : (((code : Nat) : Int) != 0) = true ∨ (code = 0 ∧ (cs == bs) = false) := by
                by_cases hc : code = 0
                · exact .inr ⟨hc, by simp; exact fun h => hok ⟨hc, h⟩⟩
                · exact .inl (by simp; omega)
              clear hfin hok
              rcases hcase with h | ⟨rfl, h⟩
              all_goals
                go_wp2_with fail
                have hbx := box2 HBR6.out (.slice none 0 0) (.slice none 0 0)
                obtain ⟨W, hW⟩ : ∃ W, W = (w6.setCell ⟨w.heap.size, 0, none⟩ (.slice none 0 0)).setCell ⟨w.heap.size, 1, none⟩ (.slice none 0 0) := ⟨_, rfl⟩
                rw [← hW] at hbx ⊢
                obtain ⟨r0, r1⟩ := cells2 hbx.at_
                refine bodyPost_ret (v := .tuple #[.agg #[.slice none 0 0, .slice none 0 0], .int .i64 ((210 : Nat) : Int)]) (by simp [results, Try.results17, go_sem, r0, r1]) rfl ?_
                rw [HF.out]
                exact ⟨none, 0, 0, none, 0, 0, rfl, SliceAt.nil _ _ _ _, SliceAt.nil _ _ _ _, HBEL6.out.trans (hbx.chg.toBelowAt (by omega) (fun k hk e => by omega))⟩
  · have hfin : refDecode bs = ([], [], 210) := by
      refine refDecode_no bs e1 x HR.out ?_
      by_cases he : e1 = 0
      · by_cases hy : y3 = 2
        · exact absurd ⟨he, hy⟩ hgood
        · exact .inr (by rw [← HN3.out]; exact hy)
      · exact .inl he
    have HF := Lib.hid hfin
    have hcase : (((e1 : Nat) : Int) != 0) = true ∨ (e1 = 0 ∧ (((y3 : Nat) : Int) != 2) = true) := by
      by_cases he : e1 = 0
      · by_cases hy : y3 = 2
        · exact absurd ⟨he, hy⟩ hgood
        · exact .inr ⟨he, by simp; omega⟩
      · exact .inl (by simp; omega)
    clear hfin hgood
    rcases hcase with h | ⟨rfl, h⟩
    all_goals
      go_wp2_with fail
      have hbx := box2 HB5.out (.slice none 0 0) (.slice none 0 0)
      obtain ⟨W, hW⟩ : ∃ W, W = (w5.setCell ⟨w.heap.size, 0, none⟩ (.slice none 0 0)).setCell ⟨w.heap.size, 1, none⟩ (.slice none 0 0) := ⟨_, rfl⟩
      rw [← hW] at hbx ⊢
      obtain ⟨r0, r1⟩ := cells2 hbx.at_
      have hlw : w.heap.size < W.heap.size := by rw [hbx.size]; exact h0
      refine bodyPost_ret (v := .tuple #[.agg #[.slice none 0 0, .slice none 0 0], .int .i64 ((210 : Nat) : Int)]) (by simp [results, Try.results17, go_sem, r0, r1, hlw]) rfl ?_
      rw [HF.out]
      exact WDecd.bad HBL.out hbx
end Go.Proofs.Ytndkkgkcbbmnpaa
