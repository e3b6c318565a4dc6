/-
  Contract of pergolaref02.Decode.
  pergolaref19.Decode: how far the gathering of a block's transactions has come; bounds.
-/
import Derived.Test.YtndkkgkcbbmnpaaQgAP
import Derived.Deep.DeepCutAuto
namespace Go.Proofs.Ytndkkgkcbbmnpaa
open Go.RowKit Go.Pg

set_option maxRecDepth 100000 in
set_option maxHeartbeats 2000000 in
theorem rdecode_any (F0 : Nat → Prop) (w : World) (a : Option Addr) (n c : Nat) (bs : List UInt8) (h0 : BytesAt F0 w (.slice a n c) bs) (hn : n ≤ 140737488351232) :
    Calls Try.prog 49 #[.slice a n c] w (Decd fresh w (rdWhole bs)) := by
  have hnl : n = bs.length := by
    obtain ⟨a', c', hv, h1, -⟩ := h0
    simp only [Value.slice.injEq] at hv
    exact hv.2.1
  obtain ⟨e1, y, t, hr⟩ : ∃ e1 y t, rdItem 8 bs = (e1, y, t) := ⟨_, _, _, rfl⟩
  have hrw : rdWhole bs = if e1 ≠ 0 then (e1, .text []) else if t ≠ [] then (24, .text []) else (0, y) := by unfold rdWhole; rw [hr]
  have herr := rdItem_err 8 bs
  rw [hr] at herr
  have hcall := rFirst_any F0 (w.alloc (.cells #[.bool false, .slice none 0 0, .slice none 0 0] 65)) a n c bs (BytesAt.below h0 (Bel.alloc (Bel.refl w) _)) hn
  rw [hr] at hcall
  have HC := Lib.hid hcall
  have HRW := Lib.hid hrw
  have HERR := Lib.hid herr
  have HNL := Lib.hid hnl
  clear h0 hnl hr hrw hcall herr
  go_enter Try.func49, Try.ntmps49
  go_wp2_with fail
  refine HC.out.mono ?_
  rintro e5 w5 ⟨l5, i1, y1, z1, i3, y3, z3, m, rfl, k1, k2, k3, k4⟩
  have hsz := k4.size
  simp only [World.size_alloc] at hsz
  have h0 : w.heap.size < w5.heap.size := by omega
  have hb5 := (k4.block w.heap.size (by simp)).trans (heap_alloc_new w _)
  have HB5 := Lib.hid hb5
  have K1 := Lib.hid k1
  have K2 := Lib.hid k2
  have K3 := Lib.hid k3
  have HBL := Lib.hid ((Bel.alloc (Bel.refl w) (.cells #[.bool false, .slice none 0 0, .slice none 0 0] 65)).trans (k4.mono (by simp)))
  obtain ⟨q0, q1, q2⟩ := cells3 hb5
  have f0 := frozen_of_row w5 w.heap.size 0 _ _ hb5
  have f1 := frozen_of_row w5 w.heap.size 1 _ _ hb5
  have f2 := frozen_of_row w5 w.heap.size 2 _ _ hb5
  clear hb5 k1 k2 k3 k4 hsz
  by_cases he : e1 = 0
  · subst he
    have hmn : m + t.length = n := K1.out rfl
    by_cases hlt : m < n
    · clear hmn
      go_wp2_with fail
      have hbx := box3 HB5.out (.bool false) (.slice none 0 0) (.slice none 0 0)
      obtain ⟨W, hW⟩ : ∃ W, W = ((w5.setCell ⟨w.heap.size, 0, none⟩ (.bool false)).setCell ⟨w.heap.size, 1, none⟩ (.slice none 0 0)).setCell ⟨w.heap.size, 2, none⟩ (.slice none 0 0) := ⟨_, rfl⟩
      rw [← hW] at hbx ⊢
      obtain ⟨r0, r1, r2⟩ := cells3 hbx.at_
      have hlw : w.heap.size < W.heap.size := by rw [hbx.size]; exact h0
      refine bodyPost_ret (v := .tuple #[.agg #[.bool false, .slice none 0 0, .slice none 0 0], .int .i64 ((24 : Nat) : Int)]) (by simp [results, Try.results49, go_sem, r0, r1, r2, hlw]) rfl ?_
      have ht : t ≠ [] := by intro h; have := K1.out trivial; rw [h] at this; simp at this; omega
      rw [HRW.out, if_neg (by simp), if_pos ht]
      exact ⟨false, none, 0, 0, none, 0, 0, rfl, ⟨_, _, rfl, BytesAt.nil _ _, SliceAt.nil _ _ _ _⟩, ((HBL.out.trans (hbx.chg.toBelowAt (by omega) (fun k hk e => by omega))).alloc (by omega) _)⟩
    · have ht : t = [] := List.eq_nil_of_length_eq_zero (by omega)
      have HT := Lib.hid ht
      clear ht hmn
      go_wp2_with fail
      have hbx := box3 HB5.out (.bool l5) (.slice i1 y1 z1) (.slice i3 y3 z3)
      obtain ⟨W, hW⟩ : ∃ W, W = ((w5.setCell ⟨w.heap.size, 0, none⟩ (.bool l5)).setCell ⟨w.heap.size, 1, none⟩ (.slice i1 y1 z1)).setCell ⟨w.heap.size, 2, none⟩ (.slice i3 y3 z3) := ⟨_, rfl⟩
      rw [← hW] at hbx ⊢
      obtain ⟨r0, r1, r2⟩ := cells3 hbx.at_
      have hlw : w.heap.size < W.heap.size := by rw [hbx.size]; exact h0
      refine bodyPost_ret (v := .tuple #[.agg #[.bool l5, .slice i1 y1 z1, .slice i3 y3 z3], .int .i64 ((0 : Nat) : Int)]) (by simp [results, Try.results49, go_sem, r0, r1, r2, hlw]) rfl ?_
      rw [HRW.out, if_neg (by simp), if_neg (by simp [HT.out])]
      refine ⟨l5, i1, y1, z1, i3, y3, z3, rfl, ?_, ((HBL.out.trans (hbx.chg.toBelowAt (by omega) (fun k hk e => by omega))).alloc (by omega) _)⟩
      refine K3.out.carry (fun b _ hb => Nat.le_trans (by simp) hb) (fun b hb hlt => ?_)
      have hb' : w.heap.size + 1 ≤ b := Nat.le_trans (by simp) hb
      rw [Below.heap_alloc _ _ _ (by rw [hbx.size]; exact hlt), hbx.other _ (by omega)]
  · have HE := Lib.hid he
    have hm : m = 0 := K2.out he
    have hy : y = .text [] := HERR.out he
    have ht : (((e1:Nat):Int) != 0) = true := by simp; omega
    have HY := Lib.hid hy
    subst hm
    clear he hy
    go_wp2_with fail
    have hbx := box3 HB5.out (.bool false) (.slice none 0 0) (.slice none 0 0)
    obtain ⟨W, hW⟩ : ∃ W, W = ((w5.setCell ⟨w.heap.size, 0, none⟩ (.bool false)).setCell ⟨w.heap.size, 1, none⟩ (.slice none 0 0)).setCell ⟨w.heap.size, 2, none⟩ (.slice none 0 0) := ⟨_, rfl⟩
    rw [← hW] at hbx ⊢
    obtain ⟨r0, r1, r2⟩ := cells3 hbx.at_
    have hlw : w.heap.size < W.heap.size := by rw [hbx.size]; exact h0
    refine bodyPost_ret (v := .tuple #[.agg #[.bool false, .slice none 0 0, .slice none 0 0], .int .i64 (e1 : Int)]) (by simp [results, Try.results49, go_sem, r0, r1, r2, hlw]) rfl ?_
    rw [HRW.out, if_pos HE.out]
    exact ⟨false, none, 0, 0, none, 0, 0, rfl, ⟨_, _, rfl, BytesAt.nil _ _, SliceAt.nil _ _ _ _⟩, ((HBL.out.trans (hbx.chg.toBelowAt (by omega) (fun k hk e => by omega))).alloc (by omega) _)⟩
end Go.Proofs.Ytndkkgkcbbmnpaa
namespace Go.Pg
open Go.RowKit
section
variable {P : Program}
/-- building an aggregate, as a step of a region that draws its order -/
theorem step_build_to {ops : Array Oper} {o : Oper} {a : Act} {w : World} {K : Act → World → Prop} {Q : Exit → Act → World → Prop} {E : Prop} (hgd : o.guard = none) (t : TypeId) (parts : Array (Nat × Operand)) (ho : o.op = .build t parts)
    (vs : List (Nat × Value)) (hv : (parts.map fun (i, x) => (i, a.eval x)).toList = vs) (cells : Array Value) (hb : P.built t vs = some cells)
    (h : K (a.put o.dst (.agg cells)) w) : if Region.wanted o (yielded ops a.tmps) = true then Oper.wp P o a w K Q else E := by
  rw [if_pos (by simp [Region.wanted, hgd])]
  exact wp_build t parts ho (by rw [hv, hb]; rfl) (by rw [hv, hb]; exact h)
theorem step_store_row {ops : Array Oper} {o : Oper} {a : Act} {w : World} {K : Act → World → Prop} {Q : Exit → Act → World → Prop} {E : Prop} (hgd : o.guard = none) (ty : TypeId) (x y : Operand) (ho : o.op = .store ty x y)
    (g : Nat) (cells : Array Value) (hx : a.eval x = .pointer (some ⟨g, 0, none⟩)) (hy : a.eval y = .agg cells)
    (t : TypeId) (old : Array Value) (hg : w.heap[g]? = some (.cells old t (0, 0))) (hi : (P.info? ty).map (·.size) = some cells.size)
    (hold : old.size = cells.size) (h1 : cells.all (·.oneCell') = true)
    (h : K (a.put o.dst undef) (w.setRow g cells)) : if Region.wanted o (yielded ops a.tmps) = true then Oper.wp P o a w K Q else E := by
  rw [if_pos (by simp [Region.wanted, hgd])]
  exact wp_store_row ty x y ho g cells hx hy t old hg hi hold h1 h
theorem step_load_row {ops : Array Oper} {o : Oper} {a : Act} {w : World} {K : Act → World → Prop} {Q : Exit → Act → World → Prop} {E : Prop} (hgd : o.guard = none) (ty : TypeId) (x : Operand) (ho : o.op = .load ty x)
    (g : Nat) (hx : a.eval x = .pointer (some ⟨g, 0, none⟩)) (t : TypeId) (cs : Array Value) (fr : Nat × Nat) (d : TypeDesc) (hg : w.heap[g]? = some (.cells cs t fr))
    (hu : P.underlying ty = some d) (hd : (match d with | .struct _ | .array _ _ => true | _ => false) = true) (hi : (P.info? ty).map (·.size) = some cs.size)
    (h : K (a.put o.dst (.agg cs)) w) : if Region.wanted o (yielded ops a.tmps) = true then Oper.wp P o a w K Q else E := by
  rw [if_pos (by simp [Region.wanted, hgd])]
  exact wp_load_row ty x ho g hx t cs fr d hg hu (by cases d <;> exact hd) hi h
end
theorem text_bytes_whole (y : It) : (It.text y.bytes).whole ≤ y.whole := by
  cases y with
  | text b => exact Nat.le_refl _
  | list l =>
    have h1 := It.whole_pos (It.list l)
    have h2 : (It.text (It.list l).bytes).whole = 1 := by simp [It.bytes, It.whole, plainB, sz]
    omega
theorem texts_wholes (l : List It) : It.wholes ((l.map It.bytes).map .text) ≤ It.wholes l := by
  induction l with
  | nil => simp [It.wholes]
  | cons y r ih =>
    have := text_bytes_whole y
    simp only [List.map_cons, It.wholes]; omega
theorem sz_le (n : Nat) (h : n ≤ 1152921504606846976) : sz n ≤ n + 9 := by
  have := number_le 8 n (by omega)
  unfold sz; split <;> omega
theorem blkI_whole (p : List UInt8) (nn bb : Nat) (l : List It) (hp : p.length = 32) (hnn : (nn : Int) < 18446744073709551616) (hbb : (bb : Int) < 18446744073709551616) (hl : It.wholes l ≤ 1099511627776) :
    (blkI p nn bb (l.map It.bytes)).whole ≤ 140737488351232 := by
  have h1 := texts_wholes l
  have h2 := sz_le (It.wholes ((l.map It.bytes).map .text)) (by omega)
  have h3 : (textsI (l.map It.bytes)).whole = sz (It.wholes ((l.map It.bytes).map .text)) := by simp [textsI, It.whole]
  have a1 := text_whole_le p (by omega)
  have a2 := text_whole_le (wordB nn) (by have := wordB_le nn hnn; omega)
  have a3 := text_whole_le (wordB bb) (by have := wordB_le bb hbb; omega)
  have b2 := wordB_le nn hnn
  have b3 := wordB_le bb hbb
  have h4 : (blkI p nn bb (l.map It.bytes)).whole = sz (It.wholes [.text p, .text (wordB nn), .text (wordB bb), textsI (l.map It.bytes)]) := by simp [blkI, It.whole]
  have h5 : It.wholes [.text p, .text (wordB nn), .text (wordB bb), textsI (l.map It.bytes)] = (It.text p).whole + ((It.text (wordB nn)).whole + ((It.text (wordB bb)).whole + (textsI (l.map It.bytes)).whole)) := by simp [It.wholes]
  have h6 := sz_le (It.wholes [.text p, .text (wordB nn), .text (wordB bb), textsI (l.map It.bytes)]) (by omega)
  omega
/-- what lies in an item of what was read is no more than what was read -/
theorem rdWhole_small (bs : List UInt8) (h : (rdWhole bs).1 = 0) (x : It) (hx : x ∈ (rdWhole bs).2.items) : x.items.length ≤ 16777215 ∧ It.wholes x.items ≤ 16777215 := by
  have h1 := read_items_small bs h
  have h2 := items_le_whole x
  have h3 := whole_le_mem _ _ hx
  have h6 := It.body_le_whole x
  have h7 := It.body_eq x
  omega
end Go.Pg
namespace Go.Proofs.Ytndkkgkcbbmnpaa
open Go.RowKit Go.Pg
/-- the transactions are being gathered -/
structure RTx (G : Nat → Prop) (wc : World) (g : Nat) (p : List UInt8) (nn bb : Nat) (wr : World) (T : List (List UInt8)) (v : Value) : Prop where
  chg : Chg (fun k => k = g) wc wr
  box : wr.heap[g]? = some (.cells (blkCells p nn bb v) 40 (0, 0))
  own : OwnList rowR G wc.heap.size wr 25 1 v T
  foot : ∀ b, G b → b < wc.heap.size ∧ b ≠ g
  lt : g < wc.heap.size
  len : p.length = 32
theorem RTx.push {G : Nat → Prop} {wc : World} {g : Nat} {p : List UInt8} {nn bb : Nat} {wr : World} {T : List (List UInt8)} {v : Value} (h : RTx G wc g p nn bb wr T v) {a : Option Addr} {n c : Nat} {y : List UInt8}
    (k1 : BytesAt G wr (.slice a n c) y) :
    ∃ R : List Value → List UInt8 → Prop, (∀ cs x, R cs x → ∀ u ∈ cs, u.oneCell' = true) ∧ OwnAt (wr.alloc (.cells #[.slice a n c] 25)).drew wc.heap.size 25 1 R v T ∧
      SliceAt (fun _ => True) (wr.alloc (.cells #[.slice a n c] 25)).drew 1 R (.slice (some ⟨wr.heap.size, 0, none⟩) 1 1) [y] ∧ wc.heap.size ≤ wr.heap.size ∧
      ∀ g' cap n' W2, OwnAt W2 wc.heap.size 25 1 R (.slice (some ⟨g', 0, none⟩) n' cap) (T ++ [y]) → (wr.alloc (.cells #[.slice a n c] 25)).drew.grownBy W2 v.ownBlock →
        Moved (wr.alloc (.cells #[.slice a n c] 25)).drew v (.slice (some ⟨g', 0, none⟩) n' cap) →
        W2.heap[g]? = some (.cells (blkCells p nn bb v) 40 (0, 0)) ∧ (∀ k, k < wc.heap.size → W2.heap[k]? = wr.heap[k]?) ∧
        RTx G wc g p nn bb (W2.setCell ⟨g, 34, none⟩ (.slice (some ⟨g', 0, none⟩) n' cap)) (T ++ [y]) (.slice (some ⟨g', 0, none⟩) n' cap) := by
  have hsz := h.chg.size
  have hown := h.own.own
  obtain ⟨R, g1, g2, g3, g4⟩ := h.own.push carriedRow (H := G) (cs := [.slice a n c]) (x := y) ⟨_, rfl, k1⟩ rfl (by decide) (fun b _ hb => ⟨hb, fun e => by have := (hown b e).1; have := (h.foot b hb).1; omega⟩) 25
  refine ⟨R, g1, g2.drew', g3.drew' (by decide), hsz, fun g' cap n' W2 ho hg hm => ?_⟩
  have hg0 : (wr.alloc (.cells #[.slice a n c] 25)).grownBy W2 v.ownBlock := ⟨hg.os, hg.tape, hg.output, hg.size, hg.block⟩
  have hOn := g4 _ W2 ho hg0 hm
  have hnew := hOn.own
  have hsg := hg0.size
  simp only [World.size_alloc] at hsg
  have hlt := h.lt
  have hW2 : ∀ k, k < wc.heap.size → W2.heap[k]? = wr.heap[k]? := fun k hk => by
    rw [hg0.block k (by simp; omega) (fun e => by have := (hown k e.symm).1; omega)]
    exact Below.heap_alloc _ _ _ (by omega)
  have hbox2 := (hW2 g hlt).trans h.box
  refine ⟨hbox2, hW2, ⟨?_, ?_, ?_, h.foot, h.lt, h.len⟩⟩
  · refine ⟨hg0.os.trans h.chg.os, hg0.tape.trans h.chg.tape, hg0.output.trans h.chg.output, by simp [World.setCell]; omega, fun k hk hn => ?_⟩
    rw [Below.heap_setCell _ _ _ _ (by show k ≠ g; exact hn), hW2 k hk]
    exact h.chg.block k hk hn
  · have := blk_set (i := 34) (v := .slice (some ⟨g', 0, none⟩) n' cap) hbox2
    rw [blkCells_set _ _ _ _ _ h.len] at this
    exact this
  · exact hOn.carry carriedRow (by simp) (fun b hb hlt => Below.heap_setCell _ _ _ _ (h.foot b hb).2) (fun k hk => Below.heap_setCell _ _ _ _ (by have := (hnew k hk).1; show k ≠ g; omega))
end Go.Proofs.Ytndkkgkcbbmnpaa
