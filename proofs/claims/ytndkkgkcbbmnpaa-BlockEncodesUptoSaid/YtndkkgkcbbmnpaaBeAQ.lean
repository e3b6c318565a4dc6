/-
  Contract of pergolaref02.Decode.
  pergolaref19.Decode: how far the gathering of a block's transactions has come; bounds.
  Every block's bytes, or that it has none; what is handed in stays as it is (the statement BlockEncodes, where what is read is of bulk at most 1048576).
-/
import Derived.Test.YtndkkgkcbbmnpaaBeAP
import Derived.Deep.DeepCutAuto
namespace Go.Proofs.Ytndkkgkcbbmnpaa
open Go.RowKit Go.Pg

set_option maxRecDepth 100000 in
set_option maxHeartbeats 2000000 in
theorem rdecode_any (F0 : Nat → Prop) (w : World) (a : Option Addr) (n c : Nat) (bs : List UInt8) (h0 : BytesAt F0 w (.slice a n c) bs) (hn : n ≤ 70368744177664) :
    Calls Try.prog 49 #[.slice a n c] w (Decd fresh w (rdWhole bs)) := by
  have hnl : n = bs.length := by
    obtain ⟨a', c', hv, h1, -⟩ := h0
    simp only [Value.slice.injEq] at hv
    exact hv.2.1
  obtain ⟨e1, y, t, hr⟩ : ∃ e1 y t, rdItem 8 bs = (e1, y, t) := ⟨_, _, _, rfl⟩
  have hrw : rdWhole bs = if e1 ≠ 0 then (e1, .text []) else if t ≠ [] then (24, .text []) else (0, y) := by unfold rdWhole; rw [hr]
  have herr := rdItem_err 8 bs
  rw [hr] at herr
  have hcall := rFirst_any F0 (w.alloc (.cells #[.bool false, .slice none 0 0, .slice none 0 0] 65)) a n c bs (BytesAt.below h0 (Bel.alloc (Bel.refl w) _)) hn
  rw [hr] at hcall
  have HC := Lib.hid hcall
  have HRW := Lib.hid hrw
  have HERR := Lib.hid herr
  have HNL := Lib.hid hnl
  clear h0 hnl hr hrw hcall herr
  go_enter Try.func49, Try.ntmps49
  go_wp2_with fail
  refine HC.out.mono ?_
  rintro e5 w5 ⟨l5, i1, y1, z1, i3, y3, z3, m, rfl, k1, k2, k3, k4⟩
  have hsz := k4.size
  simp only [World.size_alloc] at hsz
  have h0 : w.heap.size < w5.heap.size := by omega
  have hb5 := (k4.block w.heap.size (by simp)).trans (heap_alloc_new w _)
  have HB5 := Lib.hid hb5
  have K1 := Lib.hid k1
  have K2 := Lib.hid k2
  have K3 := Lib.hid k3
  have HBL := Lib.hid ((Bel.alloc (Bel.refl w) (.cells #[.bool false, .slice none 0 0, .slice none 0 0] 65)).trans (k4.mono (by simp)))
  obtain ⟨q0, q1, q2⟩ := cells3 hb5
  have f0 := frozen_of_row w5 w.heap.size 0 _ _ hb5
  have f1 := frozen_of_row w5 w.heap.size 1 _ _ hb5
  have f2 := frozen_of_row w5 w.heap.size 2 _ _ hb5
  clear hb5 k1 k2 k3 k4 hsz
  by_cases he : e1 = 0
  · subst he
    have hmn : m + t.length = n := K1.out rfl
    by_cases hlt : m < n
    · clear hmn
      go_wp2_with fail
      have hbx := box3 HB5.out (.bool false) (.slice none 0 0) (.slice none 0 0)
      obtain ⟨W, hW⟩ : ∃ W, W = ((w5.setCell ⟨w.heap.size, 0, none⟩ (.bool false)).setCell ⟨w.heap.size, 1, none⟩ (.slice none 0 0)).setCell ⟨w.heap.size, 2, none⟩ (.slice none 0 0) := ⟨_, rfl⟩
      rw [← hW] at hbx ⊢
      obtain ⟨r0, r1, r2⟩ := cells3 hbx.at_
      have hlw : w.heap.size < W.heap.size := by rw [hbx.size]; exact h0
      refine bodyPost_ret (v := .tuple #[.agg #[.bool false, .slice none 0 0, .slice none 0 0], .int .i64 ((24 : Nat) : Int)]) (by simp [results, Try.results49, go_sem, r0, r1, r2, hlw]) rfl ?_
      have ht : t ≠ [] := by intro h; have := K1.out trivial; rw [h] at this; simp at this; omega
      rw [HRW.out, if_neg (by simp), if_pos ht]
      exact ⟨false, none, 0, 0, none, 0, 0, rfl, ⟨_, _, rfl, BytesAt.nil _ _, SliceAt.nil _ _ _ _⟩, ((HBL.out.trans (hbx.chg.toBelowAt (by omega) (fun k hk e => by omega))).alloc (by omega) _)⟩
    · have ht : t = [] := List.eq_nil_of_length_eq_zero (by omega)
      have HT := Lib.hid ht
      clear ht hmn
      go_wp2_with fail
      have hbx := box3 HB5.out (.bool l5) (.slice i1 y1 z1) (.slice i3 y3 z3)
      obtain ⟨W, hW⟩ : ∃ W, W = ((w5.setCell ⟨w.heap.size, 0, none⟩ (.bool l5)).setCell ⟨w.heap.size, 1, none⟩ (.slice i1 y1 z1)).setCell ⟨w.heap.size, 2, none⟩ (.slice i3 y3 z3) := ⟨_, rfl⟩
      rw [← hW] at hbx ⊢
      obtain ⟨r0, r1, r2⟩ := cells3 hbx.at_
      have hlw : w.heap.size < W.heap.size := by rw [hbx.size]; exact h0
      refine bodyPost_ret (v := .tuple #[.agg #[.bool l5, .slice i1 y1 z1, .slice i3 y3 z3], .int .i64 ((0 : Nat) : Int)]) (by simp [results, Try.results49, go_sem, r0, r1, r2, hlw]) rfl ?_
      rw [HRW.out, if_neg (by simp), if_neg (by simp [HT.out])]
      refine ⟨l5, i1, y1, z1, i3, y3, z3, rfl, ?_, ((HBL.out.trans (hbx.chg.toBelowAt (by omega) (fun k hk e => by omega))).alloc (by omega) _)⟩
      refine K3.out.carry (fun b _ hb => Nat.le_trans (by simp) hb) (fun b hb hlt => ?_)
      have hb' : w.heap.size + 1 ≤ b := Nat.le_trans (by simp) hb
      rw [Below.heap_alloc _ _ _ (by rw [hbx.size]; exact hlt), hbx.other _ (by omega)]
  · have HE := Lib.hid he
    have hm : m = 0 := K2.out he
    have hy : y = .text [] := HERR.out he
    have ht : (((e1:Nat):Int) != 0) = true := by simp; omega
    have HY := Lib.hid hy
    subst hm
    clear he hy
    go_wp2_with fail
    have hbx := box3 HB5.out (.bool false) (.slice none 0 0) (.slice none 0 0)
    obtain ⟨W, hW⟩ : ∃ W, W = ((w5.setCell ⟨w.heap.size, 0, none⟩ (.bool false)).setCell ⟨w.heap.size, 1, none⟩ (.slice none 0 0)).setCell ⟨w.heap.size, 2, none⟩ (.slice none 0 0) := ⟨_, rfl⟩
    rw [← hW] at hbx ⊢
    obtain ⟨r0, r1, r2⟩ := cells3 hbx.at_
    have hlw : w.heap.size < W.heap.size := by rw [hbx.size]; exact h0
    refine bodyPost_ret (v := .tuple #[.agg #[.bool false, .slice none 0 0, .slice none 0 0], .int .i64 (e1 : Int)]) (by simp [results, Try.results49, go_sem, r0, r1, r2, hlw]) rfl ?_
    rw [HRW.out, if_pos HE.out]
    exact ⟨false, none, 0, 0, none, 0, 0, rfl, ⟨_, _, rfl, BytesAt.nil _ _, SliceAt.nil _ _ _ _⟩, ((HBL.out.trans (hbx.chg.toBelowAt (by omega) (fun k hk e => by omega))).alloc (by omega) _)⟩
end Go.Proofs.Ytndkkgkcbbmnpaa
namespace Go.Pg
open Go.RowKit
section
variable {P : Program}
/-- building an aggregate, as a step of a region that draws its order -/
theorem step_build_to {ops : Array Oper} {o : Oper} {a : Act} {w : World} {K : Act → World → Prop} {Q : Exit → Act → World → Prop} {E : Prop} (hgd : o.guard = none) (t : TypeId) (parts : Array (Nat × Operand)) (ho : o.op = .build t parts)
    (vs : List (Nat × Value)) (hv : (parts.map fun (i, x) => (i, a.eval x)).toList = vs) (cells : Array Value) (hb : P.built t vs = some cells)
    (h : K (a.put o.dst (.agg cells)) w) : if Region.wanted o (yielded ops a.tmps) = true then Oper.wp P o a w K Q else E := by
  rw [if_pos (by simp [Region.wanted, hgd])]
  exact wp_build t parts ho (by rw [hv, hb]; rfl) (by rw [hv, hb]; exact h)
theorem step_store_row {ops : Array Oper} {o : Oper} {a : Act} {w : World} {K : Act → World → Prop} {Q : Exit → Act → World → Prop} {E : Prop} (hgd : o.guard = none) (ty : TypeId) (x y : Operand) (ho : o.op = .store ty x y)
    (g : Nat) (cells : Array Value) (hx : a.eval x = .pointer (some ⟨g, 0, none⟩)) (hy : a.eval y = .agg cells)
    (t : TypeId) (old : Array Value) (hg : w.heap[g]? = some (.cells old t (0, 0))) (hi : (P.info? ty).map (·.size) = some cells.size)
    (hold : old.size = cells.size) (h1 : cells.all (·.oneCell') = true)
    (h : K (a.put o.dst undef) (w.setRow g cells)) : if Region.wanted o (yielded ops a.tmps) = true then Oper.wp P o a w K Q else E := by
  rw [if_pos (by simp [Region.wanted, hgd])]
  exact wp_store_row ty x y ho g cells hx hy t old hg hi hold h1 h
theorem step_load_row {ops : Array Oper} {o : Oper} {a : Act} {w : World} {K : Act → World → Prop} {Q : Exit → Act → World → Prop} {E : Prop} (hgd : o.guard = none) (ty : TypeId) (x : Operand) (ho : o.op = .load ty x)
    (g : Nat) (hx : a.eval x = .pointer (some ⟨g, 0, none⟩)) (t : TypeId) (cs : Array Value) (fr : Nat × Nat) (d : TypeDesc) (hg : w.heap[g]? = some (.cells cs t fr))
    (hu : P.underlying ty = some d) (hd : (match d with | .struct _ | .array _ _ => true | _ => false) = true) (hi : (P.info? ty).map (·.size) = some cs.size)
    (h : K (a.put o.dst (.agg cs)) w) : if Region.wanted o (yielded ops a.tmps) = true then Oper.wp P o a w K Q else E := by
  rw [if_pos (by simp [Region.wanted, hgd])]
  exact wp_load_row ty x ho g hx t cs fr d hg hu (by cases d <;> exact hd) hi h
end
theorem text_bytes_whole (y : It) : (It.text y.bytes).whole ≤ y.whole := by
  cases y with
  | text b => exact Nat.le_refl _
  | list l =>
    have h1 := It.whole_pos (It.list l)
    have h2 : (It.text (It.list l).bytes).whole = 1 := by simp [It.bytes, It.whole, plainB, sz]
    omega
theorem texts_wholes (l : List It) : It.wholes ((l.map It.bytes).map .text) ≤ It.wholes l := by
  induction l with
  | nil => simp [It.wholes]
  | cons y r ih =>
    have := text_bytes_whole y
    simp only [List.map_cons, It.wholes]; omega
theorem sz_le (n : Nat) (h : n ≤ 1152921504606846976) : sz n ≤ n + 9 := by
  have := number_le 8 n (by omega)
  unfold sz; split <;> omega
theorem blkI_whole (p : List UInt8) (nn bb : Nat) (l : List It) (hp : p.length = 32) (hnn : (nn : Int) < 18446744073709551616) (hbb : (bb : Int) < 18446744073709551616) (hl : It.wholes l ≤ 1099511627776) :
    (blkI p nn bb (l.map It.bytes)).whole ≤ 70368744177664 := by
  have h1 := texts_wholes l
  have h2 := sz_le (It.wholes ((l.map It.bytes).map .text)) (by omega)
  have h3 : (textsI (l.map It.bytes)).whole = sz (It.wholes ((l.map It.bytes).map .text)) := by simp [textsI, It.whole]
  have a1 := text_whole_le p (by omega)
  have a2 := text_whole_le (wordB nn) (by have := wordB_le nn hnn; omega)
  have a3 := text_whole_le (wordB bb) (by have := wordB_le bb hbb; omega)
  have b2 := wordB_le nn hnn
  have b3 := wordB_le bb hbb
  have h4 : (blkI p nn bb (l.map It.bytes)).whole = sz (It.wholes [.text p, .text (wordB nn), .text (wordB bb), textsI (l.map It.bytes)]) := by simp [blkI, It.whole]
  have h5 : It.wholes [.text p, .text (wordB nn), .text (wordB bb), textsI (l.map It.bytes)] = (It.text p).whole + ((It.text (wordB nn)).whole + ((It.text (wordB bb)).whole + (textsI (l.map It.bytes)).whole)) := by simp [It.wholes]
  have h6 := sz_le (It.wholes [.text p, .text (wordB nn), .text (wordB bb), textsI (l.map It.bytes)]) (by omega)
  omega
/-- what lies in an item of what was read is no more than what was read -/
theorem rdWhole_small (bs : List UInt8) (h : (rdWhole bs).1 = 0) (x : It) (hx : x ∈ (rdWhole bs).2.items) : x.items.length ≤ bs.length ∧ It.wholes x.items ≤ bs.length := by
  have hs := (rdWhole_sound bs _ (Prod.ext h rfl)).1
  have h1 := It.enc_length (rdWhole bs).2
  rw [← hs] at h1
  have h2 := items_le_whole x
  have h3 := whole_le_mem _ _ hx
  have h4 := It.body_le_whole (rdWhole bs).2
  have h5 := It.body_eq (rdWhole bs).2
  have h6 := It.body_le_whole x
  have h7 := It.body_eq x
  omega
end Go.Pg
namespace Go.Proofs.Ytndkkgkcbbmnpaa
open Go.RowKit Go.Pg
/-- the transactions are being gathered -/
structure RTx (G : Nat → Prop) (wc : World) (g : Nat) (p : List UInt8) (nn bb : Nat) (wr : World) (T : List (List UInt8)) (v : Value) : Prop where
  chg : Chg (fun k => k = g) wc wr
  box : wr.heap[g]? = some (.cells (blkCells p nn bb v) 40 (0, 0))
  own : OwnList rowR G wc.heap.size wr 25 1 v T
  foot : ∀ b, G b → b < wc.heap.size ∧ b ≠ g
  lt : g < wc.heap.size
  len : p.length = 32
theorem RTx.push {G : Nat → Prop} {wc : World} {g : Nat} {p : List UInt8} {nn bb : Nat} {wr : World} {T : List (List UInt8)} {v : Value} (h : RTx G wc g p nn bb wr T v) {a : Option Addr} {n c : Nat} {y : List UInt8}
    (k1 : BytesAt G wr (.slice a n c) y) :
    ∃ R : List Value → List UInt8 → Prop, (∀ cs x, R cs x → ∀ u ∈ cs, u.oneCell' = true) ∧ OwnAt (wr.alloc (.cells #[.slice a n c] 25)).drew wc.heap.size 25 1 R v T ∧
      SliceAt (fun _ => True) (wr.alloc (.cells #[.slice a n c] 25)).drew 1 R (.slice (some ⟨wr.heap.size, 0, none⟩) 1 1) [y] ∧ wc.heap.size ≤ wr.heap.size ∧
      ∀ g' cap n' W2, OwnAt W2 wc.heap.size 25 1 R (.slice (some ⟨g', 0, none⟩) n' cap) (T ++ [y]) → (wr.alloc (.cells #[.slice a n c] 25)).drew.grownBy W2 v.ownBlock →
        Moved (wr.alloc (.cells #[.slice a n c] 25)).drew v (.slice (some ⟨g', 0, none⟩) n' cap) →
        W2.heap[g]? = some (.cells (blkCells p nn bb v) 40 (0, 0)) ∧ (∀ k, k < wc.heap.size → W2.heap[k]? = wr.heap[k]?) ∧
        RTx G wc g p nn bb (W2.setCell ⟨g, 34, none⟩ (.slice (some ⟨g', 0, none⟩) n' cap)) (T ++ [y]) (.slice (some ⟨g', 0, none⟩) n' cap) := by
  have hsz := h.chg.size
  have hown := h.own.own
  obtain ⟨R, g1, g2, g3, g4⟩ := h.own.push carriedRow (H := G) (cs := [.slice a n c]) (x := y) ⟨_, rfl, k1⟩ rfl (by decide) (fun b _ hb => ⟨hb, fun e => by have := (hown b e).1; have := (h.foot b hb).1; omega⟩) 25
  refine ⟨R, g1, g2.drew', g3.drew' (by decide), hsz, fun g' cap n' W2 ho hg hm => ?_⟩
  have hg0 : (wr.alloc (.cells #[.slice a n c] 25)).grownBy W2 v.ownBlock := ⟨hg.os, hg.tape, hg.output, hg.size, hg.block⟩
  have hOn := g4 _ W2 ho hg0 hm
  have hnew := hOn.own
  have hsg := hg0.size
  simp only [World.size_alloc] at hsg
  have hlt := h.lt
  have hW2 : ∀ k, k < wc.heap.size → W2.heap[k]? = wr.heap[k]? := fun k hk => by
    rw [hg0.block k (by simp; omega) (fun e => by have := (hown k e.symm).1; omega)]
    exact Below.heap_alloc _ _ _ (by omega)
  have hbox2 := (hW2 g hlt).trans h.box
  refine ⟨hbox2, hW2, ⟨?_, ?_, ?_, h.foot, h.lt, h.len⟩⟩
  · refine ⟨hg0.os.trans h.chg.os, hg0.tape.trans h.chg.tape, hg0.output.trans h.chg.output, by simp [World.setCell]; omega, fun k hk hn => ?_⟩
    rw [Below.heap_setCell _ _ _ _ (by show k ≠ g; exact hn), hW2 k hk]
    exact h.chg.block k hk hn
  · have := blk_set (i := 34) (v := .slice (some ⟨g', 0, none⟩) n' cap) hbox2
    rw [blkCells_set _ _ _ _ _ h.len] at this
    exact this
  · exact hOn.carry carriedRow (by simp) (fun b hb hlt => Below.heap_setCell _ _ _ _ (h.foot b hb).2) (fun k hk => Below.heap_setCell _ _ _ _ (by have := (hnew k hk).1; show k ≠ g; omega))
end Go.Proofs.Ytndkkgkcbbmnpaa
namespace Go.Proofs.Ytndkkgkcbbmnpaa
open Go.ChangeShapes Go.WideShapes Go.ChangeAt Go.RowKit Go.Pg

set_option maxRecDepth 100000 in
set_option maxHeartbeats 16000000 in
theorem bencodes_walk (w : World) (x : Blk) (ho : x.ok) (a : Option Addr) (c : Nat) (hT : RowsAt (fun b => b < w.heap.size) w (.slice a x.T.length c) x.T) (hsum : (x.T.map fun y => y.length + 1).sum ≤ 1048576) :
    Calls Try.prog 6 #[.agg (blkCells x.p x.nn x.bb (.slice a x.T.length c))] w fun e w' => e = .returned (.bool true) ∧ Below w.heap.size w w' := by
  obtain ⟨ZB, hZB⟩ : ∃ ZR : Array Value, ZR = #[.int .u8 0, .int .u8 0, .int .u8 0, .int .u8 0, .int .u8 0, .int .u8 0, .int .u8 0, .int .u8 0, .int .u8 0, .int .u8 0, .int .u8 0, .int .u8 0, .int .u8 0, .int .u8 0, .int .u8 0, .int .u8 0, .int .u8 0, .int .u8 0, .int .u8 0, .int .u8 0, .int .u8 0, .int .u8 0, .int .u8 0, .int .u8 0, .int .u8 0, .int .u8 0, .int .u8 0, .int .u8 0, .int .u8 0, .int .u8 0, .int .u8 0, .int .u8 0, .int .u64 0, .int .u64 0, .slice none 0 0] := ⟨_, rfl⟩
  obtain ⟨fs, hu⟩ := underlyingBlk
  have hwh := blk_whole x ho _ rfl hsum
  have hTn : x.T.length ≤ 1048576 := by
    have : ∀ l : List (List UInt8), l.length ≤ (l.map fun y => y.length + 1).sum := fun l => by
      induction l with
      | nil => simp
      | cons y r ih => simp only [List.map_cons, List.sum_cons, List.length_cons]; omega
    have := this x.T; omega
  have hTm : ∀ y ∈ x.T, y.length ≤ 1048576 := fun y hy => by
    have : ∀ l : List (List UInt8), y ∈ l → y.length ≤ (l.map fun y => y.length + 1).sum := fun l => by
      induction l with
      | nil => intro h; cases h
      | cons z r ih =>
        intro h
        simp only [List.map_cons, List.sum_cons]
        rcases List.mem_cons.1 h with rfl | h
        · omega
        · have := ih h; omega
    have := this x.T hy; omega
  obtain ⟨⟨p, nn, bb, T⟩, rfl⟩ : ∃ y, y = x := ⟨_, rfl⟩
  simp only at hT hsum hwh hTn hTm
  have hpl := ho.p
  have hnnl := ho.nn
  have hbbl := ho.bb
  simp only at hpl hnnl hbbl
  obtain ⟨n, hn⟩ : ∃ n, n = T.length := ⟨_, rfl⟩
  rw [← hn] at hT hTn ⊢
  obtain ⟨BC, hBC⟩ : ∃ C, C = blkCells p nn bb (.slice a n c) := ⟨_, rfl⟩
  obtain ⟨Y, hY⟩ : ∃ Y, Y = blkEncode p nn bb T := ⟨_, rfl⟩
  obtain ⟨W0, hW0⟩ : ∃ W : World, W = w.alloc (.cells BC 40) := ⟨_, rfl⟩
  have hs0 : W0.heap.size = w.heap.size + 1 := by rw [hW0]; simp
  have hk0 : W0.heap[w.heap.size]? = some (.cells BC 40 (0, 0)) := by rw [hW0]; exact heap_alloc_new w _
  obtain ⟨W1, hW1⟩ : ∃ W : World, W = (W0.alloc (.cells ZB 40)).setRow (w.heap.size + 1) BC := ⟨_, rfl⟩
  have hz1 : (W0.alloc (.cells ZB 40)).heap[w.heap.size + 1]? = some (.cells ZB 40 (0, 0)) := by rw [← hs0]; exact heap_alloc_new W0 _
  have hk1 : W1.heap[w.heap.size + 1]? = some (.cells BC 40 (0, 0)) := by rw [hW1]; exact setRow_heap _ _ _ _ _ _ hz1
  have hb01 : Below W0.heap.size W0 W1 := by rw [hW1]; exact below_setRow (Bel.alloc (Bel.refl W0) _) (by omega) _
  have hb1 : Below w.heap.size w W1 := Bel.call (by rw [hW0]; exact Bel.alloc (Bel.refl w) _) hb01
  have hk10 : W1.heap[w.heap.size]? = some (.cells BC 40 (0, 0)) := (hb01.block _ (by omega)).trans hk0
  obtain ⟨wc, hwc⟩ : ∃ W : World, W = W1.setCell ⟨w.heap.size + 1, 34, none⟩ (.slice none 0 0) := ⟨_, rfl⟩
  have hbc : Below w.heap.size w wc := by rw [hwc]; exact Below.setCell hb1 (by show w.heap.size ≤ w.heap.size + 1; omega) _
  have hkc : wc.heap[w.heap.size + 1]? = some (.cells (blkCells p nn bb (.slice none 0 0)) 40 (0, 0)) := by
    rw [hBC] at hk1
    have := blk_set (i := 34) (v := .slice none 0 0) hk1
    rw [blkCells_set _ _ _ _ _ hpl, ← hwc] at this
    exact this
  have hkc0 : wc.heap[w.heap.size]? = some (.cells BC 40 (0, 0)) := by rw [hwc, Below.heap_setCell _ _ _ _ (by show w.heap.size ≠ w.heap.size + 1; omega)]; exact hk10
  have hltc := (Array.getElem?_eq_some_iff.1 hkc).1
  have q34 : W1.cell? ⟨w.heap.size, 34, none⟩ = some (.slice a n c) := (blk_facts (t := 40) hpl (by rw [hk10, hBC])).2.2.2
  have s34 : W1.cell? ⟨w.heap.size + 1, 34, none⟩ = some (.slice a n c) := (blk_facts (t := 40) hpl (by rw [hk1, hBC])).2.2.2
  have t34 : wc.cell? ⟨w.heap.size, 34, none⟩ = some (.slice a n c) := (blk_facts (t := 40) hpl (by rw [hkc0, hBC])).2.2.2
  have f34 : W1.frozen? ⟨w.heap.size + 1, 34, none⟩ = false := frozen_of_row W1 (w.heap.size + 1) 34 _ _ hk1
  have hTc : RowsAt (fun b => b < w.heap.size) wc (.slice a n c) T := RowsAt.below hT hbc
  have hEN : ∀ (F : Nat → Prop) (W : World) (v : Value), RowsAt F W v T → Calls Try.prog 19 #[.agg (blkCells p nn bb v)] W (Encd W Y) := fun F W v hb => by
    rw [hY]
    exact bencode_any F W p nn bb v T hpl hnnl hbbl hb (by omega) (fun y hy => by have := hTm y hy; omega) (by omega)
  have hRE : ∀ (F : Nat → Prop) (W : World) (v : Value), RowsAt F W v T → Calls Try.prog 20 #[.agg (blkCells p nn bb v)] W (Encd W Y) := fun F W v hb => by
    rw [hY]
    exact rbencode_any F W p nn bb v T hpl hnnl hbbl hb (by omega) (by omega)
  have hst : GTx wc (w.heap.size + 1) p nn bb wc (T.take 0) (.slice none 0 0) := ⟨Chg.refl _ _, hkc, OwnList.nil, hltc, hpl⟩
  have HIBC := Lib.hid (show (Try.prog.info? 40).map (·.size) = some BC.size by rw [hBC, blkCells_size _ _ _ _ hpl]; exact infoBlk)
  have HOBC := Lib.hid (show BC.all (·.oneCell') = true by rw [hBC]; exact blkCells_one _ _ _ _ _ _)
  have HSBC := Lib.hid (show ZB.size = BC.size by rw [hBC, blkCells_size _ _ _ _ hpl, hZB]; rfl)
  have HZB := Lib.hid hZB
  have HU := Lib.hid hu
  have HPL := Lib.hid hpl
  have HW0 := Lib.hid hW0
  have HS0 := Lib.hid hs0
  have HK0 := Lib.hid hk0
  have HZ1 := Lib.hid hz1
  have HW1 := Lib.hid hW1
  have HWC := Lib.hid hwc
  have HBC := Lib.hid hbc
  have HEBC := Lib.hid hBC
  have HKC0 := Lib.hid hkc0
  have HTC := Lib.hid hTc
  have HT34 := Lib.hid t34
  have HEN := Lib.hid hEN
  have HRE := Lib.hid hRE
  have HST := Lib.hid hst
  have HN := Lib.hid hn
  have HTM := Lib.hid hTm
  rw [← hBC]
  clear hZB hu hwh hTm hpl hnnl hbbl hBC hY hW0 hs0 hk0 hW1 hz1 hk1 hb01 hb1 hk10 hwc hbc hkc hkc0 t34 hTc hEN hRE hst hn hT hsum ho
  obtain ⟨E1, E2⟩ := Y
  go_enter Try.func6, Try.ntmps6
  go_wp2_with (first
    | ((try rw [← HW0.out]); ((with_reducible refine wpL_load_row_w 40 (.tmp 1) w.heap.size BC 40 (.struct fs) ?_ ⟨HK0.out, HU.out, rfl, HIBC.out⟩ ?_); (exact ⟨rfl, rfl, rfl⟩)))
    | ((try rw [← HW0.out]); (try rw [HS0.out]); (rw [← HZB.out]; (with_reducible refine wpL_store_row 40 (.tmp 3) (.tmp 9) (w.heap.size + 1) BC 40 ZB ?_ ⟨HZ1.out, HIBC.out, HSBC.out, HOBC.out⟩ ?_); (exact ⟨rfl, rfl, rfl, rfl⟩); rw [← HW1.out])))
  rw [← HWC.out]
  go_loopw [14] (fun i wr => ∃ (k : Nat) (av : Option Addr) (cv : Nat), k ≤ n ∧ i = .int .i64 k ∧ Hid (GTx wc (w.heap.size + 1) p nn bb wr (T.take k) (.slice av k cv))) (fun i _ => n - (intOf i).toNat)
  case atStart => exact ⟨0, none, 0, Nat.zero_le _, rfl, HST⟩
  case round =>
    clear q34 s34 f34
    obtain ⟨k, av, cv, hk, rfl, HR⟩ := hrel
    have hblk : ∀ j, j < wc.heap.size → j ≠ w.heap.size + 1 → wr.heap[j]? = wc.heap[j]? := fun j h1 h2 => HR.out.chg.block j h1 h2
    have c34 := (cell_same (o := 34) (hblk w.heap.size (by omega) (by omega))).trans HT34.out
    have hwr := HR.out.chg.size
    by_cases hlt : k < n
    · have hTr : RowsAt (fun b => b < w.heap.size) wr (.slice a n c) T := RowsAt.carry HTC.out (fun _ _ x => x) (fun j hj hlt => hblk j hlt (by omega))
      have hkT : k < T.length := by have := HN.out; omega
      rcases SliceAt.split hTr with ⟨-, h0⟩ | ⟨b2, o2, rfl, -, -, hb2G⟩
      · omega
      obtain ⟨u, hcu, hbu⟩ := RowsAt.cell hTr k hkT
      obtain ⟨au, cu, hu', hul, hum, -⟩ := SliceAt.len hbu
      obtain ⟨y, hy⟩ : ∃ y, y = T[k] := ⟨_, rfl⟩
      have hyl : y.length ≤ 1048576 := by rw [hy]; exact HTM.out _ (List.getElem_mem _)
      obtain ⟨m, hm⟩ : ∃ m, m = y.length := ⟨_, rfl⟩
      rw [← hy] at hbu hu' hul
      subst hu'
      rw [← hm] at hcu hbu
      have htk : T.take (k + 1) = T.take k ++ [y] := by rw [List.take_succ_eq_append_getElem hkT, hy]
      obtain ⟨Tk, hTk⟩ : ∃ t, t = T.take k := ⟨_, rfl⟩
      rw [← hTk] at HR htk
      have hTl : Tk.length = k := by rw [hTk]; simp; omega
      have g34 := (blk_facts HPL.out HR.out.box).2.2.2
      have hgr : w.heap.size + 1 < wr.heap.size := by omega
      obtain ⟨A, hA⟩ : ∃ W : World, W = (wr.alloc (.cells #[] 5)).drew := ⟨_, rfl⟩
      have hbA : Below wr.heap.size wr A := by rw [hA]; exact Bel.drew (Bel.alloc (Bel.refl wr) _)
      have a34 := cell_below hbA g34
      have hownA : OwnAt A wr.heap.size 5 1 byteR (.slice (some ⟨wr.heap.size, 0, none⟩) 0 0) ([] : List UInt8) := by
        have : OwnAt (wr.alloc (.cells #[] 5)) wr.heap.size 5 1 byteR (.slice (some ⟨wr.heap.size, 0, none⟩) 0 0) ([] : List UInt8) := ⟨[], World.ownsRow_made wr #[] 0 (Nat.le_refl _) (by decide) rfl, Rows.nil _ _⟩
        rw [hA]; exact this.drew'
      have hsrcA : BytesAt (fun b => b < w.heap.size) A (.slice au m cu) y := BytesAt.below hbu hbA
      have hbaseA : wr.heap.size ≤ A.heap.size := hbA.size
      have hle8 : (([] : List UInt8).length + y.length) * 1 ≤ 140737488355328 := by simp; omega
      obtain ⟨S2, hS2⟩ : ∃ S : World → Prop, S = fun W => ∀ j, j < wc.heap.size → j ≠ w.heap.size + 1 → W.heap[j]? = wc.heap[j]? := ⟨_, rfl⟩
      have hkp : ∀ W : World, (∀ j, j < wc.heap.size → j ≠ w.heap.size + 1 → W.heap[j]? = wc.heap[j]?) → S2 W := fun W hW => by rw [hS2]; exact hW
      have hgt : ∀ W : World, S2 W → W.cell? ⟨w.heap.size, 34, none⟩ = some (.slice (some ⟨b2, o2, none⟩) n c) ∧ W.cell? ⟨b2, o2 + k, none⟩ = some (.slice au m cu) := fun W hW => by
        rw [hS2] at hW
        have hb2 : b2 < w.heap.size := hb2G
        exact ⟨(cell_same (hW _ (by omega) (by omega))).trans HT34.out, (cell_same ((hW b2 (by omega) (by omega)).trans (hblk b2 (by omega) (by omega)).symm)).trans hcu⟩
      have hle : (Tk.length + [y].length) * 24 ≤ 140737488355328 := by rw [hTl]; simp; omega
      have hln : Tk.length + [y].length = k + 1 := by rw [hTl]; rfl
      have hk0 : (0 : Int) ≤ (k : Int) := by omega
      have hk1 : (k : Int) < (n : Int) := by omega
      have HS0' := Lib.hid (hkp wr.drew hblk)
      have HSA := Lib.hid (hkp A fun j h1 h2 => (hbA.block j (by omega)).trans (hblk j h1 h2))
      have HKP2 := Lib.hid hkp
      have HS2 := Lib.hid hgt
      have HTK := Lib.hid htk
      have HLN := Lib.hid hln
      have HA := Lib.hid hA
      have HBA := Lib.hid hbA
      have HOA := Lib.hid hownA
      have HSRC := Lib.hid hsrcA
      have HLE8 := Lib.hid hle8
      have HM := Lib.hid hm
      obtain ⟨i8, hi8, hy0, hy1, hy2⟩ := info_parts infoU8
      obtain ⟨i0r, hi, hz0, hz1, hz2⟩ := info_parts infoRow
      clear hblk hTr hkT hcu hbu hul hum hy hyl hm htk hTk hTl hA hbA hownA hsrcA hle8 hS2 hkp hgt hln hb2G
      go_wp2_with fail
      refine wp_region_held_drew (S := S2) (by kernel_rfl) HS0'.out (fun hHeld => ?_)
      refine wpAnyH_take (i := 0) (op_at rfl) (by kernel_rfl) (by kernel_rfl) (by kernel_rfl) (fun _ _ _ h => h) (Or.inl ⟨by rfl, by intro W hSw; go_simp; (try with_reducible rfl)⟩) hHeld ?_
      simp only [Act.put, List.setIfInBounds_toArray, List.set_cons_zero, List.set_cons_succ]
      refine wpAnyH_take (i := 3) (op_at rfl) (by kernel_rfl) (by kernel_rfl) (by kernel_rfl) (fun _ _ _ h => h) (Or.inl ⟨by rfl, by intro W hSw; go_simp; (try with_reducible rfl)⟩) hHeld ?_
      simp only [Act.put, List.setIfInBounds_toArray, List.set_cons_zero, List.set_cons_succ]
      refine wpAnyH_take (i := 4) (op_at rfl) (by kernel_rfl) (by kernel_rfl) (by kernel_rfl) (fun _ _ _ h => h) (Or.inl ⟨by rfl, by intro W hSw; have hc := (HS2.out W hSw).1; go_simp; (try with_reducible rfl)⟩) hHeld ?_
      simp only [Act.put, List.setIfInBounds_toArray, List.set_cons_zero, List.set_cons_succ]
      refine wpAnyH_take (i := 5) (op_at rfl) (by kernel_rfl) (by kernel_rfl) (by kernel_rfl) (fun _ _ _ h => h) (Or.inl ⟨by rfl, by intro W hSw; go_simp; (try with_reducible rfl)⟩) hHeld ?_
      simp only [Act.put, List.setIfInBounds_toArray, List.set_cons_zero, List.set_cons_succ]
      refine wpAnyH_take (i := 6) (op_at rfl) (by kernel_rfl) (by kernel_rfl) (by kernel_rfl) (fun _ _ _ h => h) (Or.inl ⟨by rfl, by intro W hSw; go_simp; (try with_reducible rfl)⟩) hHeld ?_
      simp only [Act.put, List.setIfInBounds_toArray, List.set_cons_zero, List.set_cons_succ]
      refine wpAnyH_take (i := 7) (op_at rfl) (by kernel_rfl) (by kernel_rfl) (by kernel_rfl) (fun _ _ _ h => h) (Or.inl ⟨by rfl, by intro W hSw; have hc := (HS2.out W hSw).2; go_simp; (try with_reducible rfl)⟩) hHeld ?_
      simp only [Act.put, List.setIfInBounds_toArray, List.set_cons_zero, List.set_cons_succ]
      refine wpAnyH_ready (rs := [1, 2]) (by kernel_rfl) (by simp) (AllReadyH.cons (op_at rfl) (fun K hK => ?_) (AllReadyH.cons (op_at rfl) (fun K hK => ?_) (AllReadyH.nil)))
      · clear hHeld
        go_simp
        go_wp2_with fail
        refine hK.out _ _ HS0'.out (fun hHeld => ?_)
        clear hK K
        try simp only [Act.put, List.setIfInBounds_toArray, List.set_cons_zero, List.set_cons_succ]
        refine wpAnyH_ready (rs := [2]) (by kernel_rfl) (by simp) (AllReadyH.cons (op_at rfl) (fun K hK => ?_) (AllReadyH.nil))
        clear hHeld
        go_simp
        go_wp2_with fail
        rw [← HA.out]
        refine hK.out _ _ HSA.out (fun hHeld => ?_)
        clear hK K
        try simp only [Act.put, List.setIfInBounds_toArray, List.set_cons_zero, List.set_cons_succ]
        refine wpAnyH_ready (rs := [8]) (by kernel_rfl) (by simp) (AllReadyH.cons (op_at rfl) (fun K hK => ?_) (AllReadyH.nil))
        clear hHeld
        refine step_append_any rfl (.tmp 19) (.tmp 24) 25 rfl wr.heap.size 5 i8 (.int .u8 0) 1 1 underlying25 hi8 hy0 hy1 hy2 rfl (by decide) (by decide) byteR.one (.slice (some ⟨wr.heap.size, 0, none⟩) 0 0) [] (by simp [Act.eval]) HOA.out (.slice au m cu) y (fun b => b < w.heap.size) (by simp [Act.eval]) HSRC.out HLE8.out hbaseA ?_
        intro v2 w2 ho hg hm
        obtain ⟨a2, c2, hv2, -, -, -⟩ := ho.len
        have hb2 : Below wr.heap.size wr w2 := HBA.out.grown hg hbaseA (fun k hk => (HOA.out.own k hk).1)
        have hat2 := ho.at (F := fun b => wr.heap.size ≤ b) (fun _ _ h _ => h) (by decide)
        subst hv2
        rw [List.nil_append, ← HM.out] at hat2 ⊢
        obtain ⟨R, j1, j2, j3, j4, j5, j6, j7, j8, j9⟩ := HR.out.push hb2 hat2
        obtain ⟨C, hC⟩ : ∃ W : World, W = w2.alloc (.cells #[.slice a2 m c2] 25) := ⟨_, rfl⟩
        rw [← hC] at j2 j3 j4 j6 j8 j9
        have HC := Lib.hid hC
        have HSW2 := Lib.hid (HKP2.out w2 j7)
        have HSC := Lib.hid (HKP2.out C j8)
        have HR1 := Lib.hid j1
        have HRO := Lib.hid j2
        have HRS := Lib.hid j3
        have HRN := Lib.hid j9
        clear ho hg hm hb2 hat2 hC j1 j2 j3 j7 j8 j9
        refine hK.out _ _ HSW2.out (fun hHeld => ?_)
        clear hK K
        try simp only [Act.put, List.setIfInBounds_toArray, List.set_cons_zero, List.set_cons_succ]
        refine wpAnyH_ready (rs := [9]) (by kernel_rfl) (by simp) (AllReadyH.cons (op_at rfl) (fun K hK => ?_) (AllReadyH.nil))
        clear hHeld
        go_simp
        go_wp2_with fail
        rw [← HC.out]
        refine hK.out _ _ HSC.out (fun hHeld => ?_)
        clear hK K
        try simp only [Act.put, List.setIfInBounds_toArray, List.set_cons_zero, List.set_cons_succ]
        refine wpAnyH_ready (rs := [10]) (by kernel_rfl) (by simp) (AllReadyH.cons (op_at rfl) (fun K hK => ?_) (AllReadyH.nil))
        clear hHeld
        refine step_append_at rfl (.tmp 18) (.tmp 26) 22 rfl wc.heap.size 25 i0r (.slice none 0 0) 1 24 underlyingRows hi hz0 hz1 hz2 rfl (by decide) (by decide) HR1.out (.slice av k cv) Tk (by simp [Act.eval]) HRO.out (.slice (some ⟨w2.heap.size, 0, none⟩) 1 1) [y] (fun _ => True) (by simp [Act.eval]) HRS.out Nat.one_pos hle j4 (k + 1) HLN.out ?_
        intro g' cap W3 ho hg hm
        obtain ⟨n1, n2, n3⟩ := HRN.out g' cap (k + 1) W3 ho hg hm
        have HN3 := Lib.hid n3
        have m34 := (blk_facts HPL.out n1).2.2.2
        have fr := frozen_of_row W3 (w.heap.size + 1) 34 _ _ n1
        have HSW := Lib.hid (HKP2.out W3 n2)
        have HSX := Lib.hid (HKP2.out (W3.setCell ⟨w.heap.size + 1, 34, none⟩ (.slice (some ⟨g', 0, none⟩) (k + 1) cap)) (fun j hj hn => (Below.heap_setCell _ _ _ _ hn).trans (n2 j hj hn)))
        clear n1 n2 n3 ho hg hm
        refine hK.out _ _ HSW.out (fun hHeld => ?_)
        clear hK K
        try simp only [Act.put, List.setIfInBounds_toArray, List.set_cons_zero, List.set_cons_succ]
        refine wpAnyH_ready (rs := [11]) (by kernel_rfl) (by simp) (AllReadyH.cons (op_at rfl) (fun K hK => ?_) AllReadyH.nil)
        clear hHeld
        go_simp
        refine hK.out _ _ HSW.out (fun hHeld => ?_)
        clear hK K
        try simp only [Act.put, List.setIfInBounds_toArray, List.set_cons_zero, List.set_cons_succ]
        refine wpAnyH_ready (rs := [12]) (by kernel_rfl) (by simp) (AllReadyH.cons (op_at rfl) (fun K hK => ?_) AllReadyH.nil)
        clear hHeld
        go_simp
        refine hK.out _ _ HSX.out (fun hHeld => ?_)
        clear hK K
        refine wpAnyH_done (by kernel_rfl) ?_ _
        clear m34 fr c34 g34 a34 j5 j6
        have hk1' : (k : Int) + 1 ≤ 1048576 := by omega
        go_wp2_with fail
        go_roundw
        case rel => exact ⟨k + 1, _, _, by omega, num_eq (by omega), by rw [HTK.out]; exact HN3⟩
        case measure => simp [intOf]; omega
      · clear hHeld
        go_simp
        go_wp2_with fail
        rw [← HA.out]
        refine hK.out _ _ HSA.out (fun hHeld => ?_)
        clear hK K
        try simp only [Act.put, List.setIfInBounds_toArray, List.set_cons_zero, List.set_cons_succ]
        refine wpAnyH_ready (rs := [1, 8]) (by kernel_rfl) (by simp) (AllReadyH.cons (op_at rfl) (fun K hK => ?_) (AllReadyH.cons (op_at rfl) (fun K hK => ?_) (AllReadyH.nil)))
        · clear hHeld
          go_simp
          go_wp2_with fail
          refine hK.out _ _ HSA.out (fun hHeld => ?_)
          clear hK K
          try simp only [Act.put, List.setIfInBounds_toArray, List.set_cons_zero, List.set_cons_succ]
          refine wpAnyH_ready (rs := [8]) (by kernel_rfl) (by simp) (AllReadyH.cons (op_at rfl) (fun K hK => ?_) (AllReadyH.nil))
          clear hHeld
          refine step_append_any rfl (.tmp 19) (.tmp 24) 25 rfl wr.heap.size 5 i8 (.int .u8 0) 1 1 underlying25 hi8 hy0 hy1 hy2 rfl (by decide) (by decide) byteR.one (.slice (some ⟨wr.heap.size, 0, none⟩) 0 0) [] (by simp [Act.eval]) HOA.out (.slice au m cu) y (fun b => b < w.heap.size) (by simp [Act.eval]) HSRC.out HLE8.out hbaseA ?_
          intro v2 w2 ho hg hm
          obtain ⟨a2, c2, hv2, -, -, -⟩ := ho.len
          have hb2 : Below wr.heap.size wr w2 := HBA.out.grown hg hbaseA (fun k hk => (HOA.out.own k hk).1)
          have hat2 := ho.at (F := fun b => wr.heap.size ≤ b) (fun _ _ h _ => h) (by decide)
          subst hv2
          rw [List.nil_append, ← HM.out] at hat2 ⊢
          obtain ⟨R, j1, j2, j3, j4, j5, j6, j7, j8, j9⟩ := HR.out.push hb2 hat2
          obtain ⟨C, hC⟩ : ∃ W : World, W = w2.alloc (.cells #[.slice a2 m c2] 25) := ⟨_, rfl⟩
          rw [← hC] at j2 j3 j4 j6 j8 j9
          have HC := Lib.hid hC
          have HSW2 := Lib.hid (HKP2.out w2 j7)
          have HSC := Lib.hid (HKP2.out C j8)
          have HR1 := Lib.hid j1
          have HRO := Lib.hid j2
          have HRS := Lib.hid j3
          have HRN := Lib.hid j9
          clear ho hg hm hb2 hat2 hC j1 j2 j3 j7 j8 j9
          refine hK.out _ _ HSW2.out (fun hHeld => ?_)
          clear hK K
          try simp only [Act.put, List.setIfInBounds_toArray, List.set_cons_zero, List.set_cons_succ]
          refine wpAnyH_ready (rs := [9]) (by kernel_rfl) (by simp) (AllReadyH.cons (op_at rfl) (fun K hK => ?_) (AllReadyH.nil))
          clear hHeld
          go_simp
          go_wp2_with fail
          rw [← HC.out]
          refine hK.out _ _ HSC.out (fun hHeld => ?_)
          clear hK K
          try simp only [Act.put, List.setIfInBounds_toArray, List.set_cons_zero, List.set_cons_succ]
          refine wpAnyH_ready (rs := [10]) (by kernel_rfl) (by simp) (AllReadyH.cons (op_at rfl) (fun K hK => ?_) (AllReadyH.nil))
          clear hHeld
          refine step_append_at rfl (.tmp 18) (.tmp 26) 22 rfl wc.heap.size 25 i0r (.slice none 0 0) 1 24 underlyingRows hi hz0 hz1 hz2 rfl (by decide) (by decide) HR1.out (.slice av k cv) Tk (by simp [Act.eval]) HRO.out (.slice (some ⟨w2.heap.size, 0, none⟩) 1 1) [y] (fun _ => True) (by simp [Act.eval]) HRS.out Nat.one_pos hle j4 (k + 1) HLN.out ?_
          intro g' cap W3 ho hg hm
          obtain ⟨n1, n2, n3⟩ := HRN.out g' cap (k + 1) W3 ho hg hm
          have HN3 := Lib.hid n3
          have m34 := (blk_facts HPL.out n1).2.2.2
          have fr := frozen_of_row W3 (w.heap.size + 1) 34 _ _ n1
          have HSW := Lib.hid (HKP2.out W3 n2)
          have HSX := Lib.hid (HKP2.out (W3.setCell ⟨w.heap.size + 1, 34, none⟩ (.slice (some ⟨g', 0, none⟩) (k + 1) cap)) (fun j hj hn => (Below.heap_setCell _ _ _ _ hn).trans (n2 j hj hn)))
          clear n1 n2 n3 ho hg hm
          refine hK.out _ _ HSW.out (fun hHeld => ?_)
          clear hK K
          try simp only [Act.put, List.setIfInBounds_toArray, List.set_cons_zero, List.set_cons_succ]
          refine wpAnyH_ready (rs := [11]) (by kernel_rfl) (by simp) (AllReadyH.cons (op_at rfl) (fun K hK => ?_) AllReadyH.nil)
          clear hHeld
          go_simp
          refine hK.out _ _ HSW.out (fun hHeld => ?_)
          clear hK K
          try simp only [Act.put, List.setIfInBounds_toArray, List.set_cons_zero, List.set_cons_succ]
          refine wpAnyH_ready (rs := [12]) (by kernel_rfl) (by simp) (AllReadyH.cons (op_at rfl) (fun K hK => ?_) AllReadyH.nil)
          clear hHeld
          go_simp
          refine hK.out _ _ HSX.out (fun hHeld => ?_)
          clear hK K
          refine wpAnyH_done (by kernel_rfl) ?_ _
          clear m34 fr c34 g34 a34 j5 j6
          have hk1' : (k : Int) + 1 ≤ 1048576 := by omega
          go_wp2_with fail
          go_roundw
          case rel => exact ⟨k + 1, _, _, by omega, num_eq (by omega), by rw [HTK.out]; exact HN3⟩
          case measure => simp [intOf]; omega
        · clear hHeld
          refine step_append_any rfl (.tmp 19) (.tmp 24) 25 rfl wr.heap.size 5 i8 (.int .u8 0) 1 1 underlying25 hi8 hy0 hy1 hy2 rfl (by decide) (by decide) byteR.one (.slice (some ⟨wr.heap.size, 0, none⟩) 0 0) [] (by simp [Act.eval]) HOA.out (.slice au m cu) y (fun b => b < w.heap.size) (by simp [Act.eval]) HSRC.out HLE8.out hbaseA ?_
          intro v2 w2 ho hg hm
          obtain ⟨a2, c2, hv2, -, -, -⟩ := ho.len
          have hb2 : Below wr.heap.size wr w2 := HBA.out.grown hg hbaseA (fun k hk => (HOA.out.own k hk).1)
          have hat2 := ho.at (F := fun b => wr.heap.size ≤ b) (fun _ _ h _ => h) (by decide)
          subst hv2
          rw [List.nil_append, ← HM.out] at hat2 ⊢
          obtain ⟨R, j1, j2, j3, j4, j5, j6, j7, j8, j9⟩ := HR.out.push hb2 hat2
          obtain ⟨C, hC⟩ : ∃ W : World, W = w2.alloc (.cells #[.slice a2 m c2] 25) := ⟨_, rfl⟩
          rw [← hC] at j2 j3 j4 j6 j8 j9
          have HC := Lib.hid hC
          have HSW2 := Lib.hid (HKP2.out w2 j7)
          have HSC := Lib.hid (HKP2.out C j8)
          have HR1 := Lib.hid j1
          have HRO := Lib.hid j2
          have HRS := Lib.hid j3
          have HRN := Lib.hid j9
          clear ho hg hm hb2 hat2 hC j1 j2 j3 j7 j8 j9
          refine hK.out _ _ HSW2.out (fun hHeld => ?_)
          clear hK K
          try simp only [Act.put, List.setIfInBounds_toArray, List.set_cons_zero, List.set_cons_succ]
          refine wpAnyH_ready (rs := [1, 9]) (by kernel_rfl) (by simp) (AllReadyH.cons (op_at rfl) (fun K hK => ?_) (AllReadyH.cons (op_at rfl) (fun K hK => ?_) (AllReadyH.nil)))
          · clear hHeld
            go_simp
            go_wp2_with fail
            refine hK.out _ _ HSW2.out (fun hHeld => ?_)
            clear hK K
            try simp only [Act.put, List.setIfInBounds_toArray, List.set_cons_zero, List.set_cons_succ]
            refine wpAnyH_ready (rs := [9]) (by kernel_rfl) (by simp) (AllReadyH.cons (op_at rfl) (fun K hK => ?_) (AllReadyH.nil))
            clear hHeld
            go_simp
            go_wp2_with fail
            rw [← HC.out]
            refine hK.out _ _ HSC.out (fun hHeld => ?_)
            clear hK K
            try simp only [Act.put, List.setIfInBounds_toArray, List.set_cons_zero, List.set_cons_succ]
            refine wpAnyH_ready (rs := [10]) (by kernel_rfl) (by simp) (AllReadyH.cons (op_at rfl) (fun K hK => ?_) (AllReadyH.nil))
            clear hHeld
            refine step_append_at rfl (.tmp 18) (.tmp 26) 22 rfl wc.heap.size 25 i0r (.slice none 0 0) 1 24 underlyingRows hi hz0 hz1 hz2 rfl (by decide) (by decide) HR1.out (.slice av k cv) Tk (by simp [Act.eval]) HRO.out (.slice (some ⟨w2.heap.size, 0, none⟩) 1 1) [y] (fun _ => True) (by simp [Act.eval]) HRS.out Nat.one_pos hle j4 (k + 1) HLN.out ?_
            intro g' cap W3 ho hg hm
            obtain ⟨n1, n2, n3⟩ := HRN.out g' cap (k + 1) W3 ho hg hm
            have HN3 := Lib.hid n3
            have m34 := (blk_facts HPL.out n1).2.2.2
            have fr := frozen_of_row W3 (w.heap.size + 1) 34 _ _ n1
            have HSW := Lib.hid (HKP2.out W3 n2)
            have HSX := Lib.hid (HKP2.out (W3.setCell ⟨w.heap.size + 1, 34, none⟩ (.slice (some ⟨g', 0, none⟩) (k + 1) cap)) (fun j hj hn => (Below.heap_setCell _ _ _ _ hn).trans (n2 j hj hn)))
            clear n1 n2 n3 ho hg hm
            refine hK.out _ _ HSW.out (fun hHeld => ?_)
            clear hK K
            try simp only [Act.put, List.setIfInBounds_toArray, List.set_cons_zero, List.set_cons_succ]
            refine wpAnyH_ready (rs := [11]) (by kernel_rfl) (by simp) (AllReadyH.cons (op_at rfl) (fun K hK => ?_) AllReadyH.nil)
            clear hHeld
            go_simp
            refine hK.out _ _ HSW.out (fun hHeld => ?_)
            clear hK K
            try simp only [Act.put, List.setIfInBounds_toArray, List.set_cons_zero, List.set_cons_succ]
            refine wpAnyH_ready (rs := [12]) (by kernel_rfl) (by simp) (AllReadyH.cons (op_at rfl) (fun K hK => ?_) AllReadyH.nil)
            clear hHeld
            go_simp
            refine hK.out _ _ HSX.out (fun hHeld => ?_)
            clear hK K
            refine wpAnyH_done (by kernel_rfl) ?_ _
            clear m34 fr c34 g34 a34 j5 j6
            have hk1' : (k : Int) + 1 ≤ 1048576 := by omega
            go_wp2_with fail
            go_roundw
            case rel => exact ⟨k + 1, _, _, by omega, num_eq (by omega), by rw [HTK.out]; exact HN3⟩
            case measure => simp [intOf]; omega
          · clear hHeld
            go_simp
            go_wp2_with fail
            rw [← HC.out]
            refine hK.out _ _ HSC.out (fun hHeld => ?_)
            clear hK K
            try simp only [Act.put, List.setIfInBounds_toArray, List.set_cons_zero, List.set_cons_succ]
            refine wpAnyH_ready (rs := [1]) (by kernel_rfl) (by simp) (AllReadyH.cons (op_at rfl) (fun K hK => ?_) (AllReadyH.nil))
            clear hHeld
            go_simp
            go_wp2_with fail
            refine hK.out _ _ HSC.out (fun hHeld => ?_)
            clear hK K
            try simp only [Act.put, List.setIfInBounds_toArray, List.set_cons_zero, List.set_cons_succ]
            refine wpAnyH_ready (rs := [10]) (by kernel_rfl) (by simp) (AllReadyH.cons (op_at rfl) (fun K hK => ?_) (AllReadyH.nil))
            clear hHeld
            refine step_append_at rfl (.tmp 18) (.tmp 26) 22 rfl wc.heap.size 25 i0r (.slice none 0 0) 1 24 underlyingRows hi hz0 hz1 hz2 rfl (by decide) (by decide) HR1.out (.slice av k cv) Tk (by simp [Act.eval]) HRO.out (.slice (some ⟨w2.heap.size, 0, none⟩) 1 1) [y] (fun _ => True) (by simp [Act.eval]) HRS.out Nat.one_pos hle j4 (k + 1) HLN.out ?_
            intro g' cap W3 ho hg hm
            obtain ⟨n1, n2, n3⟩ := HRN.out g' cap (k + 1) W3 ho hg hm
            have HN3 := Lib.hid n3
            have m34 := (blk_facts HPL.out n1).2.2.2
            have fr := frozen_of_row W3 (w.heap.size + 1) 34 _ _ n1
            have HSW := Lib.hid (HKP2.out W3 n2)
            have HSX := Lib.hid (HKP2.out (W3.setCell ⟨w.heap.size + 1, 34, none⟩ (.slice (some ⟨g', 0, none⟩) (k + 1) cap)) (fun j hj hn => (Below.heap_setCell _ _ _ _ hn).trans (n2 j hj hn)))
            clear n1 n2 n3 ho hg hm
            refine hK.out _ _ HSW.out (fun hHeld => ?_)
            clear hK K
            try simp only [Act.put, List.setIfInBounds_toArray, List.set_cons_zero, List.set_cons_succ]
            refine wpAnyH_ready (rs := [11]) (by kernel_rfl) (by simp) (AllReadyH.cons (op_at rfl) (fun K hK => ?_) AllReadyH.nil)
            clear hHeld
            go_simp
            refine hK.out _ _ HSW.out (fun hHeld => ?_)
            clear hK K
            try simp only [Act.put, List.setIfInBounds_toArray, List.set_cons_zero, List.set_cons_succ]
            refine wpAnyH_ready (rs := [12]) (by kernel_rfl) (by simp) (AllReadyH.cons (op_at rfl) (fun K hK => ?_) AllReadyH.nil)
            clear hHeld
            go_simp
            refine hK.out _ _ HSX.out (fun hHeld => ?_)
            clear hK K
            refine wpAnyH_done (by kernel_rfl) ?_ _
            clear m34 fr c34 g34 a34 j5 j6
            have hk1' : (k : Int) + 1 ≤ 1048576 := by omega
            go_wp2_with fail
            go_roundw
            case rel => exact ⟨k + 1, _, _, by omega, num_eq (by omega), by rw [HTK.out]; exact HN3⟩
            case measure => simp [intOf]; omega
    · obtain rfl : n = k := by omega
      have hfull : T.take n = T := List.take_of_length_le (by have := HN.out; omega)
      rw [hfull] at HR
      have hRows : RowsAt (fun b => wc.heap.size ≤ b) wr (.slice av n cv) T := HR.out.own.at carriedRow (fun b hb _ => hb) (fun b hb _ => hb) (by decide)
      have hbwr : Below w.heap.size w wr := HBC.out.trans (HR.out.chg.toBelowAt (B := w.heap.size) (by omega) (fun k hk e => by omega))
      obtain ⟨BG, hBG⟩ : ∃ C, C = blkCells p nn bb (.slice av n cv) := ⟨_, rfl⟩
      have hkg := HR.out.box
      rw [← hBG] at hkg
      have hks := (hblk w.heap.size (by omega) (by omega)).trans HKC0.out
      have hTr : RowsAt (fun b => b < w.heap.size) wr (.slice a n c) T := RowsAt.carry HTC.out (fun _ _ x => x) (fun j hj hlt => hblk j hlt (by omega))
      have hen := HEN.out _ wr _ hRows
      rw [← hBG] at hen
      have HEN1 := Lib.hid hen
      have HIBG := Lib.hid (show (Try.prog.info? 40).map (·.size) = some BG.size by rw [hBG, blkCells_size _ _ _ _ HPL.out]; exact infoBlk)
      have HEBG := Lib.hid hBG
      have HKG := Lib.hid hkg
      have HKS := Lib.hid hks
      have HROWS := Lib.hid hRows
      have HTR := Lib.hid hTr
      have HBWR := Lib.hid hbwr
      have hltg := (Array.getElem?_eq_some_iff.1 hkg).1
      clear hblk hfull hRows hbwr hBG hkg hks hTr hen c34 hlt
      go_wp2_with (first
        | ((with_reducible refine wpL_load_row_w 40 (.tmp 3) (w.heap.size + 1) BG 40 (.struct fs) ?_ ⟨HKG.out, HU.out, rfl, HIBG.out⟩ ?_); (exact ⟨rfl, rfl, rfl⟩)))
      refine HEN1.out.mono ?_
      rintro e w1 ⟨v1, rfl, ho1, hb1⟩
      obtain ⟨x1, z1, rfl, -, -, -⟩ := ho1.len
      try simp only at ho1 ⊢
      obtain ⟨m1, hm1⟩ : ∃ m, m = E1.length := ⟨_, rfl⟩
      have hat1 := ho1.at (F := fun _ => True) (fun _ _ _ _ => trivial) (by decide)
      rw [← hm1] at hat1 ⊢
      have hre := HRE.out _ w1 _ (RowsAt.below HTR.out hb1)
      rw [← HEBC.out] at hre
      have HRE1 := Lib.hid hre
      have HAT1 := Lib.hid hat1
      have HKS1 := Lib.hid ((hb1.block _ (by omega)).trans HKS.out)
      have HB1 := Lib.hid hb1
      clear hat1 hm1 ho1 hb1 hre
      go_wp2_with (first
        | ((with_reducible refine wpL_load_row_w 40 (.tmp 1) w.heap.size BC 40 (.struct fs) ?_ ⟨HKS1.out, HU.out, rfl, HIBC.out⟩ ?_); (exact ⟨rfl, rfl, rfl⟩)))
      refine HRE1.out.mono ?_
      rintro e w2 ⟨v2, rfl, ho2, hb2⟩
      obtain ⟨x2, z2, rfl, -, -, -⟩ := ho2.len
      try simp only at ho2 ⊢
      obtain ⟨m2, hm2⟩ : ∃ m, m = E1.length := ⟨_, rfl⟩
      have hat2 := ho2.at (F := fun _ => True) (fun _ _ _ _ => trivial) (by decide)
      rw [← hm2] at hat2 ⊢
      have HAT2 := Lib.hid hat2
      have HB2 := Lib.hid (Bel.call HB1.out hb2)
      have HB12 := Lib.hid hb2
      clear hat2 hm2 ho2 hb2
      go_wp2_with fail
      refine (alive19_any w2).mono ?_
      rintro e w3 ⟨rfl, hb3⟩
      have hb03 := Bel.call HB2.out hb3
      have s1 := run_string_at (P := Try.prog) (BytesAt.below (BytesAt.below HAT1.out HB12.out) hb3) 25 5 9 Try.underlying25 Try.underlying5 Try.underlying9
      have s2 := run_string_at (P := Try.prog) (BytesAt.below HAT2.out hb3) 25 5 9 Try.underlying25 Try.underlying5 Try.underlying9
      have HKG3 := Lib.hid ((hb03.block _ hltg).trans HKG.out)
      have HKS3 := Lib.hid ((hb03.block _ (by omega)).trans HKS.out)
      have HB3 := Lib.hid hb03
      clear hb3 hb03
      go_wp2_with (first
        | ((with_reducible refine wpL_load_row_w 40 (.tmp 3) (w.heap.size + 1) BG 40 (.struct fs) ?_ ⟨HKG3.out, HU.out, rfl, HIBG.out⟩ ?_); (exact ⟨rfl, rfl, rfl⟩))
        | ((with_reducible refine wpL_load_row_w 40 (.tmp 1) w.heap.size BC 40 (.struct fs) ?_ ⟨HKS3.out, HU.out, rfl, HIBC.out⟩ ?_); (exact ⟨rfl, rfl, rfl⟩)))
      rw [HEBC.out, HEBG.out]
      refine (sameBlk_any _ _ _ p p nn bb nn bb _ _ T T (RowsAt.below HROWS.out HB3.out) (RowsAt.below HTR.out HB3.out) HPL.out HPL.out (by have := HN.out; omega)).mono ?_
      rintro e w4 ⟨rfl, hb4⟩
      simp only [and_self, decide_true]
      have HEND := Lib.hid (Bel.call HBWR.out (Bel.call HB3.out hb4))
      clear hb4 s1 s2
      go_wp2_with fail
      go_ret
      exact ⟨rfl, HEND.out⟩
end Go.Proofs.Ytndkkgkcbbmnpaa
