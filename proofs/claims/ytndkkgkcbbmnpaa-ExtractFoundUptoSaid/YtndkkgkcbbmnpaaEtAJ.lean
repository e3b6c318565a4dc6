/-
  Contract of pergolaref02.Decode.
  Contract of witness.Encode.
  Which items have an encoding; witnesses: reading and writing them are one another's inverse (plain law).
  Contract of witness.Decode.
  Contracts of pergolaref02.body, Bytes.
  Contract of pergolaref02.Bytes.
-/
import Derived.Test.YtndkkgkcbbmnpaaEtAI
namespace Go.Proofs.Ytndkkgkcbbmnpaa
open Go.RowKit Go.Pg

set_option maxRecDepth 100000 in
set_option maxHeartbeats 2000000 in
theorem rdecode_any (F0 : Nat → Prop) (w : World) (a : Option Addr) (n c : Nat) (bs : List UInt8) (h0 : BytesAt F0 w (.slice a n c) bs) (hn : n ≤ 70368744177664) :
    Calls Try.prog 49 #[.slice a n c] w (Decd fresh w (rdWhole bs)) := by
  have hnl : n = bs.length := by
    obtain ⟨a', c', hv, h1, -⟩ := h0
    simp only [Value.slice.injEq] at hv
    exact hv.2.1
  obtain ⟨e1, y, t, hr⟩ : ∃ e1 y t, rdItem 8 bs = (e1, y, t) := ⟨_, _, _, rfl⟩
  have hrw : rdWhole bs = if e1 ≠ 0 then (e1, .text []) else if t ≠ [] then (24, .text []) else (0, y) := by unfold rdWhole; rw [hr]
  have herr := rdItem_err 8 bs
  rw [hr] at herr
  have hcall := rFirst_any F0 (w.alloc (.cells #[.bool false, .slice none 0 0, .slice none 0 0] 65)) a n c bs (BytesAt.below h0 (Bel.alloc (Bel.refl w) _)) hn
  rw [hr] at hcall
  have HC := Lib.hid hcall
  have HRW := Lib.hid hrw
  have HERR := Lib.hid herr
  have HNL := Lib.hid hnl
  clear h0 hnl hr hrw hcall herr
  go_enter Try.func49, Try.ntmps49
  go_wp2_with fail
  refine HC.out.mono ?_
  rintro e5 w5 ⟨l5, i1, y1, z1, i3, y3, z3, m, rfl, k1, k2, k3, k4⟩
  have hsz := k4.size
  simp only [World.size_alloc] at hsz
  have h0 : w.heap.size < w5.heap.size := by omega
  have hb5 := (k4.block w.heap.size (by simp)).trans (heap_alloc_new w _)
  have HB5 := Lib.hid hb5
  have K1 := Lib.hid k1
  have K2 := Lib.hid k2
  have K3 := Lib.hid k3
  have HBL := Lib.hid ((Bel.alloc (Bel.refl w) (.cells #[.bool false, .slice none 0 0, .slice none 0 0] 65)).trans (k4.mono (by simp)))
  obtain ⟨q0, q1, q2⟩ := cells3 hb5
  have f0 := frozen_of_row w5 w.heap.size 0 _ _ hb5
  have f1 := frozen_of_row w5 w.heap.size 1 _ _ hb5
  have f2 := frozen_of_row w5 w.heap.size 2 _ _ hb5
  clear hb5 k1 k2 k3 k4 hsz
  by_cases he : e1 = 0
  · subst he
    have hmn : m + t.length = n := K1.out rfl
    by_cases hlt : m < n
    · clear hmn
      go_wp2_with fail
      have hbx := box3 HB5.out (.bool false) (.slice none 0 0) (.slice none 0 0)
      obtain ⟨W, hW⟩ : ∃ W, W = ((w5.setCell ⟨w.heap.size, 0, none⟩ (.bool false)).setCell ⟨w.heap.size, 1, none⟩ (.slice none 0 0)).setCell ⟨w.heap.size, 2, none⟩ (.slice none 0 0) := ⟨_, rfl⟩
      rw [← hW] at hbx ⊢
      obtain ⟨r0, r1, r2⟩ := cells3 hbx.at_
      have hlw : w.heap.size < W.heap.size := by rw [hbx.size]; exact h0
      refine bodyPost_ret (v := .tuple #[.agg #[.bool false, .slice none 0 0, .slice none 0 0], .int .i64 ((24 : Nat) : Int)]) (by simp [results, Try.results49, go_sem, r0, r1, r2, hlw]) rfl ?_
      have ht : t ≠ [] := by intro h; have := K1.out trivial; rw [h] at this; simp at this; omega
      rw [HRW.out, if_neg (by simp), if_pos ht]
      exact ⟨false, none, 0, 0, none, 0, 0, rfl, ⟨_, _, rfl, BytesAt.nil _ _, SliceAt.nil _ _ _ _⟩, ((HBL.out.trans (hbx.chg.toBelowAt (by omega) (fun k hk e => by omega))).alloc (by omega) _)⟩
    · have ht : t = [] := List.eq_nil_of_length_eq_zero (by omega)
      have HT := Lib.hid ht
      clear ht hmn
      go_wp2_with fail
      have hbx := box3 HB5.out (.bool l5) (.slice i1 y1 z1) (.slice i3 y3 z3)
      obtain ⟨W, hW⟩ : ∃ W, W = ((w5.setCell ⟨w.heap.size, 0, none⟩ (.bool l5)).setCell ⟨w.heap.size, 1, none⟩ (.slice i1 y1 z1)).setCell ⟨w.heap.size, 2, none⟩ (.slice i3 y3 z3) := ⟨_, rfl⟩
      rw [← hW] at hbx ⊢
      obtain ⟨r0, r1, r2⟩ := cells3 hbx.at_
      have hlw : w.heap.size < W.heap.size := by rw [hbx.size]; exact h0
      refine bodyPost_ret (v := .tuple #[.agg #[.bool l5, .slice i1 y1 z1, .slice i3 y3 z3], .int .i64 ((0 : Nat) : Int)]) (by simp [results, Try.results49, go_sem, r0, r1, r2, hlw]) rfl ?_
      rw [HRW.out, if_neg (by simp), if_neg (by simp [HT.out])]
      refine ⟨l5, i1, y1, z1, i3, y3, z3, rfl, ?_, ((HBL.out.trans (hbx.chg.toBelowAt (by omega) (fun k hk e => by omega))).alloc (by omega) _)⟩
      refine K3.out.carry (fun b _ hb => Nat.le_trans (by simp) hb) (fun b hb hlt => ?_)
      have hb' : w.heap.size + 1 ≤ b := Nat.le_trans (by simp) hb
      rw [Below.heap_alloc _ _ _ (by rw [hbx.size]; exact hlt), hbx.other _ (by omega)]
  · have HE := Lib.hid he
    have hm : m = 0 := K2.out he
    have hy : y = .text [] := HERR.out he
    have ht : (((e1:Nat):Int) != 0) = true := by simp; omega
    have HY := Lib.hid hy
    subst hm
    clear he hy
    go_wp2_with fail
    have hbx := box3 HB5.out (.bool false) (.slice none 0 0) (.slice none 0 0)
    obtain ⟨W, hW⟩ : ∃ W, W = ((w5.setCell ⟨w.heap.size, 0, none⟩ (.bool false)).setCell ⟨w.heap.size, 1, none⟩ (.slice none 0 0)).setCell ⟨w.heap.size, 2, none⟩ (.slice none 0 0) := ⟨_, rfl⟩
    rw [← hW] at hbx ⊢
    obtain ⟨r0, r1, r2⟩ := cells3 hbx.at_
    have hlw : w.heap.size < W.heap.size := by rw [hbx.size]; exact h0
    refine bodyPost_ret (v := .tuple #[.agg #[.bool false, .slice none 0 0, .slice none 0 0], .int .i64 (e1 : Int)]) (by simp [results, Try.results49, go_sem, r0, r1, r2, hlw]) rfl ?_
    rw [HRW.out, if_pos HE.out]
    exact ⟨false, none, 0, 0, none, 0, 0, rfl, ⟨_, _, rfl, BytesAt.nil _ _, SliceAt.nil _ _ _ _⟩, ((HBL.out.trans (hbx.chg.toBelowAt (by omega) (fun k hk e => by omega))).alloc (by omega) _)⟩
end Go.Proofs.Ytndkkgkcbbmnpaa
namespace Go.Pg
open Go.RowKit
/-- a witness as an item -/
def witI (N C : List (List UInt8)) : It := .list [textsI N, textsI C]
/-- a witness' bytes, and the error's number -/
def witEncode (N C : List (List UInt8)) : List UInt8 × Nat :=
  if rising N && rising C then (if (witI N C).encode.2 = 0 then ((witI N C).encode.1, 0) else ([], 210)) else ([], 210)
end Go.Pg
namespace Go.Proofs.Ytndkkgkcbbmnpaa
open Go.RowKit Go.Pg

theorem pairI {w2 w3 w4 : World} {N C : List (List UInt8)} {v1 u1 v2 u2 : Value} (h3 : Below w2.heap.size w2 w3) (h4 : Below w3.heap.size w3 w4)
    (hit3 : ItemAt (fun b => w2.heap.size ≤ b) w3 2 [.bool true, v1, v2] (textsI N)) (hit4 : ItemAt (fun b => w3.heap.size ≤ b) w4 2 [.bool true, u1, u2] (textsI C)) (t : TypeId) :
    ItemsAt (fun b => w2.heap.size ≤ b) (w4.alloc (.cells #[.bool true, v1, v2, .bool true, u1, u2] t)) 2 (.slice (some ⟨w4.heap.size, 0, none⟩) 2 2) [textsI N, textsI C] := by
  have h1 : ItemAt (fun b => w2.heap.size ≤ b) w4 2 [.bool true, v1, v2] (textsI N) := hit3.below h4
  have h2 : ItemAt (fun b => w2.heap.size ≤ b) w4 2 [.bool true, u1, u2] (textsI C) := hit4.carry (fun b _ hb => Nat.le_trans h3.size hb) (fun _ _ _ => rfl)
  exact rows_alloc (l := [textsI N, textsI C]) (carriedItem 2) ((Rows.one h1 rfl).append (Rows.one h2 rfl)) (show 2 ≤ maxLen by decide) (fun _ _ x => x) (Nat.le_trans h3.size h4.size) t

set_option maxRecDepth 100000 in
set_option maxHeartbeats 1000000 in
theorem wencode_any (F : Nat → Prop) (w : World) (a1 a2 : Option Addr) (n1 c1 n2 c2 : Nat) (N C : List (List UInt8)) (hN : RowsAt F w (.slice a1 n1 c1) N) (hC : RowsAt F w (.slice a2 n2 c2) C)
    (hNl : N.length ≤ 1099511627776) (hCl : C.length ≤ 1099511627776) (hNx : ∀ x ∈ N, x.length ≤ 70368744177664) (hCx : ∀ x ∈ C, x.length ≤ 70368744177664) (hw : (witI N C).whole ≤ 70368744177664) :
    Calls Try.prog 13 #[.agg #[.slice a1 n1 c1, .slice a2 n2 c2]] w (Encd w (witEncode N C)) := by
  have HW := Lib.hid hw
  have HNX := Lib.hid hNx
  have HCX := Lib.hid hCx
  obtain ⟨W0, hW0⟩ : ∃ W0, W0 = w.alloc (.cells #[.slice a1 n1 c1, .slice a2 n2 c2] 24) := ⟨_, rfl⟩
  have hb0 : Below w.heap.size w W0 := by rw [hW0]; exact Bel.alloc (Bel.refl w) _
  have hk0 : W0.heap[w.heap.size]? = some (.cells #[.slice a1 n1 c1, .slice a2 n2 c2] 24 (0, 0)) := by rw [hW0]; exact heap_alloc_new w _
  have HW0 := Lib.hid hW0
  clear hw hNx hCx hW0
  obtain ⟨r1, hr1⟩ : ∃ r, r = rising N := ⟨_, rfl⟩
  obtain ⟨r2, hr2⟩ : ∃ r, r = rising C := ⟨_, rfl⟩
  have HR1 := Lib.hid hr1
  have HR2 := Lib.hid hr2
  clear hr1 hr2
  have hN0 := RowsAt.below hN hb0
  have hC0 := RowsAt.below hC hb0
  obtain ⟨p0, p1⟩ := cells2 hk0
  have hsz0 := (Array.getElem?_eq_some_iff.1 hk0).1
  have HK0 := Lib.hid hk0
  have HB0 := Lib.hid hb0
  clear hk0 hb0
  cases hr1v : r1
  · go_enter Try.func13, Try.ntmps13
    go_wp2_with fail
    rw [← HW0.out]
    refine (rises_any F W0 _ N hN0 (by omega)).mono ?_
    rintro e w1 ⟨rfl, hb1⟩
    rw [← HR1.out, hr1v]
    have HB1 := Lib.hid (Bel.call HB0.out hb1)
    clear hb1
    go_wp2
    go_ret2
    have hr : (rising N && rising C) = false := by rw [← HR1.out, hr1v]; rfl
    exact ⟨.slice none 0 0, by unfold witEncode; rw [hr]; rfl, by unfold witEncode; rw [hr]; exact OwnAt.nil _ _ _ _ _, HB1.out⟩
  · cases hr2v : r2
    · go_enter Try.func13, Try.ntmps13
      go_wp2_with fail
      rw [← HW0.out]
      refine (rises_any F W0 _ N hN0 (by omega)).mono ?_
      rintro e w1 ⟨rfl, hb1⟩
      rw [← HR1.out, hr1v]
      have q1 := (hb1.cell (p := ⟨w.heap.size, 1, none⟩) hsz0).trans p1
      have HB1 := Lib.hid hb1
      clear hb1
      go_wp2_with fail
      refine (rises_any F w1 _ C (RowsAt.below hC0 HB1.out) (by omega)).mono ?_
      rintro e w2 ⟨rfl, hb2⟩
      rw [← HR2.out, hr2v]
      have HB2 := Lib.hid (Bel.call (Bel.call HB0.out HB1.out) hb2)
      clear hb2 q1
      go_wp2
      go_ret2
      have hr : (rising N && rising C) = false := by rw [← HR2.out, hr2v]; simp
      exact ⟨.slice none 0 0, by unfold witEncode; rw [hr]; rfl, by unfold witEncode; rw [hr]; exact OwnAt.nil _ _ _ _ _, HB2.out⟩
    · go_enter Try.func13, Try.ntmps13
      go_wp2_with fail
      rw [← HW0.out]
      refine (rises_any F W0 _ N hN0 (by omega)).mono ?_
      rintro e w1 ⟨rfl, hb1⟩
      rw [← HR1.out, hr1v]
      have q1 := (hb1.cell (p := ⟨w.heap.size, 1, none⟩) hsz0).trans p1
      have HB1 := Lib.hid hb1
      clear hb1
      go_wp2_with fail
      refine (rises_any F w1 _ C (RowsAt.below hC0 HB1.out) (by omega)).mono ?_
      rintro e w2 ⟨rfl, hb2⟩
      rw [← HR2.out, hr2v]
      have HB2 := Lib.hid (Bel.call HB1.out hb2)
      clear hb2 q1
      have q0 := ((HB2.out).cell (p := ⟨w.heap.size, 0, none⟩) hsz0).trans p0
      have q1 := ((HB2.out).cell (p := ⟨w.heap.size, 1, none⟩) hsz0).trans p1
      go_wp2_with fail
      have hN2 : ∀ W : World, W.heap = w2.heap → RowsAt F W (.slice a1 n1 c1) N := fun W hW => RowsAt.carry (RowsAt.below hN0 HB2.out) (fun _ _ x => x) (fun b _ _ => by rw [hW])
      have hC2 : ∀ W : World, W.heap = w2.heap → RowsAt F W (.slice a2 n2 c2) C := fun W hW => RowsAt.carry (RowsAt.below hC0 HB2.out) (fun _ _ x => x) (fun b _ _ => by rw [hW])
      have hkeep : ∀ W, Below w2.heap.size w2 W → W.cell? ⟨w.heap.size, 0, none⟩ = some (.slice a1 n1 c1) ∧ W.cell? ⟨w.heap.size, 1, none⟩ = some (.slice a2 n2 c2) := fun W hW => ⟨cell_below hW q0, cell_below hW q1⟩
      have HN2 := Lib.hid hN2
      have HC2 := Lib.hid hC2
      have HK2 := Lib.hid hkeep
      clear hN2 hC2 hkeep
      go_region_held3 (fun w' => w'.cell? ⟨w.heap.size, 0, none⟩ = some (.slice a1 n1 c1) ∧ w'.cell? ⟨w.heap.size, 1, none⟩ = some (.slice a2 n2 c2)) (first | go_keep | exact HK2.out _ (by assumption) | exact HK2.out _ (Bel.alloc (by assumption) _))
        (first
          | (go_at_call_of 43 (Value.slice a1 n1 c1); refine (texts_any F _ _ N ?_ hNl HNX.out).mono ?_; (exact HN2.out _ rfl); rintro e w3 ⟨v3, rfl, hit3, hb3⟩; have hB3 : Below w2.heap.size w2 w3 := Bel.call (Bel.drew (Bel.refl w2)) hb3; obtain ⟨-, x1, y1, z1, x2, y2, z2, -, rfl, -, -⟩ := ItemAt.form hit3)
          | (go_at_call_of 43 (Value.slice a2 n2 c2); refine (texts_any F _ _ C ?_ hCl HCX.out).mono ?_; (exact RowsAt.below (HC2.out w2.drew rfl) hb3); rintro e w4 ⟨v4, rfl, hit4, hb4⟩; have hB4 : Below w2.heap.size w2 w4 := Bel.call hB3 hb4; obtain ⟨-, x1', y1', z1', x2', y2', z2', -, rfl, -, -⟩ := ItemAt.form hit4)
          | (go_at_call 42; refine (list_any (fun b => w2.heap.size ≤ b) _ _ 2 [textsI N, textsI C] ?_ (show 2 ≤ 1099511627776 by omega)).mono ?_; (exact pairI hB3 hb4 hit3 hit4 _); rintro e w5 ⟨v5, rfl, hit5, hb5⟩; have hB5 : Below w2.heap.size w2 w5 := Bel.call (Bel.alloc hB4 _) hb5; obtain ⟨-, x1'', y1'', z1'', x2'', y2'', z2'', -, rfl, -, -⟩ := ItemAt.form hit5)
          | (go_at_call 41; refine (encode_any _ w5 3 (witI N C) _ _ _ hit5 HW.out).mono ?_; rintro e w6 ⟨v6, rfl, ho6, hb6⟩; have hB6 : Below w2.heap.size w2 w6 := Bel.call hB5 hb6))
      have HB6 := Lib.hid (Bel.call HB0.out (Below.trans HB2.out (hB6.mono (HB2.out).size)))
      obtain ⟨E, hE⟩ : ∃ E, E = (witI N C).encode := ⟨_, rfl⟩
      rw [← hE] at ho6 ⊢
      have HE := Lib.hid hE
      have hbase := Nat.le_trans (HB0.out).size (HB2.out).size
      have hbase5 := hB5.size
      have ho7 := ho6.lower (Nat.le_trans hbase hbase5)
      clear hE hB3 hB4 hB5 hB6 hb3 hb4 hb5 hb6 hit3 hit4 hit5 ho6 q0 q1
      have hr : (rising N && rising C) = true := by rw [← HR1.out, ← HR2.out, hr1v, hr2v]; rfl
      have HR := Lib.hid hr
      clear hr
      by_cases he : E.2 = 0
      · have he2 : (((E.2 : Nat) : Int) != 0) = false := by simp; omega
        go_wp2
        go_ret2
        exact ⟨v6, by unfold witEncode; rw [if_pos HR.out, ← HE.out, if_pos he]; rfl, by unfold witEncode; rw [if_pos HR.out, ← HE.out, if_pos he]; exact ho7, HB6.out⟩
      · have he2 : (((E.2 : Nat) : Int) != 0) = true := by simp; omega
        go_wp2
        go_ret2
        exact ⟨.slice none 0 0, by unfold witEncode; rw [if_pos HR.out, ← HE.out, if_neg he]; rfl, by unfold witEncode; rw [if_pos HR.out, ← HE.out, if_neg he]; exact OwnAt.nil _ _ _ _ _, HB6.out⟩

end Go.Proofs.Ytndkkgkcbbmnpaa
namespace Go.Pg
/-- so many lists in one another -/
def It.shallow : Nat → It → Prop
  | _, .text _ => True
  | 0, .list _ => False
  | f + 1, .list l => ∀ y, y ∈ l → It.shallow f y
theorem whole_le_wholes (l : List It) (y : It) (h : y ∈ l) : y.whole ≤ It.wholes l := by
  induction l with
  | nil => cases h
  | cons x l ih =>
    simp only [It.wholes]
    rcases List.mem_cons.1 h with rfl | h
    · omega
    · have := ih h; omega
theorem fits_of_shallow : ∀ (f : Nat) (x : It), It.shallow f x → x.body ≤ 16777215 → It.fits f x
  | f, .text b, _, hb => by unfold It.fits; simpa [It.body] using hb
  | 0, .list l, h, _ => by unfold It.shallow at h; exact h.elim
  | f + 1, .list l, h, hb => by
    unfold It.shallow at h
    unfold It.fits
    simp only [It.body] at hb
    refine ⟨hb, fun y hy => fits_of_shallow f y (h y hy) ?_⟩
    have h1 := It.body_le_whole y
    have h2 := whole_le_wholes l y hy
    omega
theorem looks_all (deep : Nat) : ∀ (l : List It) (wt : Nat), (It.looks l deep wt).2 = 0 → ∀ y, y ∈ l → ∃ wt', (y.look deep wt').2 = 0
  | [], _, _, y, hy => by cases hy
  | x :: l, wt, h, y, hy => by
    simp only [It.looks] at h
    by_cases h0 : (x.look deep wt).2 = 0
    · rw [if_pos h0] at h
      rcases List.mem_cons.1 hy with rfl | hy
      · exact ⟨wt, h0⟩
      · exact looks_all deep l _ h y hy
    · rw [if_neg h0] at h; exact absurd h h0
theorem shallow_of_look : ∀ (f : Nat) (x : It) (deep wt : Nat), deep + f = 8 → (x.look deep wt).2 = 0 → It.shallow f x
  | f, .text b, _, _, _, _ => by unfold It.shallow; trivial
  | 0, .list l, deep, wt, hd, h => by
    obtain rfl : deep = 8 := by omega
    simp [It.look] at h
  | f + 1, .list l, deep, wt, hd, h => by
    unfold It.shallow
    have hlooks : ∃ wt', (It.looks l (deep + 1) wt').2 = 0 := by
      rw [look_list_eq] at h
      unfold lookOn at h
      by_cases h0 : (lookHead deep wt).2 = 0
      · rw [if_pos h0] at h; exact ⟨_, h⟩
      · rw [if_neg h0] at h; exact absurd h h0
    obtain ⟨wt', hl⟩ := hlooks
    intro y hy
    obtain ⟨wt2, h2⟩ := looks_all (deep + 1) l wt' hl y hy
    exact shallow_of_look f y (deep + 1) wt2 (by omega) h2
theorem looks_ok (deep : Nat) : ∀ (l : List It) (wt : Nat), (∀ y, y ∈ l → ∀ wt, wt + y.whole ≤ 16777215 → (y.look deep wt).2 = 0) → wt + It.wholes l ≤ 16777215 → (It.looks l deep wt).2 = 0
  | [], wt, _, _ => by simp [It.looks]
  | x :: l, wt, hall, h => by
    simp only [It.wholes] at h
    simp only [It.looks]
    have hx := hall x (List.mem_cons_self ..) wt (by omega)
    rw [if_pos hx]
    have hle := It.look_le x deep wt
    exact looks_ok deep l _ (fun y hy => hall y (List.mem_cons_of_mem _ hy)) (by omega)
theorem look_ok : ∀ (f : Nat) (x : It) (deep wt : Nat), deep + f = 8 → 1 ≤ deep → It.fits f x → wt + x.whole ≤ 16777215 → (x.look deep wt).2 = 0
  | f, .text b, deep, wt, _, _, _, h => by
    have h1 := It.body_le_whole (.text b)
    have h2 := It.whole_pos (.text b)
    simp only [It.body] at h1
    simp only [It.look]; rw [if_neg (by omega)]
  | 0, .list l, deep, wt, _, _, hf, h => by unfold It.fits at hf; exact hf.elim
  | f + 1, .list l, deep, wt, hd, h1, hf, h => by
    unfold It.fits at hf
    have h3 : It.wholes l + 1 ≤ (It.list l).whole := by
      simp only [It.whole]; exact sz_ge _
    simp only [It.look]
    rw [if_neg (by omega), if_neg (by omega), if_neg (by omega)]
    exact looks_ok (deep + 1) l (wt + 1) (fun y hy wt' h' => look_ok f y (deep + 1) wt' (by omega) (by omega) (hf.2 y hy) h') (by omega)
theorem encode_ok (x : It) (h : It.fits 8 x) : x.encode = (x.enc, 0) := by
  have hb : x.body ≤ 16777215 := by
    cases x with
    | text b => unfold It.fits at h; simpa [It.body] using h
    | list l => unfold It.fits at h; simpa [It.body] using h.1
  have hl : (x.look 0 0).2 = 0 := by
    cases x with
    | text b =>
      simp only [It.body] at hb
      simp only [It.look]; rw [if_neg (by omega)]
    | list l =>
      unfold It.fits at h
      simp only [It.body] at hb
      simp only [It.look]
      rw [if_neg (by omega), if_pos trivial, if_neg (by omega)]
      exact looks_ok 1 l 0 (fun y hy wt' h' => look_ok 7 y 1 wt' (by omega) (by omega) (h.2 y hy) h') (by omega)
  unfold It.encode
  rw [if_neg (by simp [hl]), if_neg (by omega)]
theorem encode_fits (x : It) (h : x.encode.2 = 0) : It.fits 8 x := by
  unfold It.encode at h
  by_cases h1 : (x.look 0 0).2 ≠ 0
  · rw [if_pos h1] at h; exact absurd h h1
  · rw [if_neg h1] at h
    by_cases h2 : 16777215 < x.body
    · rw [if_pos h2] at h; cases h
    · exact fits_of_shallow 8 x (shallow_of_look 8 x 0 0 rfl (by omega)) (by omega)

/-- the two lists of a witness' item -/
def part (x : It) (i : Nat) : List (List UInt8) := (x.items.getD i (.text [])).items.map It.bytes
/-- reading a witness -/
def witDecode (bs : List UInt8) : List (List UInt8) × List (List UInt8) × Nat :=
  if (rdWhole bs).1 = 0 ∧ (rdWhole bs).2.isList = true ∧ (rdWhole bs).2.items.length = 2 ∧ readOk ((rdWhole bs).2.items.getD 0 (.text [])) = true ∧ readOk ((rdWhole bs).2.items.getD 1 (.text [])) = true then
    (part (rdWhole bs).2 0, part (rdWhole bs).2 1, 0) else ([], [], 210)
theorem texts_of_flat (l : List It) (h : flat l = true) : (l.map It.bytes).map It.text = l := by
  unfold flat at h
  rw [List.all_eq_true] at h
  rw [List.map_map]
  conv => rhs; rw [← List.map_id l]
  refine List.map_congr_left fun y hy => ?_
  have := h y hy
  cases y with
  | text b => rfl
  | list l => simp [It.isList] at this
theorem item_of_readOk (x : It) (h : readOk x = true) : x = textsI (x.items.map It.bytes) ∧ rising (x.items.map It.bytes) = true := by
  unfold readOk at h
  simp only [Bool.and_eq_true] at h
  obtain ⟨h1, h2, h3⟩ := h
  refine ⟨?_, h3⟩
  cases x with
  | text b => simp [It.isList] at h2
  | list l => unfold textsI; simp only [It.items] at h1 ⊢; rw [texts_of_flat l h1]
theorem bytes_texts (N : List (List UInt8)) : (textsI N).items.map It.bytes = N := by
  unfold textsI
  simp only [It.items, List.map_map]
  conv => rhs; rw [← List.map_id N]
  rfl
theorem readOk_texts (N : List (List UInt8)) (h : rising N = true) : readOk (textsI N) = true := by
  unfold readOk
  rw [bytes_texts, h]
  simp [textsI, It.items, It.isList, flat]
theorem witDecode_sound (bs : List UInt8) (N C : List (List UInt8)) (h : witDecode bs = (N, C, 0)) : witEncode N C = (bs, 0) ∧ rdWhole bs = (0, witI N C) ∧ It.fits 8 (witI N C) := by
  unfold witDecode at h
  split at h
  · rename_i hc
    obtain ⟨h1, h2, h3, h4, h5⟩ := hc
    obtain ⟨e, x, hx⟩ : ∃ e x, rdWhole bs = (e, x) := ⟨_, _, rfl⟩
    rw [hx] at h h1 h2 h3 h4 h5
    simp only at h h1 h2 h3 h4 h5
    subst h1
    simp only [Prod.mk.injEq, and_true] at h
    obtain ⟨hN, hC⟩ := h
    obtain ⟨hb, hf⟩ := rdWhole_sound bs x hx
    cases x with
    | text b => simp [It.isList] at h2
    | list l =>
      simp only [It.items] at h3 h4 h5
      match l, h3 with
      | [i0, i1], _ =>
        simp only [List.getD_cons_zero, List.getD_cons_succ] at h4 h5
        obtain ⟨e0, r0⟩ := item_of_readOk i0 h4
        obtain ⟨e1, r1⟩ := item_of_readOk i1 h5
        have hN' : i0.items.map It.bytes = N := hN
        have hC' : i1.items.map It.bytes = C := hC
        rw [hN'] at e0 r0
        rw [hC'] at e1 r1
        subst e0 e1
        have hw : witI N C = .list [textsI N, textsI C] := rfl
        refine ⟨?_, by rw [hw]; exact hx, by rw [hw]; exact hf⟩
        unfold witEncode
        rw [r0, r1, hw, encode_ok _ hf, hb]
        rfl
  · simp at h
theorem witDecode_back (bs : List UInt8) (N C : List (List UInt8)) (h : witEncode N C = (bs, 0)) : witDecode bs = (N, C, 0) := by
  unfold witEncode at h
  by_cases hr : (rising N && rising C) = true
  · rw [if_pos hr] at h
    by_cases he : (witI N C).encode.2 = 0
    · rw [if_pos he] at h
      have hf := encode_fits _ he
      have hen := encode_ok _ hf
      rw [hen] at h
      simp only [Prod.mk.injEq, and_true] at h
      subst h
      have hrd := rdWhole_back _ hf
      simp only [Bool.and_eq_true] at hr
      unfold witDecode
      rw [hrd]
      have h0 : (witI N C).items = [textsI N, textsI C] := rfl
      rw [if_pos]
      · unfold part
        rw [h0]
        simp only [List.getD_cons_zero, List.getD_cons_succ, bytes_texts]
      · rw [h0]
        exact ⟨rfl, rfl, rfl, readOk_texts N hr.1, readOk_texts C hr.2⟩
    · rw [if_neg he] at h; simp at h
  · rw [if_neg hr] at h; simp at h
theorem witDecode_cases (bs : List UInt8) : (∃ N C, witDecode bs = (N, C, 0)) ∨ witDecode bs = ([], [], 210) := by
  unfold witDecode
  split
  · exact .inl ⟨_, _, rfl⟩
  · exact .inr rfl
/-- the document's: what bytes may say, if these are its encoding -/
def refDecode (bs : List UInt8) : List (List UInt8) × List (List UInt8) × Nat :=
  if (rdWhole bs).1 = 0 ∧ (rdWhole bs).2.items.length = 2 then
    (if witEncode (part (rdWhole bs).2 0) (part (rdWhole bs).2 1) = (bs, 0) then (part (rdWhole bs).2 0, part (rdWhole bs).2 1, 0) else ([], [], 210)) else ([], [], 210)
theorem refDecode_eq (bs : List UInt8) : refDecode bs = witDecode bs := by
  rcases witDecode_cases bs with ⟨N, C, h⟩ | h
  · rw [h]
    obtain ⟨h1, h2, h3⟩ := witDecode_sound bs N C h
    have hp0 : part (witI N C) 0 = N := by unfold part; exact bytes_texts N
    have hp1 : part (witI N C) 1 = C := by unfold part; exact bytes_texts C
    unfold refDecode
    rw [h2, if_pos ⟨rfl, rfl⟩]
    simp only [hp0, hp1]
    rw [if_pos h1]
  · rw [h]
    unfold refDecode
    split
    · split
      · rename_i h1 h2
        have := witDecode_back _ _ _ h2
        rw [h] at this
        simp at this
      · rfl
    · rfl
end Go.Pg
namespace Go.Pg
open Go.RowKit
/-- two cells written into a box -/
structure Box2 (W1 W : World) (b : Nat) (v0 v1 : Value) (t : TypeId) : Prop where
  at_ : W.heap[b]? = some (.cells #[v0, v1] t (0, 0))
  other : ∀ k, k ≠ b → W.heap[k]? = W1.heap[k]?
  size : W.heap.size = W1.heap.size
  chg : Chg (fun k => k = b) W1 W
theorem box2 {W1 : World} {b : Nat} {x0 x1 : Value} {t : TypeId} (hk : W1.heap[b]? = some (.cells #[x0, x1] t (0, 0))) (v0 v1 : Value) :
    Box2 W1 ((W1.setCell ⟨b, 0, none⟩ v0).setCell ⟨b, 1, none⟩ v1) b v0 v1 t :=
  ⟨heap_setCell_same _ _ _ _ _ _ (heap_setCell_same _ _ _ _ _ _ hk),
   fun k hk => by rw [Below.heap_setCell _ _ _ _ hk, Below.heap_setCell _ _ _ _ hk], by simp, ((Chg.refl (fun k => k = b) W1).atb _).atb _⟩
theorem Box2.alloc {W1 W : World} {b : Nat} {v0 v1 : Value} {t : TypeId} (h : Box2 W1 W b v0 v1 t) (o : Obj) : Box2 (W1.alloc o) (W.alloc o) b v0 v1 t := by
  have hlt := (Array.getElem?_eq_some_iff.1 h.at_).1
  refine ⟨by rw [Below.heap_alloc _ _ _ hlt]; exact h.at_, fun k hk => ?_, by simp [h.size], ⟨h.chg.os, h.chg.tape, h.chg.output, by simp [h.size], fun k hk hn => ?_⟩⟩
  all_goals
    show (W.heap.push o)[k]? = (W1.heap.push o)[k]?
    rw [Array.getElem?_push, Array.getElem?_push, h.size, h.other k (by assumption)]
theorem witDecode_pos (bs : List UInt8) (x i0 i1 : It) (h : rdWhole bs = (0, x)) (hl : x.isList = true) (hi : x.items = [i0, i1]) :
    witDecode bs = if readOk i0 = true ∧ readOk i1 = true then (i0.items.map It.bytes, i1.items.map It.bytes, 0) else ([], [], 210) := by
  unfold witDecode part
  rw [h, hi]
  simp [hl]
theorem witDecode_no (bs : List UInt8) (e : Nat) (x : It) (h : rdWhole bs = (e, x)) (hn : e ≠ 0 ∨ x.isList = false ∨ x.items.length ≠ 2) : witDecode bs = ([], [], 210) := by
  unfold witDecode
  rw [h, if_neg]
  rintro ⟨h1, h2, h3, -, -⟩
  rcases hn with hn | hn | hn
  · exact hn h1
  · simp only at h2; rw [hn] at h2; cases h2
  · exact hn h3
end Go.Pg
namespace Go.Proofs.Ytndkkgkcbbmnpaa
open Go.RowKit Go.Pg

/-- a witness, or an empty one and a fault -/
def WDecd (F : World → Nat → Prop) (w : World) (r : List (List UInt8) × List (List UInt8) × Nat) (e : Ending) (w' : World) : Prop :=
  ∃ a1 n1 c1 a2 n2 c2, e = .returned (.tuple #[.agg #[.slice a1 n1 c1, .slice a2 n2 c2], .int .i64 r.2.2]) ∧ RowsAt (F w) w' (.slice a1 n1 c1) r.1 ∧ RowsAt (F w) w' (.slice a2 n2 c2) r.2.1 ∧ Below w.heap.size w w'

theorem WDecd.bad {w W1 W : World} {o : Obj} (h1 : Below w.heap.size w W1) (hb : Box2 W1 W w.heap.size (.slice none 0 0) (.slice none 0 0) 24) :
    WDecd fresh w ([], [], 210) (.returned (.tuple #[.agg #[.slice none 0 0, .slice none 0 0], .int .i64 ((210 : Nat) : Int)])) (W.alloc o) :=
  ⟨none, 0, 0, none, 0, 0, rfl, SliceAt.nil _ _ _ _, SliceAt.nil _ _ _ _, (h1.trans (hb.chg.toBelowAt h1.size (fun k hk e => by omega))).alloc (by rw [hb.size]; exact h1.size) _⟩

set_option maxRecDepth 100000 in
set_option maxHeartbeats 4000000 in
theorem wdecode_any (F0 : Nat → Prop) (w : World) (a : Option Addr) (n c : Nat) (bs : List UInt8) (h0 : BytesAt F0 w (.slice a n c) bs) (hn : n ≤ 1099511627776) :
    Calls Try.prog 16 #[.slice a n c] w (WDecd fresh w (witDecode bs)) := by
  have hnl : n = bs.length := by
    obtain ⟨a', c', hv, h1, -⟩ := h0
    simp only [Value.slice.injEq] at hv
    exact hv.2.1
  obtain ⟨e1, x, hr⟩ : ∃ e1 x, rdWhole bs = (e1, x) := ⟨(rdWhole bs).1, (rdWhole bs).2, rfl⟩
  have hcall := decode_any F0 (w.alloc (.cells #[.slice none 0 0, .slice none 0 0] 24)) a n c bs (BytesAt.below h0 (Bel.alloc (Bel.refl w) _)) (by omega)
  rw [hr] at hcall
  have HC := Lib.hid hcall
  have HR := Lib.hid hr
  have HNL := Lib.hid hnl
  clear h0 hnl hr hcall
  go_enter Try.func16, Try.ntmps16
  go_wp2_with fail
  refine HC.out.mono ?_
  rintro e5 w5 ⟨il, i1, y1, z1, i3, y3, z3, rfl, k1, k2⟩
  have hsz := k2.size
  simp only [World.size_alloc] at hsz
  have h0 : w.heap.size < w5.heap.size := by omega
  have hb5 := (k2.block w.heap.size (by simp)).trans (heap_alloc_new w _)
  have hbel := (Bel.alloc (Bel.refl w) (.cells #[.slice none 0 0, .slice none 0 0] 24)).trans (k2.mono (by simp))
  have HB5 := Lib.hid hb5
  have HBL := Lib.hid hbel
  obtain ⟨hil, a1', n1', c1', a2', n2', c2', e1', e2', -, hn3⟩ := ItemAt.form k1
  simp only [Value.slice.injEq] at e1' e2'
  obtain ⟨rfl, rfl, rfl⟩ := e1'
  obtain ⟨rfl, rfl, rfl⟩ := e2'
  obtain ⟨q0, q1⟩ := cells2 hb5
  have f0 := frozen_of_row w5 w.heap.size 0 _ _ hb5
  have f1 := frozen_of_row w5 w.heap.size 1 _ _ hb5
  have K1 := Lib.hid k1
  have HIL := Lib.hid hil
  have HN3 := Lib.hid hn3
  clear hb5 k1 k2 hsz hbel hil hn3
  by_cases hgood : e1 = 0 ∧ il = true ∧ y3 = 2
  · obtain ⟨rfl, rfl, rfl⟩ := hgood
    obtain ⟨hb, hfit⟩ := rdWhole_sound bs x HR.out
    have hbl : x.whole = n := by rw [← It.enc_length, ← hb]; exact HNL.out.symm
    obtain ⟨i0, i1x, hi⟩ : ∃ i0 i1x, x.items = [i0, i1x] := by
      have := HN3.out
      match x.items, this with
      | [i0, i1x], _ => exact ⟨i0, i1x, rfl⟩
    have hits := ItemAt.items K1.out
    rw [hi] at hits
    have hl0 : i0.items.length ≤ 1099511627776 ∧ i1x.items.length ≤ 1099511627776 := by
      have h1 := It.body_le_whole x
      have h2 : x.body = It.wholes x.items + x.bytes.length := by rw [It.body_eq]; omega
      rw [hi] at h2
      simp only [It.wholes] at h2
      have h3 := It.body_le_whole i0
      have h4 := It.body_le_whole i1x
      have h5 := It.length_le_wholes i0.items
      have h6 := It.length_le_wholes i1x.items
      have h7 := It.body_eq i0
      have h8 := It.body_eq i1x
      omega
    have hwd := witDecode_pos bs x i0 i1x HR.out HIL.out.symm hi
    have HWD := Lib.hid hwd
    have HI := Lib.hid hi
    have HL0 := Lib.hid hl0
    rcases SliceAt.split hits with ⟨hh, _⟩ | ⟨b, o, rfl, -, -, hfb⟩
    · cases hh
    obtain ⟨A1, N1, C1, A2, N2, C2, g0, g1, g2, git⟩ := ItemsAt.cell hits 0 (by simp)
    obtain ⟨A3, N3, C3, A4, N4, C4, g3, g4, g5, git'⟩ := ItemsAt.cell hits 1 (by simp)
    simp only [Nat.zero_mul, Nat.one_mul, Nat.add_zero, List.getElem_cons_zero, List.getElem_cons_succ] at g0 g1 g2 g3 g4 g5 git git'
    have hblt := cell_lt g0
    have hbne : b ≠ w.heap.size := by
      have h9 : (w.alloc (.cells #[.slice none 0 0, .slice none 0 0] 24)).heap.size ≤ b := hfb
      simp only [World.size_alloc] at h9; omega
    obtain ⟨L0, hL0⟩ : ∃ L, L = i0.isList := ⟨_, rfl⟩
    obtain ⟨L1, hL1⟩ : ∃ L, L = i1x.isList := ⟨_, rfl⟩
    rw [← hL0] at g0 git
    rw [← hL1] at g3 git'
    have GIT := Lib.hid git
    have GIT' := Lib.hid git'
    clear hb hfit hbl hits hl0 hwd hi git git' hL0 hL1 hfb
    obtain ⟨W1, hW1⟩ : ∃ W, W = w5.alloc (.cells #[.bool true, .slice i1 y1 z1, .slice (some ⟨b, o, none⟩) 2 z3] 65) := ⟨_, rfl⟩
    have hbw1 : Below w5.heap.size w5 W1 := by rw [hW1]; exact Bel.alloc (Bel.refl w5) _
    have hx1 : W1.heap[w5.heap.size]? = some (.cells #[.bool true, .slice i1 y1 z1, .slice (some ⟨b, o, none⟩) 2 z3] 65 (0, 0)) := by rw [hW1]; exact heap_alloc_new w5 _
    have hs1 : W1.heap.size = w5.heap.size + 1 := by rw [hW1]; simp
    have HW1 := Lib.hid hW1
    have HBW1 := Lib.hid hbw1
    have HX1 := Lib.hid hx1
    have HS1 := Lib.hid hs1
    clear hW1 hbw1 hx1 hs1
    go_wp2_with fail
    rw [← HW1.out]
    refine (read_any _ W1 7 i0 L0 A1 A2 N1 C1 N2 C2 (ItemAt.below GIT.out HBW1.out) HL0.out.1).mono ?_
    rintro e w2 ⟨v1, rfl, m1, m2⟩
    have hb02 : Below w5.heap.size w5 w2 := HBW1.out.trans (m2.mono HBW1.out.size)
    have p2 := cell_below hb02 g3
    have p3 := cell_below hb02 g4
    have p4 := cell_below hb02 g5
    have hx2 := (m2.block w5.heap.size (by rw [HS1.out]; omega)).trans HX1.out
    obtain ⟨r0, r1, r2⟩ := cells3 hx2
    have HB02 := Lib.hid hb02
    have M1 := Lib.hid m1
    have GIT2 := Lib.hid (ItemAt.below GIT'.out hb02)
    clear m1 m2 hb02 hx2 g0 g1 g2 g3 g4 g5 q0 q1 f0 f1
    go_wp2_with fail
    refine (read_any _ w2 7 i1x L1 A3 A4 N3 C3 N4 C4 GIT2.out HL0.out.2).mono ?_
    rintro e w3 ⟨v2, rfl, m3, m4⟩
    have hb03 : Below w5.heap.size w5 w3 := HB02.out.trans (m4.mono HB02.out.size)
    have hb3 := (hb03.block w.heap.size h0).trans HB5.out
    obtain ⟨q0, q1⟩ := cells2 hb3
    have f0 := frozen_of_row w3 w.heap.size 0 _ _ hb3
    have f1 := frozen_of_row w3 w.heap.size 1 _ _ hb3
    have hlt3 : w.heap.size < w3.heap.size := Nat.lt_of_lt_of_le h0 hb03.size
    have HB3 := Lib.hid hb3
    have HB03 := Lib.hid (HBL.out.trans (hb03.mono (Nat.le_of_lt h0)))
    have M3 := Lib.hid m3
    have HB34 := Lib.hid m4
    clear m3 m4 hb03 hb3 r0 r1 r2 p2 p3 p4
    obtain ⟨s0, hs0⟩ : ∃ s, s = readOk i0 := ⟨_, rfl⟩
    obtain ⟨s1, hs1⟩ : ∃ s, s = readOk i1x := ⟨_, rfl⟩
    rw [← hs0] at M1 HWD ⊢
    rw [← hs1] at M3 HWD ⊢
    have HS0 := Lib.hid hs0
    have HS1 := Lib.hid hs1
    clear hs0 hs1
    by_cases hok : s0 = true ∧ s1 = true
    · obtain ⟨rfl, rfl⟩ := hok
      obtain ⟨w1a, w1c, hv1, -, -, -⟩ := SliceAt.len (M1.out rfl)
      obtain ⟨w2a, w2c, hv2, -, -, -⟩ := SliceAt.len (M3.out rfl)
      have M1' := M1.out rfl
      have M3' := M3.out rfl
      obtain ⟨P, hP⟩ : ∃ P, P = i0.items.map It.bytes := ⟨_, rfl⟩
      obtain ⟨Q, hQ⟩ : ∃ P, P = i1x.items.map It.bytes := ⟨_, rfl⟩
      rw [← hP] at hv1 M1'
      rw [← hQ] at hv2 M3'
      have hfin : witDecode bs = (P, Q, 0) := by rw [HWD.out, if_pos ⟨rfl, rfl⟩, hP, hQ]
      have HF := Lib.hid hfin
      subst hv1 hv2
      have N1' := Lib.hid M1'
      have N3' := Lib.hid M3'
      clear hfin hP hQ M1' M3' M1 M3
      go_wp2_with fail
      have hbx := box2 HB3.out (.slice w1a P.length w1c) (.slice w2a Q.length w2c)
      obtain ⟨W, hW⟩ : ∃ W, W = (w3.setCell ⟨w.heap.size, 0, none⟩ (.slice w1a P.length w1c)).setCell ⟨w.heap.size, 1, none⟩ (.slice w2a Q.length w2c) := ⟨_, rfl⟩
      rw [← hW] at hbx ⊢
      obtain ⟨r0, r1⟩ := cells2 hbx.at_
      refine bodyPost_ret (v := .tuple #[.agg #[.slice w1a P.length w1c, .slice w2a Q.length w2c], .int .i64 ((0 : Nat) : Int)]) (by simp [results, Try.results16, go_sem, r0, r1]) rfl ?_
      rw [HF.out]
      have hfar : ∀ b, w.heap.size < b → W.heap[b]? = w3.heap[b]? := fun b hb => hbx.other b (by omega)
      have hs02 := HB02.out.size
      refine ⟨w1a, P.length, w1c, w2a, Q.length, w2c, rfl, ?_, ?_, HB03.out.trans (hbx.chg.toBelowAt (by omega) (fun k hk e => by omega))⟩
      · refine RowsAt.carry (RowsAt.below N1'.out HB34.out) (fun b _ hb => ?_) (fun b hb _ => hfar b ?_)
        all_goals
          rcases hb with hb | hb
          · have h9 : (w.alloc (.cells #[.slice none 0 0, .slice none 0 0] 24)).heap.size ≤ b := hb
            simp only [World.size_alloc] at h9
            first | (show w.heap.size ≤ b; omega) | omega
          · have h9 := HBW1.out.size
            first | (show w.heap.size ≤ b; omega) | omega
      · refine RowsAt.carry N3'.out (fun b _ hb => ?_) (fun b hb _ => hfar b ?_)
        all_goals
          rcases hb with hb | hb
          · have h9 : (w.alloc (.cells #[.slice none 0 0, .slice none 0 0] 24)).heap.size ≤ b := hb
            simp only [World.size_alloc] at h9
            first | (show w.heap.size ≤ b; omega) | omega
          · first | (show w.heap.size ≤ b; omega) | omega
    · have hfin : witDecode bs = ([], [], 210) := by rw [HWD.out, if_neg hok]
      have HF := Lib.hid hfin
      have hcase : s0 = false ∨ (s0 = true ∧ s1 = false) := by
        cases s0
        · exact .inl rfl
        · cases s1
          · exact .inr ⟨rfl, rfl⟩
          · exact absurd ⟨rfl, rfl⟩ hok
      clear hfin hok M1 M3 HWD
      rcases hcase with rfl | ⟨rfl, rfl⟩
      all_goals
        go_wp2_with fail
        have hbx := box2 HB3.out (.slice none 0 0) (.slice none 0 0)
        obtain ⟨W, hW⟩ : ∃ W, W = (w3.setCell ⟨w.heap.size, 0, none⟩ (.slice none 0 0)).setCell ⟨w.heap.size, 1, none⟩ (.slice none 0 0) := ⟨_, rfl⟩
        rw [← hW] at hbx ⊢
        obtain ⟨r0, r1⟩ := cells2 hbx.at_
        refine bodyPost_ret (v := .tuple #[.agg #[.slice none 0 0, .slice none 0 0], .int .i64 ((210 : Nat) : Int)]) (by simp [results, Try.results16, go_sem, r0, r1]) rfl ?_
        rw [HF.out]
        exact ⟨none, 0, 0, none, 0, 0, rfl, SliceAt.nil _ _ _ _, SliceAt.nil _ _ _ _, HB03.out.trans (hbx.chg.toBelowAt (by omega) (fun k hk e => by omega))⟩
  · have hfin : witDecode bs = ([], [], 210) := by
      refine witDecode_no bs e1 x HR.out ?_
      by_cases he : e1 = 0
      · by_cases hl : il = true
        · by_cases hy : y3 = 2
          · exact absurd ⟨he, hl, hy⟩ hgood
          · exact .inr (.inr (by rw [← HN3.out]; exact hy))
        · exact .inr (.inl (by rw [← HIL.out]; simpa using hl))
      · exact .inl he
    have HF := Lib.hid hfin
    have hcase : (((e1 : Nat) : Int) != 0) = true ∨ (e1 = 0 ∧ il = false) ∨ (e1 = 0 ∧ il = true ∧ (((y3 : Nat) : Int) != 2) = true) := by
      by_cases he : e1 = 0
      · by_cases hl : il = true
        · by_cases hy : y3 = 2
          · exact absurd ⟨he, hl, hy⟩ hgood
          · exact .inr (.inr ⟨he, hl, by simp; omega⟩)
        · exact .inr (.inl ⟨he, by simpa using hl⟩)
      · exact .inl (by simp; omega)
    clear hfin hgood
    rcases hcase with h | ⟨rfl, rfl⟩ | ⟨rfl, rfl, h⟩
    all_goals
      go_wp2_with fail
      have hbx := box2 HB5.out (.slice none 0 0) (.slice none 0 0)
      obtain ⟨W, hW⟩ : ∃ W, W = (w5.setCell ⟨w.heap.size, 0, none⟩ (.slice none 0 0)).setCell ⟨w.heap.size, 1, none⟩ (.slice none 0 0) := ⟨_, rfl⟩
      rw [← hW] at hbx ⊢
      obtain ⟨r0, r1⟩ := cells2 hbx.at_
      have hlw : w.heap.size < W.heap.size := by rw [hbx.size]; exact h0
      refine bodyPost_ret (v := .tuple #[.agg #[.slice none 0 0, .slice none 0 0], .int .i64 ((210 : Nat) : Int)]) (by simp [results, Try.results16, go_sem, r0, r1, hlw]) rfl ?_
      rw [HF.out]
      exact WDecd.bad HBL.out hbx
end Go.Proofs.Ytndkkgkcbbmnpaa
namespace Go.Proofs.Ytndkkgkcbbmnpaa
open Go.RowKit Go.Pg

def RBodyC (d : Nat) : Prop := ∀ (F : Nat → Prop) (w : World) (x : It) (l : Bool) (v1 v2 : Value), ItemAt F w d [.bool l, v1, v2] x → x.body ≤ 16777215 →
  Calls Try.prog 94 #[.agg #[.bool l, v1, v2]] w (Fresh w 5 1 byteR x.bodyB)
def RBytesC (d : Nat) : Prop := ∀ (F : Nat → Prop) (w : World) (x : It) (l : Bool) (v1 v2 : Value), ItemAt F w d [.bool l, v1, v2] x → x.body ≤ 16777215 →
  Calls Try.prog 76 #[.agg #[.bool l, v1, v2]] w (Fresh w 5 1 byteR x.enc)

set_option maxRecDepth 100000 in
set_option maxHeartbeats 1000000 in
theorem rbody_step {d : Nat} (hd0 : RBytesC d) : RBodyC (d + 1) := by
  intro F w x l v1 v2 h hx
  obtain ⟨hl, a1, n1, c1, a2, n2, c2, rfl, rfl, -, -⟩ := ItemAt.form h
  obtain ⟨i0, hi, hz0, hz1, hz2⟩ := info_parts infoU8
  have hbs := ItemAt.bytes h
  have his := ItemAt.items h
  have HD := Lib.hid hd0
  have HX := Lib.hid hx
  have hbe := It.body_eq x
  have HBE := Lib.hid hbe
  have hn2 : n2 = x.items.length := by
    rcases SliceAt.split his with ⟨h1, h2⟩ | ⟨_, _, _, h2, _⟩
    · rw [h1, h2]; rfl
    · exact h2
  have hn63 : n2 ≤ 1099511627776 := by have := It.length_le_wholes x.items; omega
  have HN2 := Lib.hid hn2
  have hbs0 := BytesAt.below hbs (Bel.alloc (Bel.refl w) (.cells #[.bool l, .slice a1 n1 c1, .slice a2 n2 c2] 65))
  have hle0 : (([] : List UInt8).length + x.bytes.length) * 1 ≤ 140737488355328 := by simp; omega
  have hbase0 : w.heap.size + 1 ≤ (w.alloc (.cells #[.bool l, .slice a1 n1 c1, .slice a2 n2 c2] 65)).heap.size := by simp
  clear hn2 hbe hx hd0 hl h
  go_enter Try.func94, Try.ntmps94
  go_wp2_with (at_builtin; refine wpList_append_at rfl (.tmp 5) (.tmp 7) 25 rfl (w.heap.size + 1) 5 i0 (.int .u8 0) 1 1 underlying25 hi hz0 hz1 hz2 rfl (by decide) (by decide) byteR.one _ [] rfl (OwnAt.nil _ _ _ _ _) _ x.bytes F rfl hbs0 hle0 hbase0 ?next)
  case next =>
  intro v' w2 ho hg hm
  have ho1 : OwnAt w2 (w.heap.size + 1) 5 1 byteR v' (x.bytes ++ It.encs (x.items.take 0)) := by simpa [It.encs] using ho
  have hB : Below w.heap.size w w2 ∧ w2.heap[w.heap.size]? = some (.cells #[.bool l, .slice a1 n1 c1, .slice a2 n2 c2] 65 (0, 0)) := by
    refine ⟨(Bel.alloc (Bel.refl w) _).grown hg (by simp) (fun k hk => by simp [Value.ownBlock] at hk), ?_⟩
    rw [hg.block _ (by simp) (by simp [Value.ownBlock])]; exact heap_alloc_new w _
  have HO := Lib.hid ho1
  have HB := Lib.hid hB
  clear ho ho1 hB hg hm hbs0
  go_wp2_with fail
  go_loopw [3, 4] (fun s i wr => ∃ k : Nat, k ≤ n2 ∧ i = .int .i64 k ∧ Hid (OwnAt wr (w.heap.size + 1) 5 1 byteR s (x.bytes ++ It.encs (x.items.take k))) ∧
      Hid (Below w.heap.size w wr ∧ wr.heap[w.heap.size]? = some (.cells #[.bool l, .slice a1 n1 c1, .slice a2 n2 c2] 65 (0, 0)))) (fun _ i _ => n2 - (intOf i).toNat)
  case atStart => exact ⟨0, Nat.zero_le _, rfl, HO.out, HB.out⟩
  case round =>
    obtain ⟨k, hk, rfl, HOr, HBr⟩ := hrel
    obtain ⟨q0, q1, q2⟩ := cells3 HBr.out.2
    have hsr := (Array.getElem?_eq_some_iff.1 HBr.out.2).1
    have hN := HN2.out
    clear HO HB
    by_cases hlt : k < n2
    · have hki : k < x.items.length := by omega
      rcases SliceAt.split his with ⟨h1, h2⟩ | ⟨b, o, rfl, -, -, hFb⟩
      · rw [h1] at hki; simp at hki
      have his' := ItemsAt.below his HBr.out.1
      obtain ⟨y1, z1, t1, y2, z2, t2, g0, g1, g2, hit⟩ := ItemsAt.cell his' k hki
      obtain ⟨y, hy⟩ : ∃ y, y = x.items[k] := ⟨_, rfl⟩
      rw [← hy] at g0 hit
      obtain ⟨L, hL⟩ : ∃ L, L = x.bytes ++ It.encs (x.items.take k) := ⟨_, rfl⟩
      have h1 := It.wholes_take_succ x.items k hki
      have h2 := It.wholes_take_le x.items (k + 1)
      have h3 := It.body_le_whole y
      have hyb : y.body ≤ 16777215 := by have := HBE.out; have := HX.out; rw [← hy] at h1; omega
      have hLl : L.length + y.whole ≤ 16777215 := by
        have := HBE.out; have := HX.out
        rw [hL, List.length_append, It.encs_length]; rw [← hy] at h1; omega
      have HE : Hid (L ++ y.enc = x.bytes ++ It.encs (x.items.take (k + 1))) := by
        show _ = _
        rw [hL, It.encs_take_succ _ _ hki, ← hy, List.append_assoc]
      have hyl := It.enc_length y
      rw [← hL] at HOr
      have HYL := Lib.hid hyl
      clear hy hL h1 h2 h3 his' hN hyl
      go_wp2_with fail
      refine (HD.out F wr y _ _ _ hit hyb).mono ?_
      rintro e w3 ⟨v3, rfl, ho3, hb3⟩
      have hO2 : OwnAt w3 (w.heap.size + 1) 5 1 byteR u3 L := (HOr.out).carry (fun g _ _ hlt => hb3.block g hlt)
      have hs3 : BytesAt (fun _ => True) w3 v3 y.enc := ho3.at (fun _ _ _ _ => trivial) (by decide)
      have hle : (L.length + y.enc.length) * 1 ≤ 140737488355328 := by rw [HYL.out]; omega
      have hbase : w.heap.size + 1 ≤ w3.heap.size := by have := hb3.size; omega
      have hB3 : Below w.heap.size w w3 ∧ w3.heap[w.heap.size]? = some (.cells #[.bool l, .slice a1 n1 c1, .slice (some ⟨b, o, none⟩) n2 c2] 65 (0, 0)) :=
        ⟨Bel.call HBr.out.1 hb3, by rw [hb3.block _ hsr]; exact HBr.out.2⟩
      have HB3 := Lib.hid hB3
      have HO2 := Lib.hid hO2
      have HS3 := Lib.hid hs3
      clear hB3 hb3 ho3 hO2 hs3 hit g0 g1 g2 q0 q1 q2
      go_wp2_with (at_builtin; refine wpList_append_at rfl (.tmp 16) (.tmp 22) 25 rfl (w.heap.size + 1) 5 i0 (.int .u8 0) 1 1 underlying25 hi hz0 hz1 hz2 rfl (by decide) (by decide) byteR.one _ L rfl HO2.out _ y.enc (fun _ => True) rfl HS3.out hle hbase ?_; intro v4 w4 ho hg hm)
      have HO4 := Lib.hid ho
      have hown := (HO2.out).own
      have hB4 : Below w.heap.size w w4 ∧ w4.heap[w.heap.size]? = some (.cells #[.bool l, .slice a1 n1 c1, .slice (some ⟨b, o, none⟩) n2 c2] 65 (0, 0)) := by
        refine ⟨(HB3.out.1).grown hg (by omega) (fun k hk => by have := (hown k hk).1; omega), ?_⟩
        rw [hg.block _ (by omega) (fun e => by have := (hown _ e.symm).1; omega)]; exact HB3.out.2
      have HB4 := Lib.hid hB4
      clear ho hg hm hB4 hown
      go_roundw
      case rel => exact ⟨k + 1, by omega, num_eq (by omega), (by show OwnAt _ _ _ _ _ _ _; rw [← HE.out]; exact HO4.out), HB4.out⟩
      case measure => simp [intOf]; omega
    · obtain rfl : k = n2 := by omega
      go_wp2
      go_ret
      have hO := HOr.out
      rw [List.take_of_length_le (by omega), ← It.bodyB_eq] at hO
      exact ⟨_, rfl, hO.lower (by omega), HBr.out.1⟩
end Go.Proofs.Ytndkkgkcbbmnpaa
namespace Go.Proofs.Ytndkkgkcbbmnpaa
open Go.RowKit Go.Pg

theorem head_int (b m : Int) (base n : Nat) (w : World) (hb : b = base) (hm : m = n) (h1 : base ≤ 192) (hn : n < 16777216) :
    Calls Try.prog 93 #[.int .i64 b, .int .i64 m] w (Fresh w 5 1 byteR (headB base n)) := by
  subst hb; subst hm; exact head_any base n w h1 hn

set_option maxRecDepth 100000 in
set_option maxHeartbeats 1000000 in
theorem rbytes_step {d : Nat} (hd0 : RBodyC d) : RBytesC d := by
  intro F w x l v1 v2 h hx
  obtain ⟨hl, a1, n1, c1, a2, n2, c2, rfl, rfl, -, -⟩ := ItemAt.form h
  obtain ⟨i0, hi, hz0, hz1, hz2⟩ := info_parts infoU8
  obtain ⟨W0, hW0⟩ : ∃ W0, W0 = w.alloc (.cells #[.bool l, .slice a1 n1 c1, .slice a2 n2 c2] 65) := ⟨_, rfl⟩
  have hb0 : Below w.heap.size w W0 := by rw [hW0]; exact Bel.alloc (Bel.refl w) _
  have hk0 : W0.heap[w.heap.size]? = some (.cells #[.bool l, .slice a1 n1 c1, .slice a2 n2 c2] 65 (0, 0)) := by rw [hW0]; exact heap_alloc_new w _
  have h0 := h.below hb0
  have HD := Lib.hid hd0
  have HX := Lib.hid hx
  have HW0 := Lib.hid hW0
  have hsz0 := (Array.getElem?_eq_some_iff.1 hk0).1
  have hbl := It.bodyB_length x
  obtain ⟨B, hB⟩ : ∃ B, B = x.bodyB := ⟨_, rfl⟩
  obtain ⟨n, hn⟩ : ∃ n, n = B.length := ⟨_, rfl⟩
  rw [← hB, ← hn] at hbl
  have hnb : n ≤ 16777215 := by omega
  have hnb' : (n : Int) ≤ 16777215 := by omega
  have HN := Lib.hid hn
  have HB := Lib.hid hB
  have HBL := Lib.hid hbl
  have HK0 := Lib.hid hk0
  have HB0 := Lib.hid hb0
  have HNB := Lib.hid hnb
  clear hd0 hx hW0 h hn hB hbl hk0 hb0 hnb
  by_cases hp : x.plain = true
  · obtain ⟨c, hc⟩ : ∃ c : UInt8, x = .text [c] ∧ c.toNat < 128 := by
      cases x with
      | list l => simp [It.plain] at hp
      | text b =>
        simp only [It.plain, plainB, Bool.and_eq_true, beq_iff_eq, decide_eq_true_eq] at hp
        match b, hp with
        | [c], hp => exact ⟨c, rfl, by simpa using hp.2⟩
    obtain ⟨rfl, hc⟩ := hc
    obtain rfl : l = false := hl
    obtain rfl : B = [c] := HB.out
    obtain rfl : n = 1 := HN.out
    go_enter Try.func76, Try.ntmps76
    go_wp2_with fail
    rw [← HW0.out]
    refine (HD.out F W0 (.text [c]) _ _ _ h0 HX.out).mono ?_
    rintro e w2 ⟨v2, rfl, ho, hb2⟩
    have hbk : w2.heap[w.heap.size]? = some (.cells #[.bool false, .slice a1 n1 c1, .slice a2 n2 c2] 65 (0, 0)) := by rw [hb2.block _ hsz0]; exact HK0.out
    obtain ⟨q0, q1, q2⟩ := cells3 hbk
    have hs : BytesAt (fun _ => True) w2 v2 [c] := ho.at (fun _ _ _ _ => trivial) (by decide)
    rcases SliceAt.cases hs with ⟨h, _⟩ | ⟨g, o, c', rfl, -, -, -, -⟩
    · cases h
    have hcell := BytesAt.cell hs 0 (by simp)
    simp at hcell
    have hc' : (c.toNat : Int) < 128 := by omega
    have HO := Lib.hid ho
    have HB2 := Lib.hid (Bel.call HB0.out hb2)
    have hbase := (HB0.out).size
    clear ho hb2 hbk hs
    go_wp2
    go_ret
    refine ⟨_, rfl, ?_, HB2.out⟩
    have : (It.text [c]).enc = [c] := by simp only [It.enc]; rw [if_pos (by simpa [It.plain] using hp)]
    rw [this]
    exact (HO.out).lower hbase
  · have hp' : x.plain = false := by simpa using hp
    have hle : Hid (x.enc = headB x.base n ++ B) := by
      show _ = _
      rw [It.enc_eq, hp', HBL.out, HB.out]; rfl
    have hcase : (l = true ∧ Hid ((x.base : Int) = 192)) ∨ (l = false ∧ Hid ((x.base : Int) = 128) ∧ (n = 1 → ∃ c : UInt8, B = [c] ∧ 128 ≤ c.toNat)) := by
      unfold It.base Hid
      cases x with
      | list l' => exact .inl ⟨hl, by simp [It.isList]⟩
      | text b =>
        refine .inr ⟨hl, by simp [It.isList], fun h1 => ?_⟩
        have hBb : B = b := HB.out
        have hnn := HN.out
        rw [hBb] at hnn
        match b, hnn.symm.trans h1 with
        | [c], _ =>
          refine ⟨c, hBb, ?_⟩
          simp [It.plain, plainB] at hp'
          omega
    have hcases : (l = true ∧ Hid ((x.base : Int) = 192)) ∨ (l = false ∧ Hid ((x.base : Int) = 128) ∧ n ≠ 1) ∨ (l = false ∧ Hid ((x.base : Int) = 128) ∧ n = 1 ∧ ∃ c : UInt8, B = [c] ∧ 128 ≤ c.toNat) := by
      rcases hcase with h | ⟨h1, h2, h3⟩
      · exact .inl h
      · by_cases hn1 : n = 1
        · exact .inr (.inr ⟨h1, h2, hn1, h3 hn1⟩)
        · exact .inr (.inl ⟨h1, h2, hn1⟩)
    have hsz : (headB x.base n).length + n = sz n := headB_length _ _
    obtain ⟨hd, hhd⟩ : ∃ hd, hd = headB x.base n := ⟨_, rfl⟩
    rw [← hhd] at hle hsz
    have hszl : sz n ≤ n + 9 := by
      unfold sz; split
      · omega
      · have := number_le 8 n (by have := HNB.out; omega); omega
    have hdl : hd.length ≤ 16 := by omega
    have HHD := Lib.hid hhd
    clear hcase hhd hsz hszl hp hp' hl
    rcases hcases with ⟨rfl, hbz⟩ | ⟨rfl, hbz, hn1⟩ | ⟨rfl, hbz, hn1, c, hBc, hc⟩
    case' inl => have ht1 : True := trivial
    case' inr.inl => have ht1 : ((n : Int) == 1) = false := by simp; omega
    case' inr.inr =>
      have hc' : ¬ (c.toNat : Int) < 128 := by omega
      have HBC := Lib.hid hBc
      obtain rfl := hn1
      clear hBc hc
    all_goals
      go_enter Try.func76, Try.ntmps76
      go_wp2_with fail
      rw [← HW0.out]
      refine (HD.out F W0 x _ _ _ h0 HX.out).mono ?_
      rintro e w2 ⟨v2, rfl, ho, hb2⟩
      have hbk := (hb2.block _ hsz0).trans HK0.out
      obtain ⟨q0, q1, q2⟩ := cells3 hbk
      rw [← HB.out] at ho
      have hs : BytesAt (fun _ => True) w2 v2 B := ho.at (fun _ _ _ _ => trivial) (by decide)
      obtain ⟨ab, cb, rfl, -, -, -⟩ := SliceAt.len hs
      rw [← HN.out] at hs ⊢
      try (
        have hs' := hs
        rw [HBC.out] at hs'
        rcases SliceAt.split hs' with ⟨h, _⟩ | ⟨g, o, rfl, -, -, -⟩
        · cases h
        have hcell := BytesAt.cell hs' 0 (by simp)
        simp at hcell
        clear hs')
      have HB2 := Lib.hid (Bel.call HB0.out hb2)
      have HS := Lib.hid hs
      have hbase := Nat.le_trans (HB0.out).size hb2.size
      clear ho hb2 hbk hs
      go_wp2_with fail
      refine (head_int _ _ x.base _ w2 hbz.out.symm rfl (by have := hbz.out; omega) (by first | (have := HNB.out; omega) | exact (show (1 : Nat) < 16777216 by omega))).mono ?_
      rintro e w3 ⟨v3, rfl, ho3, hb3⟩
      have hd' := HHD.out
      have ho3' := ho3
      rw [← hd'] at ho3'
      have HO3 := Lib.hid ho3'
      have HS3 := Lib.hid (BytesAt.below HS.out hb3)
      have HB3 := Lib.hid (Bel.call HB2.out hb3)
      have hbase3 := hb3.size
      have hle3 : (hd.length + B.length) * 1 ≤ 140737488355328 := by have := HN.out; have := HNB.out; omega
      clear ho3 ho3' hb3 hd'
      go_wp2_with (at_builtin; refine wpList_append_at rfl (.tmp 29) (.tmp 30) 25 rfl w2.heap.size 5 i0 (.int .u8 0) 1 1 underlying25 hi hz0 hz1 hz2 rfl (by decide) (by decide) byteR.one _ hd rfl HO3.out _ B (fun _ => True) rfl HS3.out hle3 hbase3 ?_; intro v4 w4 ho hg hm)
      go_ret
      refine ⟨v4, rfl, ?_, ?_⟩
      · rw [hle.out]; exact ho.lower hbase
      · exact (HB3.out).grown hg (HB3.out).size (fun k hk => by have := ((HO3.out).own k hk).1; omega)
theorem rbytes (d : Nat) : RBodyC d ∧ RBytesC d := by
  induction d with
  | zero => exact ⟨fun _ _ _ _ _ _ h => h.elim, fun _ _ _ _ _ _ h => h.elim⟩
  | succ d ih => have hb := rbody_step ih.2; exact ⟨hb, rbytes_step hb⟩
theorem rbytes_any (d : Nat) : RBytesC d := (rbytes d).2
end Go.Proofs.Ytndkkgkcbbmnpaa
