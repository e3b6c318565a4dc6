/-
  Contract of witness.Encode.
-/
import Derived.Test.YtndkkgkcbbmnpaaNestE
import Derived.Test.YtndkkgkcbbmnpaaTexts
import Derived.Test.YtndkkgkcbbmnpaaBytes
namespace Go.Pg
open Go.RowKit
/-- a witness as an item -/
def witI (N C : List (List UInt8)) : It := .list [textsI N, textsI C]
/-- a witness' bytes, and the error's number -/
def witEncode (N C : List (List UInt8)) : List UInt8 × Nat :=
  if rising N && rising C then (if (witI N C).encode.2 = 0 then ((witI N C).encode.1, 0) else ([], 210)) else ([], 210)
end Go.Pg
namespace Go.Proofs.Ytndkkgkcbbmnpaa
open Go.RowKit Go.Pg

theorem pairI {w2 w3 w4 : World} {N C : List (List UInt8)} {v1 u1 v2 u2 : Value} (h3 : Below w2.heap.size w2 w3) (h4 : Below w3.heap.size w3 w4)
    (hit3 : ItemAt (fun b => w2.heap.size ≤ b) w3 2 [.bool true, v1, v2] (textsI N)) (hit4 : ItemAt (fun b => w3.heap.size ≤ b) w4 2 [.bool true, u1, u2] (textsI C)) (t : TypeId) :
    ItemsAt (fun b => w2.heap.size ≤ b) (w4.alloc (.cells #[.bool true, v1, v2, .bool true, u1, u2] t)) 2 (.slice (some ⟨w4.heap.size, 0, none⟩) 2 2) [textsI N, textsI C] := by
  have h1 : ItemAt (fun b => w2.heap.size ≤ b) w4 2 [.bool true, v1, v2] (textsI N) := hit3.below h4
  have h2 : ItemAt (fun b => w2.heap.size ≤ b) w4 2 [.bool true, u1, u2] (textsI C) := hit4.carry (fun b _ hb => Nat.le_trans h3.size hb) (fun _ _ _ => rfl)
  exact rows_alloc (l := [textsI N, textsI C]) (carriedItem 2) ((Rows.one h1 rfl).append (Rows.one h2 rfl)) (show 2 ≤ maxLen by decide) (fun _ _ x => x) (Nat.le_trans h3.size h4.size) t

set_option maxRecDepth 100000 in
set_option maxHeartbeats 1000000 in
theorem wencode_any (F : Nat → Prop) (w : World) (a1 a2 : Option Addr) (n1 c1 n2 c2 : Nat) (N C : List (List UInt8)) (hN : RowsAt F w (.slice a1 n1 c1) N) (hC : RowsAt F w (.slice a2 n2 c2) C)
    (hNl : N.length ≤ 1099511627776) (hCl : C.length ≤ 1099511627776) (hNx : ∀ x ∈ N, x.length ≤ 70368744177664) (hCx : ∀ x ∈ C, x.length ≤ 70368744177664) (hw : (witI N C).whole ≤ 70368744177664) :
    Calls Try.prog 13 #[.agg #[.slice a1 n1 c1, .slice a2 n2 c2]] w (Encd w (witEncode N C)) := by
  have HW := Lib.hid hw
  have HNX := Lib.hid hNx
  have HCX := Lib.hid hCx
  obtain ⟨W0, hW0⟩ : ∃ W0, W0 = w.alloc (.cells #[.slice a1 n1 c1, .slice a2 n2 c2] 24) := ⟨_, rfl⟩
  have hb0 : Below w.heap.size w W0 := by rw [hW0]; exact Bel.alloc (Bel.refl w) _
  have hk0 : W0.heap[w.heap.size]? = some (.cells #[.slice a1 n1 c1, .slice a2 n2 c2] 24 (0, 0)) := by rw [hW0]; exact heap_alloc_new w _
  have HW0 := Lib.hid hW0
  clear hw hNx hCx hW0
  obtain ⟨r1, hr1⟩ : ∃ r, r = rising N := ⟨_, rfl⟩
  obtain ⟨r2, hr2⟩ : ∃ r, r = rising C := ⟨_, rfl⟩
  have HR1 := Lib.hid hr1
  have HR2 := Lib.hid hr2
  clear hr1 hr2
  have hN0 := RowsAt.below hN hb0
  have hC0 := RowsAt.below hC hb0
  obtain ⟨p0, p1⟩ := cells2 hk0
  have hsz0 := (Array.getElem?_eq_some_iff.1 hk0).1
  have HK0 := Lib.hid hk0
  have HB0 := Lib.hid hb0
  clear hk0 hb0
  cases hr1v : r1
  · go_enter Try.func13, Try.ntmps13
    go_wp2_with fail
    rw [← HW0.out]
    refine (rises_any F W0 _ N hN0 (by omega)).mono ?_
    rintro e w1 ⟨rfl, hb1⟩
    rw [← HR1.out, hr1v]
    have HB1 := Lib.hid (Bel.call HB0.out hb1)
    clear hb1
    go_wp2
    go_ret2
    have hr : (rising N && rising C) = false := by rw [← HR1.out, hr1v]; rfl
    exact ⟨.slice none 0 0, by unfold witEncode; rw [hr]; rfl, by unfold witEncode; rw [hr]; exact OwnAt.nil _ _ _ _ _, HB1.out⟩
  · cases hr2v : r2
    · go_enter Try.func13, Try.ntmps13
      go_wp2_with fail
      rw [← HW0.out]
      refine (rises_any F W0 _ N hN0 (by omega)).mono ?_
      rintro e w1 ⟨rfl, hb1⟩
      rw [← HR1.out, hr1v]
      have q1 := (hb1.cell (p := ⟨w.heap.size, 1, none⟩) hsz0).trans p1
      have HB1 := Lib.hid hb1
      clear hb1
      go_wp2_with fail
      refine (rises_any F w1 _ C (RowsAt.below hC0 HB1.out) (by omega)).mono ?_
      rintro e w2 ⟨rfl, hb2⟩
      rw [← HR2.out, hr2v]
      have HB2 := Lib.hid (Bel.call (Bel.call HB0.out HB1.out) hb2)
      clear hb2 q1
      go_wp2
      go_ret2
      have hr : (rising N && rising C) = false := by rw [← HR2.out, hr2v]; simp
      exact ⟨.slice none 0 0, by unfold witEncode; rw [hr]; rfl, by unfold witEncode; rw [hr]; exact OwnAt.nil _ _ _ _ _, HB2.out⟩
    · go_enter Try.func13, Try.ntmps13
      go_wp2_with fail
      rw [← HW0.out]
      refine (rises_any F W0 _ N hN0 (by omega)).mono ?_
      rintro e w1 ⟨rfl, hb1⟩
      rw [← HR1.out, hr1v]
      have q1 := (hb1.cell (p := ⟨w.heap.size, 1, none⟩) hsz0).trans p1
      have HB1 := Lib.hid hb1
      clear hb1
      go_wp2_with fail
      refine (rises_any F w1 _ C (RowsAt.below hC0 HB1.out) (by omega)).mono ?_
      rintro e w2 ⟨rfl, hb2⟩
      rw [← HR2.out, hr2v]
      have HB2 := Lib.hid (Bel.call HB1.out hb2)
      clear hb2 q1
      have q0 := ((HB2.out).cell (p := ⟨w.heap.size, 0, none⟩) hsz0).trans p0
      have q1 := ((HB2.out).cell (p := ⟨w.heap.size, 1, none⟩) hsz0).trans p1
      go_wp2_with fail
      have hN2 : ∀ W : World, W.heap = w2.heap → RowsAt F W (.slice a1 n1 c1) N := fun W hW => RowsAt.carry (RowsAt.below hN0 HB2.out) (fun _ _ x => x) (fun b _ _ => by rw [hW])
      have hC2 : ∀ W : World, W.heap = w2.heap → RowsAt F W (.slice a2 n2 c2) C := fun W hW => RowsAt.carry (RowsAt.below hC0 HB2.out) (fun _ _ x => x) (fun b _ _ => by rw [hW])
      have hkeep : ∀ W, Below w2.heap.size w2 W → W.cell? ⟨w.heap.size, 0, none⟩ = some (.slice a1 n1 c1) ∧ W.cell? ⟨w.heap.size, 1, none⟩ = some (.slice a2 n2 c2) := fun W hW => ⟨cell_below hW q0, cell_below hW q1⟩
      have HN2 := Lib.hid hN2
      have HC2 := Lib.hid hC2
      have HK2 := Lib.hid hkeep
      clear hN2 hC2 hkeep
      go_region_held3 (fun w' => w'.cell? ⟨w.heap.size, 0, none⟩ = some (.slice a1 n1 c1) ∧ w'.cell? ⟨w.heap.size, 1, none⟩ = some (.slice a2 n2 c2)) (first | go_keep | exact HK2.out _ (by assumption) | exact HK2.out _ (Bel.alloc (by assumption) _))
        (first
          | (go_at_call_of 43 (Value.slice a1 n1 c1); refine (texts_any F _ _ N ?_ hNl HNX.out).mono ?_; (exact HN2.out _ rfl); rintro e w3 ⟨v3, rfl, hit3, hb3⟩; have hB3 : Below w2.heap.size w2 w3 := Bel.call (Bel.drew (Bel.refl w2)) hb3; obtain ⟨-, x1, y1, z1, x2, y2, z2, -, rfl, -, -⟩ := ItemAt.form hit3)
          | (go_at_call_of 43 (Value.slice a2 n2 c2); refine (texts_any F _ _ C ?_ hCl HCX.out).mono ?_; (exact RowsAt.below (HC2.out w2.drew rfl) hb3); rintro e w4 ⟨v4, rfl, hit4, hb4⟩; have hB4 : Below w2.heap.size w2 w4 := Bel.call hB3 hb4; obtain ⟨-, x1', y1', z1', x2', y2', z2', -, rfl, -, -⟩ := ItemAt.form hit4)
          | (go_at_call 42; refine (list_any (fun b => w2.heap.size ≤ b) _ _ 2 [textsI N, textsI C] ?_ (show 2 ≤ 1099511627776 by omega)).mono ?_; (exact pairI hB3 hb4 hit3 hit4 _); rintro e w5 ⟨v5, rfl, hit5, hb5⟩; have hB5 : Below w2.heap.size w2 w5 := Bel.call (Bel.alloc hB4 _) hb5; obtain ⟨-, x1'', y1'', z1'', x2'', y2'', z2'', -, rfl, -, -⟩ := ItemAt.form hit5)
          | (go_at_call 41; refine (encode_any _ w5 3 (witI N C) _ _ _ hit5 HW.out).mono ?_; rintro e w6 ⟨v6, rfl, ho6, hb6⟩; have hB6 : Below w2.heap.size w2 w6 := Bel.call hB5 hb6))
      have HB6 := Lib.hid (Bel.call HB0.out (Below.trans HB2.out (hB6.mono (HB2.out).size)))
      obtain ⟨E, hE⟩ : ∃ E, E = (witI N C).encode := ⟨_, rfl⟩
      rw [← hE] at ho6 ⊢
      have HE := Lib.hid hE
      have hbase := Nat.le_trans (HB0.out).size (HB2.out).size
      have hbase5 := hB5.size
      have ho7 := ho6.lower (Nat.le_trans hbase hbase5)
      clear hE hB3 hB4 hB5 hB6 hb3 hb4 hb5 hb6 hit3 hit4 hit5 ho6 q0 q1
      have hr : (rising N && rising C) = true := by rw [← HR1.out, ← HR2.out, hr1v, hr2v]; rfl
      have HR := Lib.hid hr
      clear hr
      by_cases he : E.2 = 0
      · have he2 : (((E.2 : Nat) : Int) != 0) = false := by simp; omega
        go_wp2
        go_ret2
        exact ⟨v6, by unfold witEncode; rw [if_pos HR.out, ← HE.out, if_pos he]; rfl, by unfold witEncode; rw [if_pos HR.out, ← HE.out, if_pos he]; exact ho7, HB6.out⟩
      · have he2 : (((E.2 : Nat) : Int) != 0) = true := by simp; omega
        go_wp2
        go_ret2
        exact ⟨.slice none 0 0, by unfold witEncode; rw [if_pos HR.out, ← HE.out, if_neg he]; rfl, by unfold witEncode; rw [if_pos HR.out, ← HE.out, if_neg he]; exact OwnAt.nil _ _ _ _ _, HB6.out⟩

end Go.Proofs.Ytndkkgkcbbmnpaa
