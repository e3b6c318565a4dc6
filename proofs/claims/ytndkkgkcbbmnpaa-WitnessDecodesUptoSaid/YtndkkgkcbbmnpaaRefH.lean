/-
  Contract of pergolaref21.Encode.
-/
import Derived.Test.YtndkkgkcbbmnpaaRefF
import Derived.Test.YtndkkgkcbbmnpaaRefG
import Derived.Test.YtndkkgkcbbmnpaaAhead
import Derived.Test.YtndkkgkcbbmnpaaWitE
namespace Go.Proofs.Ytndkkgkcbbmnpaa
open Go.RowKit Go.Pg

theorem pairR {F : Nat → Prop} {w2 w3 w4 : World} {N C : List (List UInt8)} {v1 u1 v2 u2 : Value} (h4 : Below w3.heap.size w3 w4)
    (hit3 : ItemAt F w3 2 [.bool true, v1, v2] (textsI N)) (hit4 : ItemAt F w4 2 [.bool true, u1, u2] (textsI C)) (hs : w2.heap.size ≤ w4.heap.size) (t : TypeId) :
    ItemAt (fun b => F b ∨ w2.heap.size ≤ b) (w4.alloc (.cells #[.bool true, v1, v2, .bool true, u1, u2] t)) 3 [.bool true, .slice none 0 0, .slice (some ⟨w4.heap.size, 0, none⟩) 2 2] (witI N C) := by
  have h1 : ItemAt F w4 2 [.bool true, v1, v2] (textsI N) := hit3.below h4
  exact ⟨_, _, rfl, SliceAt.nil _ _ _ _, rows_alloc (l := [textsI N, textsI C]) (carriedItem 2) ((Rows.one h1 rfl).append (Rows.one hit4 rfl)) (show 2 ≤ maxLen by decide) (fun _ _ x => .inl x) (.inr hs) t⟩

set_option maxRecDepth 100000 in
set_option maxHeartbeats 2000000 in
theorem rwencode_any (F : Nat → Prop) (w : World) (a1 a2 : Option Addr) (n1 c1 n2 c2 : Nat) (N C : List (List UInt8)) (hN : RowsAt F w (.slice a1 n1 c1) N) (hC : RowsAt F w (.slice a2 n2 c2) C)
    (hNl : N.length ≤ 1099511627776) (hCl : C.length ≤ 1099511627776) (hNx : ∀ x ∈ N, x.length ≤ 70368744177664) (hCx : ∀ x ∈ C, x.length ≤ 70368744177664) (hw : (witI N C).whole ≤ 70368744177664) :
    Calls Try.prog 14 #[.agg #[.slice a1 n1 c1, .slice a2 n2 c2]] w (Encd w (witEncode N C)) := by
  have HW := Lib.hid hw
  have HNX := Lib.hid (fun x hx => Nat.le_trans (hNx x hx) (show 70368744177664 ≤ 1152921504606846976 by omega))
  have HCX := Lib.hid (fun x hx => Nat.le_trans (hCx x hx) (show 70368744177664 ≤ 1152921504606846976 by omega))
  replace hN : RowsAt (fun b => F b ∧ b < w.heap.size) w _ N := RowsAt.carry hN (fun b hb hF => ⟨hF, hb⟩) (fun _ _ _ => rfl)
  replace hC : RowsAt (fun b => F b ∧ b < w.heap.size) w _ C := RowsAt.carry hC (fun b hb hF => ⟨hF, hb⟩) (fun _ _ _ => rfl)
  obtain ⟨W0, hW0⟩ : ∃ W0, W0 = w.alloc (.cells #[.slice a1 n1 c1, .slice a2 n2 c2] 24) := ⟨_, rfl⟩
  have hb0 : Below w.heap.size w W0 := by rw [hW0]; exact Bel.alloc (Bel.refl w) _
  have hk0 : W0.heap[w.heap.size]? = some (.cells #[.slice a1 n1 c1, .slice a2 n2 c2] 24 (0, 0)) := by rw [hW0]; exact heap_alloc_new w _
  have HW0 := Lib.hid hW0
  clear hw hNx hCx hW0
  obtain ⟨r1, hr1⟩ : ∃ r, r = rising N := ⟨_, rfl⟩
  obtain ⟨r2, hr2⟩ : ∃ r, r = rising C := ⟨_, rfl⟩
  have HR1 := Lib.hid hr1
  have HR2 := Lib.hid hr2
  clear hr1 hr2
  have hN0 := RowsAt.below hN hb0
  have hC0 := RowsAt.below hC hb0
  obtain ⟨p0, p1⟩ := cells2 hk0
  have hsz0 := (Array.getElem?_eq_some_iff.1 hk0).1
  have HK0 := Lib.hid hk0
  have HB0 := Lib.hid hb0
  clear hk0 hb0
  go_enter Try.func14, Try.ntmps14
  go_wp2_with fail
  rw [← HW0.out]
  refine (rrises_any (fun b => F b ∧ b < w.heap.size) W0 _ N hN0 (by omega) HNX.out).mono ?_
  rintro e w1 ⟨rfl, m1, rfl⟩
  rw [← HR1.out]
  have hC1 : RowsAt (fun b => F b ∧ b < w.heap.size) (W0.drewN m1) _ C := RowsAt.carry hC0 (fun _ _ x => x) (fun _ _ _ => rfl)
  go_wp2_with fail
  refine (rrises_any (fun b => F b ∧ b < w.heap.size) (W0.drewN m1) _ C hC1 (by omega) HCX.out).mono ?_
  rintro e w2' ⟨rfl, m2, rfl⟩
  rw [← HR2.out]
  clear hC1
  obtain ⟨w2, hw2⟩ : ∃ w2, w2 = (W0.drewN m1).drewN m2 := ⟨_, rfl⟩
  have HB2 : Hid (Below w.heap.size w w2) := by rw [hw2]; exact ⟨(HB0.out).os, (HB0.out).tape, (HB0.out).output, (HB0.out).size, (HB0.out).block⟩
  have hh2 : w2.heap = W0.heap := by rw [hw2]; rfl
  have q0 : w2.cell? ⟨w.heap.size, 0, none⟩ = some (.slice a1 n1 c1) := by rw [hw2]; exact p0
  have q1 : w2.cell? ⟨w.heap.size, 1, none⟩ = some (.slice a2 n2 c2) := by rw [hw2]; exact p1
  have hN2 : ∀ W : World, W.heap = w2.heap → RowsAt (fun b => F b ∧ b < w.heap.size) W (.slice a1 n1 c1) N := fun W hW => RowsAt.carry hN0 (fun _ _ x => x) (fun b _ _ => by rw [hW, hh2])
  have hC2 : ∀ W : World, W.heap = w2.heap → RowsAt (fun b => F b ∧ b < w.heap.size) W (.slice a2 n2 c2) C := fun W hW => RowsAt.carry hC0 (fun _ _ x => x) (fun b _ _ => by rw [hW, hh2])
  have hkeep : ∀ W, Below w2.heap.size w2 W → W.cell? ⟨w.heap.size, 0, none⟩ = some (.slice a1 n1 c1) ∧ W.cell? ⟨w.heap.size, 1, none⟩ = some (.slice a2 n2 c2) := fun W hW => ⟨cell_below hW q0, cell_below hW q1⟩
  have HN2 := Lib.hid hN2
  have HC2 := Lib.hid hC2
  have HK2 := Lib.hid hkeep
  clear hN2 hC2 hkeep hh2 p0 p1
  go_wp2_with fail
  rw [World.drewN_drewN] at hw2
  rw [← hw2]
  clear hw2
  go_region_held3 (fun w' => w'.cell? ⟨w.heap.size, 0, none⟩ = some (.slice a1 n1 c1) ∧ w'.cell? ⟨w.heap.size, 1, none⟩ = some (.slice a2 n2 c2)) (first | go_keep | exact HK2.out _ (by assumption) | exact HK2.out _ (Bel.alloc (by assumption) _))
    (first
      | (go_at_call_of 46 (Value.slice a1 n1 c1); refine (rtexts_any (fun b => F b ∧ b < w.heap.size) _ _ N ?_ hNl).mono ?_; (exact HN2.out _ rfl); rintro e w3 ⟨v3, rfl, hit3, hb3⟩; have hB3 : Below w2.heap.size w2 w3 := Bel.call (Bel.drew (Bel.refl w2)) hb3; obtain ⟨-, x1, y1, z1, x2, y2, z2, -, rfl, -, -⟩ := ItemAt.form hit3)
      | (go_at_call_of 46 (Value.slice a2 n2 c2); refine (rtexts_any (fun b => F b ∧ b < w.heap.size) _ _ C ?_ hCl).mono ?_; (exact RowsAt.below (HC2.out w2.drew rfl) hb3); rintro e w4 ⟨v4, rfl, hit4, hb4⟩; have hB4 : Below w2.heap.size w2 w4 := Bel.call hB3 hb4; obtain ⟨-, x1', y1', z1', x2', y2', z2', -, rfl, -, -⟩ := ItemAt.form hit4)
      | (go_at_call 45; refine (rencode_any _ _ 3 (witI N C) _ _ _ (pairR (F := fun b => (F b ∧ b < w.heap.size) ∨ w2.heap.size ≤ b) (w2 := w2) hb4 (hit3.carry (fun b _ hb => hb) (fun _ _ _ => rfl)) (hit4.carry (fun b _ hb => hb.imp id (fun h => Nat.le_trans hB3.size h)) (fun _ _ _ => rfl)) hB4.size _) HW.out).mono ?_; rintro e w6 ⟨v6, rfl, ho6, hb6⟩; have hB6 : Below w2.heap.size w2 w6 := Bel.call (Bel.alloc hB4 _) hb6))
  have HB6 := Lib.hid (Below.trans HB2.out (hB6.mono (HB2.out).size))
  obtain ⟨E, hE⟩ : ∃ E, E = (witI N C).encode := ⟨_, rfl⟩
  rw [← hE] at ho6 ⊢
  have HE := Lib.hid hE
  have hbase := (HB2.out).size
  have hbase4 := hB4.size
  have ho7 := ho6.lower (base' := w.heap.size) (by simp; omega)
  have HO7 := Lib.hid ho7
  clear hE hB3 hB4 hB6 hb3 hb4 hb6 hit3 hit4 ho6 ho7 q0 q1
  have hfin : witEncode N C = if r1 && r2 then (if E.2 = 0 then (E.1, 0) else ([], 210)) else ([], 210) := by
    unfold witEncode; rw [← HR1.out, ← HR2.out, ← HE.out]
  have HF := Lib.hid hfin
  clear hfin
  by_cases he : E.2 = 0
  · have he2 : (((E.2 : Nat) : Int) != 0) = false := by simp; omega
    cases r1
    · go_wp2
      go_ret2
      exact ⟨.slice none 0 0, by rw [HF.out]; rfl, by rw [HF.out]; exact OwnAt.nil _ _ _ _ _, HB6.out⟩
    · cases r2
      · go_wp2
        go_ret2
        exact ⟨.slice none 0 0, by rw [HF.out]; rfl, by rw [HF.out]; exact OwnAt.nil _ _ _ _ _, HB6.out⟩
      · have HF3 : Hid (witEncode N C = (E.1, 0)) := by show _ = _; rw [HF.out]; simp [he]
        go_wp2
        go_ret2
        exact ⟨v6, by rw [HF3.out]; rfl, by rw [HF3.out]; exact HO7.out, HB6.out⟩
  · have he2 : (((E.2 : Nat) : Int) != 0) = true := by simp; omega
    have hfin2 : witEncode N C = ([], 210) := by rw [HF.out]; rw [if_neg he]; split <;> rfl
    have HF2 := Lib.hid hfin2
    clear hfin2
    cases r1
    all_goals
      cases r2
      all_goals
        go_wp2
        go_ret2
        exact ⟨.slice none 0 0, by rw [HF2.out]; rfl, by rw [HF2.out]; exact OwnAt.nil _ _ _ _ _, HB6.out⟩

end Go.Proofs.Ytndkkgkcbbmnpaa
