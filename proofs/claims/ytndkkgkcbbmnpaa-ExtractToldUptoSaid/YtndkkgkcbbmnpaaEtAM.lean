/-
  Contract of pergolaref21.texts.
  Contract of pergolaref21.Encode.
  Contract of pergolaref21.Decode.
-/
import Derived.Test.YtndkkgkcbbmnpaaEtAL
import Derived.Deep.RegionLaw
namespace Go.Proofs.Ytndkkgkcbbmnpaa
open Go.RowKit Go.Pg

set_option maxRecDepth 100000 in
set_option maxHeartbeats 1000000 in
theorem rtexts_any (F : Nat → Prop) (w : World) (v : Value) (l : List (List UInt8)) (h : RowsAt F w v l) (hl : l.length ≤ 1099511627776) :
    Calls Try.prog 46 #[v] w fun e w' => ∃ v2, e = .returned (.agg #[.bool true, .slice none 0 0, v2]) ∧ ItemAt (fun b => F b ∨ w.heap.size ≤ b) w' 2 [.bool true, .slice none 0 0, v2] (textsI l) ∧ Below w.heap.size w w' := by
  obtain ⟨a, c, rfl, -, -, -⟩ := SliceAt.len h
  replace h : RowsAt (fun b => F b ∧ b < w.heap.size) w _ l := RowsAt.carry h (fun b hb hF => ⟨hF, hb⟩) (fun _ _ _ => rfl)
  obtain ⟨i0, hi, hz0, hz1, hz2⟩ := info_parts infoItem
  obtain ⟨n, hn⟩ : ∃ n, n = l.length := ⟨_, rfl⟩
  rw [← hn] at h hl ⊢
  have HN := Lib.hid hn
  clear hn
  go_enter Try.func46, Try.ntmps46
  go_wp2
  go_loopw [4] (fun i wr => ∃ (k : Nat) (a1 : Option Addr) (c1 : Nat), k ≤ n ∧ i = .int .i64 k ∧ Hid (OwnList (fun F w cs x => ItemAt F w 1 cs x) (fun b => F b ∧ b < w.heap.size) (w.heap.size + 2) wr 65 3 (.slice a1 k c1) ((l.take k).map .text)) ∧
      Hid (Below w.heap.size w wr ∧ wr.heap[w.heap.size]? = some (.cells #[.bool false, .slice none 0 0, .slice none 0 0] 65 (0, 0)) ∧ wr.heap[w.heap.size + 1]? = some (.cells #[.bool true, .slice none 0 0, .slice a1 k c1] 65 (0, 0)))) (fun i _ => n - (intOf i).toNat)
  case atStart =>
    refine ⟨0, none, 0, Nat.zero_le _, rfl, OwnList.nil, Bel.alloc (Bel.alloc (Bel.refl w) _) _, ?_, ?_⟩
    · exact (Below.heap_alloc _ _ _ (by simp)).trans (heap_alloc_new w _)
    · have := heap_alloc_new (w.alloc (.cells #[.bool false, .slice none 0 0, .slice none 0 0] 65)) (.cells #[.bool true, .slice none 0 0, .slice none 0 0] 65)
      simpa using this
  case round =>
    obtain ⟨k, a1, c1, hk, rfl, HO, HB⟩ := hrel
    have hN := HN.out
    obtain ⟨q0, q1, q2⟩ := cells3 HB.out.2.2
    have fq := frozen_of_row wr (w.heap.size + 1) 2 _ _ HB.out.2.2
    by_cases hlt : k < n
    · rcases SliceAt.split h with ⟨_, h0⟩ | ⟨b, o, rfl, -, -, -⟩
      · omega
      have hwr := RowsAt.below h HB.out.1
      obtain ⟨u, g1, t1⟩ := RowsAt.cell hwr k (by omega)
      obtain ⟨au, cu, rfl, -, -, -⟩ := SliceAt.len t1
      have htk : (l.take (k + 1)).map It.text = (l.take k).map It.text ++ [It.text (l[k]'(by omega))] := by
        rw [List.take_succ_eq_append_getElem (show k < l.length by omega), List.map_append]; rfl
      obtain ⟨x, hx⟩ : ∃ x, x = l[k]'(by omega) := ⟨_, rfl⟩
      rw [← hx] at t1 g1 htk
      have HT := Lib.hid htk
      obtain ⟨L, hL⟩ : ∃ L, L = (l.take k).map It.text := ⟨_, rfl⟩
      rw [← hL] at HO HT
      have hLl : L.length = k := by rw [hL]; simp; omega
      have HLL := Lib.hid hLl
      have hit : ItemAt (fun b => F b ∧ b < w.heap.size) wr 1 [.bool false, .slice au x.length cu, .slice none 0 0] (.text x) :=
        ⟨_, _, rfl, t1, SliceAt.nil _ _ _ _⟩
      have hsw := (Array.getElem?_eq_some_iff.1 HB.out.2.2).1
      have howr := (HO.out).own
      obtain ⟨R, hR1, hRo, hRs, hRn⟩ := (HO.out).push (carriedItem 1) hit rfl (by decide) (fun b' _ hb' => ⟨hb', fun e => by have := (howr b' e).1; omega⟩) 65
      have hle : (L.length + [It.text x].length) * 56 ≤ 140737488355328 := by rw [hLl]; simp; omega
      have hlen : L.length + [It.text x].length = k + 1 := by rw [hLl]; rfl
      have hbase : w.heap.size + 2 ≤ (wr.alloc (.cells [.bool false, .slice au x.length cu, .slice none 0 0].toArray 65)).drew.heap.size := by simp; omega
      have hX : ∀ w2 : World, (wr.alloc (.cells [.bool false, .slice au x.length cu, .slice none 0 0].toArray 65)).drew.grownBy w2 (Value.slice a1 k c1).ownBlock →
          Below w.heap.size w w2 ∧ w2.heap[w.heap.size]? = some (.cells #[.bool false, .slice none 0 0, .slice none 0 0] 65 (0, 0)) ∧ w2.heap[w.heap.size + 1]? = some (.cells #[.bool true, .slice none 0 0, .slice a1 k c1] 65 (0, 0)) := by
        intro w2 hg
        have hsz2 := hg.size
        simp only [World.size_drew, World.size_alloc] at hsz2
        refine ⟨((Bel.alloc HB.out.1 _).drew).grown hg (by simp; omega) (fun k hk => by have := (howr k hk).1; omega), ?_, ?_⟩
        · rw [hg.block _ (by simp; omega) (fun e => by have := (howr _ e.symm).1; omega)]
          exact (Below.heap_alloc wr _ _ (by omega)).trans HB.out.2.1
        · rw [hg.block _ (by simp; omega) (fun e => by have := (howr _ e.symm).1; omega)]
          exact (Below.heap_alloc wr _ _ (by omega)).trans HB.out.2.2
      have HX := Lib.hid hX
      have hRn' : ∀ v' W2, OwnAt W2 (w.heap.size + 2) 65 3 R v' (L ++ [It.text x]) → (wr.alloc (.cells [.bool false, .slice au x.length cu, .slice none 0 0].toArray 65)).drew.grownBy W2 (Value.slice a1 k c1).ownBlock → Moved (wr.alloc (.cells [.bool false, .slice au x.length cu, .slice none 0 0].toArray 65)).drew (.slice a1 k c1) v' → OwnList (fun F w cs x => ItemAt F w 1 cs x) (fun b => F b ∧ b < w.heap.size) (w.heap.size + 2) W2 65 3 v' (L ++ [It.text x]) :=
        fun v' W2 ho hg hm => hRn v' W2 ho ⟨hg.os, hg.tape, hg.output, hg.size, hg.block⟩ hm
      have HRN := Lib.hid hRn'
      have HRO := Lib.hid hRo.drew'
      have HRS := Lib.hid (hRs.drew' (by decide))
      have HR1 := Lib.hid hR1
      have HLE := Lib.hid hlen
      clear hwr hx htk hL hLl hN hX hRn hRn' hRo hRs hR1 howr t1 hit hlen
      go_wp2
      go_region_law (refine step_append_at rfl (.tmp 13) (.tmp 19) 63 rfl (w.heap.size + 2) 65 i0 (.agg #[.bool false, .slice none 0 0, .slice none 0 0]) 3 56 underlyingItems hi hz0 hz1 hz2 rfl (by decide) (by decide) HR1.out (.slice a1 k c1) L (by simp [Act.eval]) HRO.out (.slice (some ⟨wr.heap.size, 0, none⟩) 1 1) [It.text x] (fun _ => True) (by simp [Act.eval]) HRS.out Nat.one_pos hle hbase (k + 1) HLE.out ?_; intro g cap w2 ho hg hm; have hx2 := (HX.out _ hg).2.2; obtain ⟨r0, r1, r2⟩ := cells3 hx2; have fr := frozen_of_row w2 (w.heap.size + 1) 2 _ _ hx2)
      all_goals
        have hOn := HRN.out _ _ ho hg hm
        have hXX := HX.out _ hg
        have hown := hOn.own
        have hOs : Hid (OwnList (fun F w cs x => ItemAt F w 1 cs x) (fun b => F b ∧ b < w.heap.size) (w.heap.size + 2) (w2.setCell ⟨w.heap.size + 1, 2, none⟩ (.slice (some ⟨g, 0, none⟩) (k + 1) cap)) 65 3 (.slice (some ⟨g, 0, none⟩) (k + 1) cap) ((l.take (k + 1)).map .text)) := by
          rw [HT.out]
          exact hOn.carry (carriedItem 1) (by simp) (fun b' hb' _ => Below.heap_setCell _ _ _ _ (by have := hb'.2; show b' ≠ w.heap.size + 1; omega)) (fun g' hg' => Below.heap_setCell _ _ _ _ (by have := (hown g' hg').1; show g' ≠ w.heap.size + 1; omega))
        have hBs : Hid (Below w.heap.size w (w2.setCell ⟨w.heap.size + 1, 2, none⟩ (.slice (some ⟨g, 0, none⟩) (k + 1) cap)) ∧ (w2.setCell ⟨w.heap.size + 1, 2, none⟩ (.slice (some ⟨g, 0, none⟩) (k + 1) cap)).heap[w.heap.size]? = some (.cells #[.bool false, .slice none 0 0, .slice none 0 0] 65 (0, 0)) ∧
            (w2.setCell ⟨w.heap.size + 1, 2, none⟩ (.slice (some ⟨g, 0, none⟩) (k + 1) cap)).heap[w.heap.size + 1]? = some (.cells #[.bool true, .slice none 0 0, .slice (some ⟨g, 0, none⟩) (k + 1) cap] 65 (0, 0))) :=
          ⟨hXX.1.setCell (by show w.heap.size ≤ w.heap.size + 1; omega) _, by rw [Below.heap_setCell _ _ _ _ (by show w.heap.size ≠ w.heap.size + 1; omega)]; exact hXX.2.1, blk_setCell hXX.2.2⟩
        clear hOn hXX hown ho hg hm hx2 r0 r1 r2 fr
        go_wp2
        go_roundw
        case rel => exact ⟨k + 1, _, _, by omega, num_eq (by omega), hOs, hBs⟩
        case measure => simp [intOf]; omega
    · obtain rfl : k = n := by omega
      have hO := HO.out
      rw [List.take_of_length_le (by omega)] at hO
      have hits := hO.at (carriedItem 1) (G' := fun b => F b ∧ b < w.heap.size ∨ w.heap.size + 2 ≤ b) (fun _ h _ => .inl h) (fun b h _ => .inr h) (by decide)
      have HIT := Lib.hid hits
      have hkk := HB.out.2.1
      obtain ⟨p0, p1, p2⟩ := cells3 hkk
      have f0 := frozen_of_row wr w.heap.size 0 _ _ hkk
      have f1 := frozen_of_row wr w.heap.size 1 _ _ hkk
      have f2 := frozen_of_row wr w.heap.size 2 _ _ hkk
      have HK := Lib.hid hkk
      clear hO hits hN hkk
      go_wp2
      obtain ⟨W, hW⟩ : ∃ W, W = ((wr.setCell ⟨w.heap.size, 0, none⟩ (.bool true)).setCell ⟨w.heap.size, 1, none⟩ (.slice none 0 0)).setCell ⟨w.heap.size, 2, none⟩ (.slice a1 k c1) := ⟨_, rfl⟩
      have hWk : W.heap[w.heap.size]? = some (.cells #[.bool true, .slice none 0 0, .slice a1 k c1] 65 (0, 0)) := by
        rw [hW]; exact blk_setCell (blk_setCell (blk_setCell HK.out))
      rw [← hW]
      obtain ⟨r0, r1, r2⟩ := cells3 hWk
      refine bodyPost_ret (v := .agg #[.bool true, .slice none 0 0, .slice a1 k c1]) (by simp [results, Try.results46, go_sem, r0, r1, r2]) rfl ?_
      have hbel : Below w.heap.size w W := by
        rw [hW]
        exact ((HB.out.1.setCell (Nat.le_refl _) _).setCell (Nat.le_refl _) _).setCell (Nat.le_refl _) _
      refine ⟨_, rfl, ⟨_, _, rfl, SliceAt.nil _ _ _ _, ?_⟩, hbel⟩
      refine ItemsAt.carry HIT.out (fun b _ hb => by rcases hb with hb | hb; exact .inl hb.1; exact .inr (by omega)) (fun b hb hlt' => ?_)
      have hne : b ≠ w.heap.size := by rcases hb with hb | hb <;> omega
      rw [hW, Below.heap_setCell _ _ _ _ hne, Below.heap_setCell _ _ _ _ hne, Below.heap_setCell _ _ _ _ hne]

end Go.Proofs.Ytndkkgkcbbmnpaa
namespace Go.Proofs.Ytndkkgkcbbmnpaa
open Go.RowKit Go.Pg

theorem pairR {F : Nat → Prop} {w2 w3 w4 : World} {N C : List (List UInt8)} {v1 u1 v2 u2 : Value} (h4 : Below w3.heap.size w3 w4)
    (hit3 : ItemAt F w3 2 [.bool true, v1, v2] (textsI N)) (hit4 : ItemAt F w4 2 [.bool true, u1, u2] (textsI C)) (hs : w2.heap.size ≤ w4.heap.size) (t : TypeId) :
    ItemAt (fun b => F b ∨ w2.heap.size ≤ b) (w4.alloc (.cells #[.bool true, v1, v2, .bool true, u1, u2] t)) 3 [.bool true, .slice none 0 0, .slice (some ⟨w4.heap.size, 0, none⟩) 2 2] (witI N C) := by
  have h1 : ItemAt F w4 2 [.bool true, v1, v2] (textsI N) := hit3.below h4
  exact ⟨_, _, rfl, SliceAt.nil _ _ _ _, rows_alloc (l := [textsI N, textsI C]) (carriedItem 2) ((Rows.one h1 rfl).append (Rows.one hit4 rfl)) (show 2 ≤ maxLen by decide) (fun _ _ x => .inl x) (.inr hs) t⟩

set_option maxRecDepth 100000 in
set_option maxHeartbeats 2000000 in
theorem rwencode_any (F : Nat → Prop) (w : World) (a1 a2 : Option Addr) (n1 c1 n2 c2 : Nat) (N C : List (List UInt8)) (hN : RowsAt F w (.slice a1 n1 c1) N) (hC : RowsAt F w (.slice a2 n2 c2) C)
    (hNl : N.length ≤ 1099511627776) (hCl : C.length ≤ 1099511627776) (hNx : ∀ x ∈ N, x.length ≤ 70368744177664) (hCx : ∀ x ∈ C, x.length ≤ 70368744177664) (hw : (witI N C).whole ≤ 70368744177664) :
    Calls Try.prog 14 #[.agg #[.slice a1 n1 c1, .slice a2 n2 c2]] w (Encd w (witEncode N C)) := by
  have HW := Lib.hid hw
  have HNX := Lib.hid (fun x hx => Nat.le_trans (hNx x hx) (show 70368744177664 ≤ 1152921504606846976 by omega))
  have HCX := Lib.hid (fun x hx => Nat.le_trans (hCx x hx) (show 70368744177664 ≤ 1152921504606846976 by omega))
  replace hN : RowsAt (fun b => F b ∧ b < w.heap.size) w _ N := RowsAt.carry hN (fun b hb hF => ⟨hF, hb⟩) (fun _ _ _ => rfl)
  replace hC : RowsAt (fun b => F b ∧ b < w.heap.size) w _ C := RowsAt.carry hC (fun b hb hF => ⟨hF, hb⟩) (fun _ _ _ => rfl)
  obtain ⟨W0, hW0⟩ : ∃ W0, W0 = w.alloc (.cells #[.slice a1 n1 c1, .slice a2 n2 c2] 24) := ⟨_, rfl⟩
  have hb0 : Below w.heap.size w W0 := by rw [hW0]; exact Bel.alloc (Bel.refl w) _
  have hk0 : W0.heap[w.heap.size]? = some (.cells #[.slice a1 n1 c1, .slice a2 n2 c2] 24 (0, 0)) := by rw [hW0]; exact heap_alloc_new w _
  have HW0 := Lib.hid hW0
  clear hw hNx hCx hW0
  obtain ⟨r1, hr1⟩ : ∃ r, r = rising N := ⟨_, rfl⟩
  obtain ⟨r2, hr2⟩ : ∃ r, r = rising C := ⟨_, rfl⟩
  have HR1 := Lib.hid hr1
  have HR2 := Lib.hid hr2
  clear hr1 hr2
  have hN0 := RowsAt.below hN hb0
  have hC0 := RowsAt.below hC hb0
  obtain ⟨p0, p1⟩ := cells2 hk0
  have hsz0 := (Array.getElem?_eq_some_iff.1 hk0).1
  have HK0 := Lib.hid hk0
  have HB0 := Lib.hid hb0
  clear hk0 hb0
  go_enter Try.func14, Try.ntmps14
  go_wp2_with fail
  rw [← HW0.out]
  refine (rrises_any (fun b => F b ∧ b < w.heap.size) W0 _ N hN0 (by omega) HNX.out).mono ?_
  rintro e w1 ⟨rfl, m1, rfl⟩
  rw [← HR1.out]
  have hC1 : RowsAt (fun b => F b ∧ b < w.heap.size) (W0.drewN m1) _ C := RowsAt.carry hC0 (fun _ _ x => x) (fun _ _ _ => rfl)
  go_wp2_with fail
  refine (rrises_any (fun b => F b ∧ b < w.heap.size) (W0.drewN m1) _ C hC1 (by omega) HCX.out).mono ?_
  rintro e w2' ⟨rfl, m2, rfl⟩
  rw [← HR2.out]
  clear hC1
  obtain ⟨w2, hw2⟩ : ∃ w2, w2 = (W0.drewN m1).drewN m2 := ⟨_, rfl⟩
  have HB2 : Hid (Below w.heap.size w w2) := by rw [hw2]; exact ⟨(HB0.out).os, (HB0.out).tape, (HB0.out).output, (HB0.out).size, (HB0.out).block⟩
  have hh2 : w2.heap = W0.heap := by rw [hw2]; rfl
  have q0 : w2.cell? ⟨w.heap.size, 0, none⟩ = some (.slice a1 n1 c1) := by rw [hw2]; exact p0
  have q1 : w2.cell? ⟨w.heap.size, 1, none⟩ = some (.slice a2 n2 c2) := by rw [hw2]; exact p1
  have hN2 : ∀ W : World, W.heap = w2.heap → RowsAt (fun b => F b ∧ b < w.heap.size) W (.slice a1 n1 c1) N := fun W hW => RowsAt.carry hN0 (fun _ _ x => x) (fun b _ _ => by rw [hW, hh2])
  have hC2 : ∀ W : World, W.heap = w2.heap → RowsAt (fun b => F b ∧ b < w.heap.size) W (.slice a2 n2 c2) C := fun W hW => RowsAt.carry hC0 (fun _ _ x => x) (fun b _ _ => by rw [hW, hh2])
  have hkeep : ∀ W, Below w2.heap.size w2 W → W.cell? ⟨w.heap.size, 0, none⟩ = some (.slice a1 n1 c1) ∧ W.cell? ⟨w.heap.size, 1, none⟩ = some (.slice a2 n2 c2) := fun W hW => ⟨cell_below hW q0, cell_below hW q1⟩
  have HN2 := Lib.hid hN2
  have HC2 := Lib.hid hC2
  have HK2 := Lib.hid hkeep
  clear hN2 hC2 hkeep hh2 p0 p1
  go_wp2_with fail
  rw [World.drewN_drewN] at hw2
  rw [← hw2]
  clear hw2
  go_region_held3 (fun w' => w'.cell? ⟨w.heap.size, 0, none⟩ = some (.slice a1 n1 c1) ∧ w'.cell? ⟨w.heap.size, 1, none⟩ = some (.slice a2 n2 c2)) (first | go_keep | exact HK2.out _ (by assumption) | exact HK2.out _ (Bel.alloc (by assumption) _))
    (first
      | (go_at_call_of 46 (Value.slice a1 n1 c1); refine (rtexts_any (fun b => F b ∧ b < w.heap.size) _ _ N ?_ hNl).mono ?_; (exact HN2.out _ rfl); rintro e w3 ⟨v3, rfl, hit3, hb3⟩; have hB3 : Below w2.heap.size w2 w3 := Bel.call (Bel.drew (Bel.refl w2)) hb3; obtain ⟨-, x1, y1, z1, x2, y2, z2, -, rfl, -, -⟩ := ItemAt.form hit3)
      | (go_at_call_of 46 (Value.slice a2 n2 c2); refine (rtexts_any (fun b => F b ∧ b < w.heap.size) _ _ C ?_ hCl).mono ?_; (exact RowsAt.below (HC2.out w2.drew rfl) hb3); rintro e w4 ⟨v4, rfl, hit4, hb4⟩; have hB4 : Below w2.heap.size w2 w4 := Bel.call hB3 hb4; obtain ⟨-, x1', y1', z1', x2', y2', z2', -, rfl, -, -⟩ := ItemAt.form hit4)
      | (go_at_call 45; refine (rencode_any _ _ 3 (witI N C) _ _ _ (pairR (F := fun b => (F b ∧ b < w.heap.size) ∨ w2.heap.size ≤ b) (w2 := w2) hb4 (hit3.carry (fun b _ hb => hb) (fun _ _ _ => rfl)) (hit4.carry (fun b _ hb => hb.imp id (fun h => Nat.le_trans hB3.size h)) (fun _ _ _ => rfl)) hB4.size _) HW.out).mono ?_; rintro e w6 ⟨v6, rfl, ho6, hb6⟩; have hB6 : Below w2.heap.size w2 w6 := Bel.call (Bel.alloc hB4 _) hb6))
  have HB6 := Lib.hid (Below.trans HB2.out (hB6.mono (HB2.out).size))
  obtain ⟨E, hE⟩ : ∃ E, E = (witI N C).encode := ⟨_, rfl⟩
  rw [← hE] at ho6 ⊢
  have HE := Lib.hid hE
  have hbase := (HB2.out).size
  have hbase4 := hB4.size
  have ho7 := ho6.lower (base' := w.heap.size) (by simp; omega)
  have HO7 := Lib.hid ho7
  clear hE hB3 hB4 hB6 hb3 hb4 hb6 hit3 hit4 ho6 ho7 q0 q1
  have hfin : witEncode N C = if r1 && r2 then (if E.2 = 0 then (E.1, 0) else ([], 210)) else ([], 210) := by
    unfold witEncode; rw [← HR1.out, ← HR2.out, ← HE.out]
  have HF := Lib.hid hfin
  clear hfin
  by_cases he : E.2 = 0
  · have he2 : (((E.2 : Nat) : Int) != 0) = false := by simp; omega
    cases r1
    · go_wp2
      go_ret2
      exact ⟨.slice none 0 0, by rw [HF.out]; rfl, by rw [HF.out]; exact OwnAt.nil _ _ _ _ _, HB6.out⟩
    · cases r2
      · go_wp2
        go_ret2
        exact ⟨.slice none 0 0, by rw [HF.out]; rfl, by rw [HF.out]; exact OwnAt.nil _ _ _ _ _, HB6.out⟩
      · have HF3 : Hid (witEncode N C = (E.1, 0)) := by show _ = _; rw [HF.out]; simp [he]
        go_wp2
        go_ret2
        exact ⟨v6, by rw [HF3.out]; rfl, by rw [HF3.out]; exact HO7.out, HB6.out⟩
  · have he2 : (((E.2 : Nat) : Int) != 0) = true := by simp; omega
    have hfin2 : witEncode N C = ([], 210) := by rw [HF.out]; rw [if_neg he]; split <;> rfl
    have HF2 := Lib.hid hfin2
    clear hfin2
    cases r1
    all_goals
      cases r2
      all_goals
        go_wp2
        go_ret2
        exact ⟨.slice none 0 0, by rw [HF2.out]; rfl, by rw [HF2.out]; exact OwnAt.nil _ _ _ _ _, HB6.out⟩

end Go.Proofs.Ytndkkgkcbbmnpaa
namespace Go.Pg
open Go.RowKit
theorem rowsSum_bytes (l : List It) : (l.map fun y => y.bytes.length + 1).sum ≤ 2 * It.wholes l := by
  induction l with
  | nil => simp [It.wholes]
  | cons y r ih =>
    have h1 := It.whole_pos y
    have h2 := It.body_le_whole y
    have h3 := It.body_eq y
    simp only [List.map_cons, List.sum_cons, It.wholes]; omega
theorem sz_small' (n : Nat) (h : n ≤ 16777215) : sz n ≤ n + 4 := by
  have := number_le 3 n (by omega)
  unfold sz; split <;> omega
theorem wholes_bytes (l : List It) (h : It.wholes l ≤ 1048576) : It.wholes ((l.map It.bytes).map .text) ≤ 5 * It.wholes l := by
  induction l with
  | nil => simp [It.wholes]
  | cons y r ih =>
    simp only [It.wholes] at h
    have h1 := It.whole_pos y
    have h2 := It.body_le_whole y
    have h3 := It.body_eq y
    have h4 := ih (by omega)
    have h5 := sz_small' y.bytes.length (by omega)
    have h6 : (It.text y.bytes).whole ≤ y.bytes.length + 4 := by simp only [It.whole]; split <;> omega
    simp only [List.map_cons, It.wholes]; omega
theorem whole_parts (i0 i1 : It) (h : It.wholes [i0, i1] ≤ 1048576) : (witI (i0.items.map It.bytes) (i1.items.map It.bytes)).whole ≤ 16777215 := by
  simp only [It.wholes] at h
  have a0 := It.body_le_whole i0
  have a1 := It.body_le_whole i1
  have b0 := It.body_eq i0
  have b1 := It.body_eq i1
  have c0 := wholes_bytes i0.items (by omega)
  have c1 := wholes_bytes i1.items (by omega)
  have d0 := sz_small' (It.wholes ((i0.items.map It.bytes).map .text)) (by omega)
  have d1 := sz_small' (It.wholes ((i1.items.map It.bytes).map .text)) (by omega)
  have e0 : (textsI (i0.items.map It.bytes)).whole ≤ 5 * It.wholes i0.items + 4 := by unfold textsI; simp only [It.whole]; omega
  have e1 : (textsI (i1.items.map It.bytes)).whole ≤ 5 * It.wholes i1.items + 4 := by unfold textsI; simp only [It.whole]; omega
  have f : It.wholes [textsI (i0.items.map It.bytes), textsI (i1.items.map It.bytes)] = (textsI (i0.items.map It.bytes)).whole + (textsI (i1.items.map It.bytes)).whole := by simp [It.wholes]
  have g := sz_small' (It.wholes [textsI (i0.items.map It.bytes), textsI (i1.items.map It.bytes)]) (by omega)
  unfold witI; simp only [It.whole]; omega
theorem refDecode_pos (bs : List UInt8) (x i0 i1 : It) (h : rdWhole bs = (0, x)) (hi : x.items = [i0, i1]) :
    refDecode bs = if witEncode (i0.items.map It.bytes) (i1.items.map It.bytes) = (bs, 0) then (i0.items.map It.bytes, i1.items.map It.bytes, 0) else ([], [], 210) := by
  unfold refDecode part
  rw [h, hi]
  simp
theorem refDecode_no (bs : List UInt8) (e : Nat) (x : It) (h : rdWhole bs = (e, x)) (hn : e ≠ 0 ∨ x.items.length ≠ 2) : refDecode bs = ([], [], 210) := by
  unfold refDecode
  rw [h, if_neg]
  rintro ⟨h1, h2⟩
  rcases hn with hn | hn
  · exact hn h1
  · exact hn h2
end Go.Pg
namespace Go.Proofs.Ytndkkgkcbbmnpaa
open Go.RowKit Go.Pg

/-- the state of a loop: the witness' box, the rest as it was -/
structure RwSt (Wst wr : World) (wb : Nat) (v0 v1 : Value) : Prop where
  box : wr.heap[wb]? = some (.cells #[v0, v1] 24 (0, 0))
  chg : Chg (fun k => k = wb) Wst wr
theorem RwSt.cell {Wst wr : World} {wb : Nat} {v0 v1 : Value} (h : RwSt Wst wr wb v0 v1) {b o : Nat} {u : Value} (hc : Wst.cell? ⟨b, o, none⟩ = some u) (hne : b ≠ wb) : wr.cell? ⟨b, o, none⟩ = some u :=
  (cell_same (h.chg.block b (cell_lt hc) hne)).trans hc

set_option maxRecDepth 100000 in
set_option maxHeartbeats 8000000 in
theorem rwdecode_any (F0 : Nat → Prop) (w : World) (a : Option Addr) (n c : Nat) (bs : List UInt8) (h0 : BytesAt F0 w (.slice a n c) bs) (hn : n ≤ 1048576) :
    Calls Try.prog 17 #[.slice a n c] w (WDecd fresh w (refDecode bs)) := by
  have hnl := (BytesAt.n h0).1
  obtain ⟨e1, x, hr⟩ : ∃ e1 x, rdWhole bs = (e1, x) := ⟨(rdWhole bs).1, (rdWhole bs).2, rfl⟩
  obtain ⟨i0r, hi, hz0, hz1, hz2⟩ := info_parts infoRow
  have hcall := rdecode_any F0 (w.alloc (.cells #[.slice none 0 0, .slice none 0 0] 24)) a n c bs (BytesAt.below h0 (Bel.alloc (Bel.refl w) _)) (by omega)
  rw [hr] at hcall
  have HC := Lib.hid hcall
  have HR := Lib.hid hr
  have HNL := Lib.hid hnl
  have HIN := Lib.hid h0
  clear h0 hnl hr hcall
  go_enter Try.func17, Try.ntmps17
  go_wp2_with fail
  refine HC.out.mono ?_
  rintro e5 w5 ⟨il, i1, y1, z1, i3, y3, z3, rfl, k1, k2⟩
  have hsz := k2.size
  simp only [World.size_alloc] at hsz
  have h0 : w.heap.size < w5.heap.size := by omega
  have hb5 := (k2.block w.heap.size (by simp)).trans (heap_alloc_new w _)
  have hbel := (Bel.alloc (Bel.refl w) (.cells #[.slice none 0 0, .slice none 0 0] 24)).trans (k2.mono (by simp))
  have HB5 := Lib.hid hb5
  have HBL := Lib.hid hbel
  obtain ⟨-, a1', n1', c1', a2', n2', c2', e1', e2', -, hn3⟩ := ItemAt.form k1
  simp only [Value.slice.injEq] at e1' e2'
  obtain ⟨rfl, rfl, rfl⟩ := e1'
  obtain ⟨rfl, rfl, rfl⟩ := e2'
  obtain ⟨q0, q1⟩ := cells2 hb5
  have f0 := frozen_of_row w5 w.heap.size 0 _ _ hb5
  have f1 := frozen_of_row w5 w.heap.size 1 _ _ hb5
  have K1 := Lib.hid k1
  have HN3 := Lib.hid hn3
  clear hb5 k1 k2 hsz hbel hn3
  by_cases hgood : e1 = 0 ∧ y3 = 2
  · obtain ⟨rfl, rfl⟩ := hgood
    obtain ⟨hb, hfit⟩ := rdWhole_sound bs x HR.out
    have hbl : x.whole = n := by rw [← It.enc_length, ← hb]; exact HNL.out.symm
    obtain ⟨i0, i1x, hi2⟩ : ∃ i0 i1x, x.items = [i0, i1x] := by
      have := HN3.out
      match x.items, this with
      | [i0, i1x], _ => exact ⟨i0, i1x, rfl⟩
    have hits := ItemAt.items K1.out
    rw [hi2] at hits
    have hwl : It.wholes [i0, i1x] ≤ 1048576 := by
      have h1 := It.body_le_whole x
      have h2 : x.body = It.wholes x.items + x.bytes.length := by rw [It.body_eq]; omega
      rw [hi2] at h2
      omega
    have hwp := whole_parts i0 i1x hwl
    have hl0 : i0.items.length ≤ 1048576 ∧ i1x.items.length ≤ 1048576 ∧ (∀ y ∈ i0.items.map It.bytes, y.length ≤ 1048576) ∧ (∀ y ∈ i1x.items.map It.bytes, y.length ≤ 1048576) := by
      simp only [It.wholes] at hwl
      have h3 := It.body_le_whole i0
      have h4 := It.body_le_whole i1x
      have h5 := It.length_le_wholes i0.items
      have h6 := It.length_le_wholes i1x.items
      have h7 := It.body_eq i0
      have h8 := It.body_eq i1x
      refine ⟨by omega, by omega, fun y hy => ?_, fun y hy => ?_⟩
      · obtain ⟨z, hz, rfl⟩ := List.mem_map.1 hy
        have g1 := whole_le_wholes _ z hz
        have g2 := It.body_le_whole z
        have g3 := It.body_eq z
        omega
      · obtain ⟨z, hz, rfl⟩ := List.mem_map.1 hy
        have g1 := whole_le_wholes _ z hz
        have g2 := It.body_le_whole z
        have g3 := It.body_eq z
        omega
    have hwd := refDecode_pos bs x i0 i1x HR.out hi2
    have HWD := Lib.hid hwd
    have HL0 := Lib.hid hl0
    have HWP := Lib.hid hwp
    rcases SliceAt.split hits with ⟨hh, _⟩ | ⟨b, o, rfl, -, -, hfb⟩
    · cases hh
    obtain ⟨A1, N1, C1, A2, N2, C2, g0, g1, g2, git⟩ := ItemsAt.cell hits 0 (by simp)
    obtain ⟨A3, N3, C3, A4, N4, C4, g3, g4, g5, git'⟩ := ItemsAt.cell hits 1 (by simp)
    simp only [Nat.zero_mul, Nat.one_mul, Nat.add_zero, List.getElem_cons_zero, List.getElem_cons_succ] at g0 g1 g2 g3 g4 g5 git git'
    have hblt := cell_lt g0
    have hits0 : ItemsAt (fun b => w.heap.size < b ∧ b < w5.heap.size) w5 7 (.slice A2 N2 C2) i0.items :=
      ItemsAt.carry (ItemAt.items git) (fun b hlt hb => ⟨by have h9 : (w.alloc (.cells #[.slice none 0 0, .slice none 0 0] 24)).heap.size ≤ b := hb; simp only [World.size_alloc] at h9; omega, hlt⟩) (fun _ _ _ => rfl)
    have hits1 : ItemsAt (fun b => w.heap.size < b ∧ b < w5.heap.size) w5 7 (.slice A4 N4 C4) i1x.items :=
      ItemsAt.carry (ItemAt.items git') (fun b hlt hb => ⟨by have h9 : (w.alloc (.cells #[.slice none 0 0, .slice none 0 0] 24)).heap.size ≤ b := hb; simp only [World.size_alloc] at h9; omega, hlt⟩) (fun _ _ _ => rfl)
    have hN2 : N2 = i0.items.length := by
      obtain ⟨-, x1, x2, x3, x4, x5, x6, -, e, -, h⟩ := ItemAt.form git
      simp only [Value.slice.injEq] at e
      omega
    have hN4 : N4 = i1x.items.length := by
      obtain ⟨-, x1, x2, x3, x4, x5, x6, -, e, -, h⟩ := ItemAt.form git'
      simp only [Value.slice.injEq] at e
      omega
    obtain ⟨l0, hl0'⟩ : ∃ l, l = i0.items := ⟨_, rfl⟩
    obtain ⟨l1, hl1'⟩ : ∃ l, l = i1x.items := ⟨_, rfl⟩
    rw [← hl0'] at hits0 hN2 HWD HL0 HWP
    rw [← hl1'] at hits1 hN4 HWD HL0 HWP
    have hN2b : N2 ≤ 1048576 := by have := HL0.out.1; omega
    have hN4b : N4 ≤ 1048576 := by have := HL0.out.2.1; omega
    have HI0 := Lib.hid hits0
    have HI1 := Lib.hid hits1
    have HN2 := Lib.hid hN2
    have HN4 := Lib.hid hN4
    have G2 := Lib.hid g2
    have G5 := Lib.hid g5
    obtain ⟨W1, hW1⟩ : ∃ W, W = (w5.alloc (.cells #[.bool il, .slice i1 y1 z1, .slice (some ⟨b, o, none⟩) 2 z3] 65)).alloc (.cells #[.slice none 0 0, .slice none 0 0] 24) := ⟨_, rfl⟩
    have hbw1 : Below w5.heap.size w5 W1 := by rw [hW1]; exact Bel.alloc (Bel.alloc (Bel.refl w5) _) _
    have hx1 : W1.heap[w5.heap.size]? = some (.cells #[.bool il, .slice i1 y1 z1, .slice (some ⟨b, o, none⟩) 2 z3] 65 (0, 0)) := by
      rw [hW1]; exact (Below.heap_alloc _ _ _ (by simp)).trans (heap_alloc_new w5 _)
    have hwb1 : W1.heap[w5.heap.size + 1]? = some (.cells #[.slice none 0 0, .slice none 0 0] 24 (0, 0)) := by
      rw [hW1]
      have := heap_alloc_new (w5.alloc (.cells #[.bool il, .slice i1 y1 z1, .slice (some ⟨b, o, none⟩) 2 z3] 65)) (.cells #[.slice none 0 0, .slice none 0 0] 24)
      simpa using this
    have hs1 : W1.heap.size = w5.heap.size + 2 := by rw [hW1]; simp
    have HW1 := Lib.hid hW1
    have HBW1 := Lib.hid hbw1
    have HX1 := Lib.hid hx1
    have HS1 := Lib.hid hs1
    have HR0 : Hid (RwSt W1 W1 (w5.heap.size + 1) (.slice none 0 0) (.slice none 0 0)) := Lib.hid ⟨hwb1, Chg.refl _ _⟩
    clear hb hfit hbl hi2 hits hwl hwp hl0 hwd g0 g1 g2 g3 g4 g5 git git' hfb hits0 hits1 hN2 hN4 hl0' hl1' hbw1 hx1 hwb1 hs1 hW1 q0 q1 f0 f1
    go_wp2_with fail
    rw [← HW1.out]
    have HXS : Hid (W1.heap[w5.heap.size]? = some (.cells #[.bool il, .slice i1 y1 z1, .slice (some ⟨b, o, none⟩) 2 z3] 65 (0, 0))) := HX1
    have HCS0 : Hid (W1.cell? ⟨b, o + 2, none⟩ = some (.slice A2 N2 C2)) := Lib.hid ((HBW1.out.cell (p := ⟨b, o + 2, none⟩) hblt).trans G2.out)
    have HBLS := HBW1
    have hszS := HS1.out

    go_loopw [7] (fun i wr => ∃ (k : Nat) (a1 : Option Addr) (c1 : Nat), k ≤ N2 ∧ i = .int .i64 k ∧ Hid (OwnList rowR (fun b => w.heap.size < b ∧ b < w5.heap.size) (w5.heap.size + 2) wr 25 1 (.slice a1 k c1) ((l0.take k).map It.bytes)) ∧
        Hid (RwSt W1 wr (w5.heap.size + 1) (.slice a1 k c1) (.slice none 0 0))) (fun i _ => N2 - (intOf i).toNat)
    case atStart => exact ⟨0, none, 0, Nat.zero_le _, rfl, Lib.hid OwnList.nil, HR0⟩
    case round =>
      obtain ⟨k, a1, c1, hk, rfl, HO, HS⟩ := hrel
      have hN := HN2.out

      have hxk := HS.out.cell (cells3 HXS.out).2.2 (by omega)
      have hgk := HS.out.cell (HCS0.out) (by omega)
      have HBOX := Lib.hid HS.out.box
      have hsz2 := HS.out.chg.size
      have hszb := (Array.getElem?_eq_some_iff.1 HS.out.box).1
      by_cases hlt : k < N2
      · rcases SliceAt.split HI0.out with ⟨_, h00⟩ | ⟨b2, o2, rfl, -, -, hF2⟩
        · omega
        have hb2 : b2 < w5.heap.size := hF2.2
        obtain ⟨x1, y1', z1', x2, y2, z2, g0, g1, g2, git⟩ := ItemsAt.cell HI0.out k (by omega)
        have htk : (l0.take (k + 1)).map It.bytes = (l0.take k).map It.bytes ++ [(l0[k]'(by omega)).bytes] := by
          rw [List.take_succ_eq_append_getElem (show k < l0.length by omega), List.map_append]; rfl
        have hby := ItemAt.bytes git
        obtain ⟨y, hy⟩ : ∃ y, y = l0[k]'(by omega) := ⟨_, rfl⟩
        rw [← hy] at htk hby
        have hcell := HS.out.cell (HBLS.out.cell (p := ⟨b2, o2 + k * 3 + 1, none⟩) hb2 |>.trans g1) (by omega)
        have hbyr : BytesAt (fun b => w.heap.size < b ∧ b < w5.heap.size) wr (.slice x1 y1' z1') y.bytes := hby.carry (fun _ _ x => x) (fun b hb _ => (HS.out.chg.block b (by have := HBLS.out.size; omega) (by omega)).trans (HBLS.out.block b hb.2))
        obtain ⟨P, hP⟩ : ∃ L, L = (l0.take k).map It.bytes := ⟨_, rfl⟩
        rw [← hP] at HO htk
        have hPl : P.length = k := by rw [hP]; simp; omega
        have HT := Lib.hid htk
        have HPL := Lib.hid hPl
        have howr := (HO.out).own
        obtain ⟨R, hR1, hRo, hRs, hRn⟩ := (HO.out).push carriedRow (show rowR (fun b => w.heap.size < b ∧ b < w5.heap.size) wr [.slice x1 y1' z1'] y.bytes from ⟨_, rfl, hbyr⟩) rfl (by decide) (fun b' _ hb' => ⟨hb', fun e => by have := (howr b' e).1; have := hb'.2; have := HBLS.out.size; omega⟩) 25
        have hle : (P.length + [y.bytes].length) * 24 ≤ 140737488355328 := by rw [hPl]; simp; omega
        have hlen : P.length + [y.bytes].length = k + 1 := by rw [hPl]; rfl
        have hbase : (w5.heap.size + 2) ≤ (wr.alloc (.cells [.slice x1 y1' z1'].toArray 25)).drew.heap.size := by simp; omega
        have hX : ∀ w2 : World, (wr.alloc (.cells [.slice x1 y1' z1'].toArray 25)).drew.grownBy w2 (Value.slice a1 k c1).ownBlock → RwSt W1 w2 (w5.heap.size + 1) (.slice a1 k c1) (.slice none 0 0) ∧ (∀ b o u, wr.cell? ⟨b, o, none⟩ = some u → b < w5.heap.size + 1 → w2.cell? ⟨b, o, none⟩ = some u) := by
          intro w2 hg
          have hsz3 := hg.size
          simp only [World.size_drew, World.size_alloc] at hsz3
          have hblk : ∀ b, b < wr.heap.size → (∀ g, (Value.slice a1 k c1).ownBlock = some g → b ≠ g) → w2.heap[b]? = wr.heap[b]? := fun b hb hne => by
            rw [hg.block b (by simp; omega) (fun e => hne b e.symm rfl)]
            exact Below.heap_alloc _ _ _ hb
          refine ⟨⟨(hblk _ hszb (fun g hg e => by have := (howr g hg).1; omega)).trans HBOX.out, ⟨hg.os.trans HS.out.chg.os, hg.tape.trans HS.out.chg.tape, hg.output.trans HS.out.chg.output, by omega, fun j hj hn => ?_⟩⟩, fun b o u hc hb => ?_⟩
          · exact (hblk j (by omega) (fun g hg e => by have := (howr g hg).1; omega)).trans (HS.out.chg.block j hj hn)
          · exact (cell_same (hblk b (by omega) (fun g hg e => by have := (howr g hg).1; omega))).trans hc
        have hRn' : ∀ v' W2, OwnAt W2 (w5.heap.size + 2) 25 1 R v' (P ++ [y.bytes]) → (wr.alloc (.cells [.slice x1 y1' z1'].toArray 25)).drew.grownBy W2 (Value.slice a1 k c1).ownBlock → Moved (wr.alloc (.cells [.slice x1 y1' z1'].toArray 25)).drew (.slice a1 k c1) v' → OwnList rowR (fun b => w.heap.size < b ∧ b < w5.heap.size) (w5.heap.size + 2) W2 25 1 v' (P ++ [y.bytes]) :=
          fun v' W2 ho hg hm => hRn v' W2 ho ⟨hg.os, hg.tape, hg.output, hg.size, hg.block⟩ hm
        have HX := Lib.hid hX
        have HRN := Lib.hid hRn'
        have HRO := Lib.hid hRo.drew'
        have HRS := Lib.hid (hRs.drew' (by decide))
        have HR1 := Lib.hid hR1
        have HLE := Lib.hid hlen
        obtain ⟨bx0, bx1⟩ := cells2 HBOX.out
        have fq := frozen_of_row wr (w5.heap.size + 1) 0 _ _ HBOX.out
        have hne1 : b ≠ w5.heap.size + 1 := by omega
        have hne2 : b2 ≠ w5.heap.size + 1 := by omega
        have HKX := Lib.hid hxk
        have HKG := Lib.hid hgk
        have HKC := Lib.hid hcell
        clear htk hP hPl hX hRn hRn' hRo hRs hR1 howr hlen git hby hbyr g0 g1 g2 hy hN hsz2
        have hk0 : (0 : Int) ≤ (k : Int) := by omega
        have hk1 : (k : Int) < (N2 : Int) := by omega
        go_wp2
        go_region_law (refine step_append_at rfl (.tmp 37) (.tmp 47) 22 rfl (w5.heap.size + 2) 25 i0r (.slice none 0 0) 1 24 underlyingRows hi hz0 hz1 hz2 rfl (by decide) (by decide) HR1.out (.slice a1 k c1) P (by simp [Act.eval]) HRO.out (.slice (some ⟨wr.heap.size, 0, none⟩) 1 1) [y.bytes] (fun _ => True) (by simp [Act.eval]) HRS.out Nat.one_pos hle hbase (k + 1) HLE.out ?_; intro g cap w2 ho hg hm; have hx2 := HX.out _ hg; obtain ⟨r0, r1⟩ := cells2 hx2.1.box; have fr := frozen_of_row w2 (w5.heap.size + 1) 0 _ _ hx2.1.box; have r2 := hx2.2 _ _ _ HKX.out (by omega); have r3 := hx2.2 _ _ _ HKG.out (by omega); have r4 := hx2.2 _ _ _ HKC.out (by omega))
        all_goals
          have hOn := HRN.out _ _ ho hg hm
          have hown := hOn.own
          have hszw := hg.size
          simp only [World.size_drew, World.size_alloc] at hszw
          have hOs : Hid (OwnList rowR (fun b => w.heap.size < b ∧ b < w5.heap.size) (w5.heap.size + 2) (w2.setCell ⟨w5.heap.size + 1, 0, none⟩ (.slice (some ⟨g, 0, none⟩) (k + 1) cap)) 25 1 (.slice (some ⟨g, 0, none⟩) (k + 1) cap) ((l0.take (k + 1)).map It.bytes)) := by
            rw [HT.out]
            exact hOn.carry carriedRow (by simp) (fun b' hb' _ => Below.heap_setCell _ _ _ _ (by have := hb'.2; show b' ≠ w5.heap.size + 1; omega)) (fun g' hg' => Below.heap_setCell _ _ _ _ (by have := (hown g' hg').1; show g' ≠ w5.heap.size + 1; omega))
          have hSs : Hid (RwSt W1 (w2.setCell ⟨w5.heap.size + 1, 0, none⟩ (.slice (some ⟨g, 0, none⟩) (k + 1) cap)) (w5.heap.size + 1) (.slice (some ⟨g, 0, none⟩) (k + 1) cap) (.slice none 0 0)) :=
            Lib.hid ⟨blk_setCell hx2.1.box, hx2.1.chg.atb _⟩
          clear hOn hown ho hg hm hx2 r0 r1 r2 r3 r4 fr hszw
          go_wp2
          go_roundw
          case rel => exact ⟨k + 1, _, _, by omega, num_eq (by omega), hOs, hSs⟩
          case measure => simp [intOf]; omega
      · obtain rfl : N2 = k := by omega
        have hO := HO.out
        rw [List.take_of_length_le (by omega)] at hO
        obtain ⟨wr1, rfl⟩ : ∃ W, W = wr := ⟨_, rfl⟩
        obtain ⟨na, rfl⟩ : ∃ x, x = a1 := ⟨_, rfl⟩
        obtain ⟨nc, rfl⟩ : ∃ x, x = c1 := ⟨_, rfl⟩
        have hrows := hO.at carriedRow (G' := fun b => w.heap.size < b ∧ b ≠ w5.heap.size + 1) (fun b h _ => ⟨h.1, by have := h.2; omega⟩) (fun b h _ => ⟨by omega, by omega⟩) (by decide)
        have HNODES := Lib.hid (show RowsAt (fun b => w.heap.size < b ∧ b ≠ w5.heap.size + 1) wr1 (.slice na N2 nc) (l0.map It.bytes) from hrows)
        have HR1S : Hid (RwSt wr1 wr1 (w5.heap.size + 1) (.slice na N2 nc) (.slice none 0 0)) := Lib.hid ⟨HS.out.box, Chg.refl _ _⟩
        have HXS : Hid (wr1.heap[w5.heap.size]? = some (.cells #[.bool il, .slice i1 y1 z1, .slice (some ⟨b, o, none⟩) 2 z3] 65 (0, 0))) := Lib.hid ((HS.out.chg.block _ (by omega) (by omega)).trans HX1.out)
        have HCS1 : Hid (wr1.cell? ⟨b, o + 3 + 2, none⟩ = some (.slice A4 N4 C4)) := Lib.hid (HS.out.cell ((HBW1.out.cell (p := ⟨b, o + 3 + 2, none⟩) hblt).trans G5.out) (by omega))
        have HBLS : Hid (Below w5.heap.size w5 wr1) := Lib.hid (HBW1.out.trans (HS.out.chg.toBelowAt (by omega) (fun k hk e => by omega)))
        have hszS : w5.heap.size + 2 ≤ wr1.heap.size := by omega
        have hxk1 := (cells3 HXS.out).2.2
        have hc51 := HCS1.out
        clear hO hrows hN HBOX hsz2 hszb HO hlt
        go_wp2
        clear hxk1 hc51 hxk hgk HS

        go_loopw [8] (fun i wr => ∃ (k : Nat) (a1 : Option Addr) (c1 : Nat), k ≤ N4 ∧ i = .int .i64 k ∧ Hid (OwnList rowR (fun b => w.heap.size < b ∧ b < w5.heap.size) wr1.heap.size wr 25 1 (.slice a1 k c1) ((l1.take k).map It.bytes)) ∧
            Hid (RwSt wr1 wr (w5.heap.size + 1) (.slice na N2 nc) (.slice a1 k c1))) (fun i _ => N4 - (intOf i).toNat)
        case atStart => exact ⟨0, none, 0, Nat.zero_le _, rfl, Lib.hid OwnList.nil, HR1S⟩
        case round =>
          obtain ⟨k, a1, c1, hk, rfl, HO, HS⟩ := hrel
          have hN := HN4.out

          have hxk := HS.out.cell (cells3 HXS.out).2.2 (by omega)
          have hgk := HS.out.cell (HCS1.out) (by omega)
          have HBOX := Lib.hid HS.out.box
          have hsz2 := HS.out.chg.size
          have hszb := (Array.getElem?_eq_some_iff.1 HS.out.box).1
          by_cases hlt : k < N4
          · rcases SliceAt.split HI1.out with ⟨_, h00⟩ | ⟨b2, o2, rfl, -, -, hF2⟩
            · omega
            have hb2 : b2 < w5.heap.size := hF2.2
            obtain ⟨x1, y1', z1', x2, y2, z2, g0, g1, g2, git⟩ := ItemsAt.cell HI1.out k (by omega)
            have htk : (l1.take (k + 1)).map It.bytes = (l1.take k).map It.bytes ++ [(l1[k]'(by omega)).bytes] := by
              rw [List.take_succ_eq_append_getElem (show k < l1.length by omega), List.map_append]; rfl
            have hby := ItemAt.bytes git
            obtain ⟨y, hy⟩ : ∃ y, y = l1[k]'(by omega) := ⟨_, rfl⟩
            rw [← hy] at htk hby
            have hcell := HS.out.cell (HBLS.out.cell (p := ⟨b2, o2 + k * 3 + 1, none⟩) hb2 |>.trans g1) (by omega)
            have hbyr : BytesAt (fun b => w.heap.size < b ∧ b < w5.heap.size) wr (.slice x1 y1' z1') y.bytes := hby.carry (fun _ _ x => x) (fun b hb _ => (HS.out.chg.block b (by have := HBLS.out.size; omega) (by omega)).trans (HBLS.out.block b hb.2))
            obtain ⟨P, hP⟩ : ∃ L, L = (l1.take k).map It.bytes := ⟨_, rfl⟩
            rw [← hP] at HO htk
            have hPl : P.length = k := by rw [hP]; simp; omega
            have HT := Lib.hid htk
            have HPL := Lib.hid hPl
            have howr := (HO.out).own
            obtain ⟨R, hR1, hRo, hRs, hRn⟩ := (HO.out).push carriedRow (show rowR (fun b => w.heap.size < b ∧ b < w5.heap.size) wr [.slice x1 y1' z1'] y.bytes from ⟨_, rfl, hbyr⟩) rfl (by decide) (fun b' _ hb' => ⟨hb', fun e => by have := (howr b' e).1; have := hb'.2; have := HBLS.out.size; omega⟩) 25
            have hle : (P.length + [y.bytes].length) * 24 ≤ 140737488355328 := by rw [hPl]; simp; omega
            have hlen : P.length + [y.bytes].length = k + 1 := by rw [hPl]; rfl
            have hbase : wr1.heap.size ≤ (wr.alloc (.cells [.slice x1 y1' z1'].toArray 25)).drew.heap.size := by simp; omega
            have hX : ∀ w2 : World, (wr.alloc (.cells [.slice x1 y1' z1'].toArray 25)).drew.grownBy w2 (Value.slice a1 k c1).ownBlock → RwSt wr1 w2 (w5.heap.size + 1) (.slice na N2 nc) (.slice a1 k c1) ∧ (∀ b o u, wr.cell? ⟨b, o, none⟩ = some u → b < w5.heap.size + 1 → w2.cell? ⟨b, o, none⟩ = some u) := by
              intro w2 hg
              have hsz3 := hg.size
              simp only [World.size_drew, World.size_alloc] at hsz3
              have hblk : ∀ b, b < wr.heap.size → (∀ g, (Value.slice a1 k c1).ownBlock = some g → b ≠ g) → w2.heap[b]? = wr.heap[b]? := fun b hb hne => by
                rw [hg.block b (by simp; omega) (fun e => hne b e.symm rfl)]
                exact Below.heap_alloc _ _ _ hb
              refine ⟨⟨(hblk _ hszb (fun g hg e => by have := (howr g hg).1; omega)).trans HBOX.out, ⟨hg.os.trans HS.out.chg.os, hg.tape.trans HS.out.chg.tape, hg.output.trans HS.out.chg.output, by omega, fun j hj hn => ?_⟩⟩, fun b o u hc hb => ?_⟩
              · exact (hblk j (by omega) (fun g hg e => by have := (howr g hg).1; omega)).trans (HS.out.chg.block j hj hn)
              · exact (cell_same (hblk b (by omega) (fun g hg e => by have := (howr g hg).1; omega))).trans hc
            have hRn' : ∀ v' W2, OwnAt W2 wr1.heap.size 25 1 R v' (P ++ [y.bytes]) → (wr.alloc (.cells [.slice x1 y1' z1'].toArray 25)).drew.grownBy W2 (Value.slice a1 k c1).ownBlock → Moved (wr.alloc (.cells [.slice x1 y1' z1'].toArray 25)).drew (.slice a1 k c1) v' → OwnList rowR (fun b => w.heap.size < b ∧ b < w5.heap.size) wr1.heap.size W2 25 1 v' (P ++ [y.bytes]) :=
              fun v' W2 ho hg hm => hRn v' W2 ho ⟨hg.os, hg.tape, hg.output, hg.size, hg.block⟩ hm
            have HX := Lib.hid hX
            have HRN := Lib.hid hRn'
            have HRO := Lib.hid hRo.drew'
            have HRS := Lib.hid (hRs.drew' (by decide))
            have HR1 := Lib.hid hR1
            have HLE := Lib.hid hlen
            obtain ⟨bx0, bx1⟩ := cells2 HBOX.out
            have fq := frozen_of_row wr (w5.heap.size + 1) 1 _ _ HBOX.out
            have hne1 : b ≠ w5.heap.size + 1 := by omega
            have hne2 : b2 ≠ w5.heap.size + 1 := by omega
            have HKX := Lib.hid hxk
            have HKG := Lib.hid hgk
            have HKC := Lib.hid hcell
            clear htk hP hPl hX hRn hRn' hRo hRs hR1 howr hlen git hby hbyr g0 g1 g2 hy hN hsz2
            have hk0 : (0 : Int) ≤ (k : Int) := by omega
            have hk1 : (k : Int) < (N4 : Int) := by omega
            go_wp2
            go_region_law (refine step_append_at rfl (.tmp 61) (.tmp 71) 22 rfl wr1.heap.size 25 i0r (.slice none 0 0) 1 24 underlyingRows hi hz0 hz1 hz2 rfl (by decide) (by decide) HR1.out (.slice a1 k c1) P (by simp [Act.eval]) HRO.out (.slice (some ⟨wr.heap.size, 0, none⟩) 1 1) [y.bytes] (fun _ => True) (by simp [Act.eval]) HRS.out Nat.one_pos hle hbase (k + 1) HLE.out ?_; intro g cap w2 ho hg hm; have hx2 := HX.out _ hg; obtain ⟨r0, r1⟩ := cells2 hx2.1.box; have fr := frozen_of_row w2 (w5.heap.size + 1) 1 _ _ hx2.1.box; have r2 := hx2.2 _ _ _ HKX.out (by omega); have r3 := hx2.2 _ _ _ HKG.out (by omega); have r4 := hx2.2 _ _ _ HKC.out (by omega))
            all_goals
              have hOn := HRN.out _ _ ho hg hm
              have hown := hOn.own
              have hszw := hg.size
              simp only [World.size_drew, World.size_alloc] at hszw
              have hOs : Hid (OwnList rowR (fun b => w.heap.size < b ∧ b < w5.heap.size) wr1.heap.size (w2.setCell ⟨w5.heap.size + 1, 1, none⟩ (.slice (some ⟨g, 0, none⟩) (k + 1) cap)) 25 1 (.slice (some ⟨g, 0, none⟩) (k + 1) cap) ((l1.take (k + 1)).map It.bytes)) := by
                rw [HT.out]
                exact hOn.carry carriedRow (by simp) (fun b' hb' _ => Below.heap_setCell _ _ _ _ (by have := hb'.2; show b' ≠ w5.heap.size + 1; omega)) (fun g' hg' => Below.heap_setCell _ _ _ _ (by have := (hown g' hg').1; show g' ≠ w5.heap.size + 1; omega))
              have hSs : Hid (RwSt wr1 (w2.setCell ⟨w5.heap.size + 1, 1, none⟩ (.slice (some ⟨g, 0, none⟩) (k + 1) cap)) (w5.heap.size + 1) (.slice na N2 nc) (.slice (some ⟨g, 0, none⟩) (k + 1) cap)) :=
                Lib.hid ⟨blk_setCell hx2.1.box, hx2.1.chg.atb _⟩
              clear hOn hown ho hg hm hx2 r0 r1 r2 r3 r4 fr hszw
              go_wp2
              go_roundw
              case rel => exact ⟨k + 1, _, _, by omega, num_eq (by omega), hOs, hSs⟩
              case measure => simp [intOf]; omega
          · obtain rfl : N4 = k := by omega
            have hO := HO.out
            rw [List.take_of_length_le (by omega)] at hO
            obtain ⟨ca, rfl⟩ : ∃ x, x = a1 := ⟨_, rfl⟩
            obtain ⟨cc, rfl⟩ : ∃ x, x = c1 := ⟨_, rfl⟩
            have hrows := hO.at carriedRow (G' := fun b => w.heap.size < b) (fun b h _ => h.1) (fun b h _ => by omega) (by decide)
            have hC2 : RowsAt (fun b => w.heap.size < b) wr (.slice ca N4 cc) (l1.map It.bytes) := hrows
            have hN2' : RowsAt (fun b => w.heap.size < b) wr (.slice na N2 nc) (l0.map It.bytes) := RowsAt.carry HNODES.out (fun b _ hb => hb.1) (fun b hb hlt => HS.out.chg.block b hlt hb.2)
            have hbelr : Below w5.heap.size w5 wr := HBLS.out.trans (HS.out.chg.toBelowAt (by omega) (fun k hk e => by omega))
            have hbelw : Below w.heap.size w wr := HBL.out.trans (hbelr.mono (by omega))
            obtain ⟨E, hE⟩ : ∃ E, E = witEncode (l0.map It.bytes) (l1.map It.bytes) := ⟨_, rfl⟩
            have hcall := rwencode_any _ wr na ca N2 nc N4 cc (l0.map It.bytes) (l1.map It.bytes) hN2' hC2 (by have := HL0.out.1; rw [List.length_map]; omega) (by have := HL0.out.2.1; rw [List.length_map]; omega) (fun x hx => by have := HL0.out.2.2.1 x hx; omega) (fun x hx => by have := HL0.out.2.2.2 x hx; omega) (by have := HWP.out; omega)
            have hwd := HWD.out
            rw [← hE] at hcall hwd
            obtain ⟨P0, hP0⟩ : ∃ P, P = l0.map It.bytes := ⟨_, rfl⟩
            obtain ⟨P1, hP1⟩ : ∃ P, P = l1.map It.bytes := ⟨_, rfl⟩
            rw [← hP0] at hN2' hwd
            rw [← hP1] at hC2 hwd
            obtain ⟨bx0, bx1⟩ := cells2 HBOX.out
            have HCALL := Lib.hid hcall
            have HWD2 := Lib.hid hwd
            have HNR := Lib.hid hN2'
            have HCR := Lib.hid hC2
            have HBELR := Lib.hid hbelr
            have HBELW := Lib.hid hbelw
            clear hO hrows hC2 hN2' hbelr hbelw hE hcall hwd hP0 hP1 hN hlt
            go_wp2_with fail
            refine HCALL.out.mono ?_
            rintro e w6 ⟨v6, rfl, ho6, hb6⟩
            obtain ⟨x6, z6, rfl, -, -, -⟩ := ho6.len
            have hat6 := ho6.at (F := fun _ => True) (fun _ _ _ _ => trivial) (by decide)
            have hbel6 := HBELW.out.trans (hb6.mono HBELW.out.size)
            have hbr6 := (hb6.block w.heap.size (by omega)).trans ((HBELR.out.block w.heap.size h0).trans HB5.out)
            have hbw6 := (hb6.block (w5.heap.size + 1) hszb).trans HBOX.out
            have s1 := run_string_at (P := Try.prog) hat6 25 5 9 Try.underlying25 Try.underlying5 Try.underlying9
            have s2 := run_string_at (P := Try.prog) (BytesAt.below HIN.out hbel6) 25 5 9 Try.underlying25 Try.underlying5 Try.underlying9
            have HBEL6 := Lib.hid hbel6
            have HBR6 := Lib.hid hbr6
            have HNR6 := Lib.hid (RowsAt.below HNR.out hb6)
            have HCR6 := Lib.hid (RowsAt.below HCR.out hb6)
            clear bx0 bx1
            obtain ⟨bx0, bx1⟩ := cells2 hbw6
            obtain ⟨q0, q1⟩ := cells2 hbr6
            have f0 := frozen_of_row w6 w.heap.size 0 _ _ hbr6
            have f1 := frozen_of_row w6 w.heap.size 1 _ _ hbr6
            have hlt6 : w.heap.size < w6.heap.size := (Array.getElem?_eq_some_iff.1 hbr6).1
            obtain ⟨cs, code⟩ := E
            clear ho6 hat6 hbel6 hbr6 hbw6 hb6 hxk hgk
            by_cases hok : code = 0 ∧ cs = bs
            · obtain ⟨rfl, rfl⟩ := hok
              have hfin : refDecode cs = (P0, P1, 0) := by rw [HWD2.out, if_pos rfl]
              have HF := Lib.hid hfin
              clear hfin
              go_wp2_with fail
              have hbx := box2 HBR6.out (.slice na N2 nc) (.slice ca N4 cc)
              obtain ⟨W, hW⟩ : ∃ W, W = (w6.setCell ⟨w.heap.size, 0, none⟩ (.slice na N2 nc)).setCell ⟨w.heap.size, 1, none⟩ (.slice ca N4 cc) := ⟨_, rfl⟩
              rw [← hW] at hbx ⊢
              obtain ⟨r0, r1⟩ := cells2 hbx.at_
              refine bodyPost_ret (v := .tuple #[.agg #[.slice na N2 nc, .slice ca N4 cc], .int .i64 ((0 : Nat) : Int)]) (by simp [results, Try.results17, go_sem, r0, r1]) rfl ?_
              rw [HF.out]
              exact ⟨na, N2, nc, ca, N4, cc, rfl, RowsAt.carry HNR6.out (fun b _ hb => Nat.le_of_lt hb) (fun b hb _ => hbx.other b (by have : w.heap.size < b := hb; omega)), RowsAt.carry HCR6.out (fun b _ hb => Nat.le_of_lt hb) (fun b hb _ => hbx.other b (by have : w.heap.size < b := hb; omega)), HBEL6.out.trans (hbx.chg.toBelowAt (by omega) (fun k hk e => by omega))⟩
            · have hfin : refDecode bs = ([], [], 210) := by
                rw [HWD2.out, if_neg]
                intro h
                simp only [Prod.mk.injEq] at h
                exact hok ⟨h.2, h.1⟩
              have HF := Lib.hid hfin
              have hcase : (((code : Nat) : Int) != 0) = true ∨ (code = 0 ∧ (cs == bs) = false) := by
                by_cases hc : code = 0
                · exact .inr ⟨hc, by simp; exact fun h => hok ⟨hc, h⟩⟩
                · exact .inl (by simp; omega)
              clear hfin hok
              rcases hcase with h | ⟨rfl, h⟩
              all_goals
                go_wp2_with fail
                have hbx := box2 HBR6.out (.slice none 0 0) (.slice none 0 0)
                obtain ⟨W, hW⟩ : ∃ W, W = (w6.setCell ⟨w.heap.size, 0, none⟩ (.slice none 0 0)).setCell ⟨w.heap.size, 1, none⟩ (.slice none 0 0) := ⟨_, rfl⟩
                rw [← hW] at hbx ⊢
                obtain ⟨r0, r1⟩ := cells2 hbx.at_
                refine bodyPost_ret (v := .tuple #[.agg #[.slice none 0 0, .slice none 0 0], .int .i64 ((210 : Nat) : Int)]) (by simp [results, Try.results17, go_sem, r0, r1]) rfl ?_
                rw [HF.out]
                exact ⟨none, 0, 0, none, 0, 0, rfl, SliceAt.nil _ _ _ _, SliceAt.nil _ _ _ _, HBEL6.out.trans (hbx.chg.toBelowAt (by omega) (fun k hk e => by omega))⟩
  · have hfin : refDecode bs = ([], [], 210) := by
      refine refDecode_no bs e1 x HR.out ?_
      by_cases he : e1 = 0
      · by_cases hy : y3 = 2
        · exact absurd ⟨he, hy⟩ hgood
        · exact .inr (by rw [← HN3.out]; exact hy)
      · exact .inl he
    have HF := Lib.hid hfin
    have hcase : (((e1 : Nat) : Int) != 0) = true ∨ (e1 = 0 ∧ (((y3 : Nat) : Int) != 2) = true) := by
      by_cases he : e1 = 0
      · by_cases hy : y3 = 2
        · exact absurd ⟨he, hy⟩ hgood
        · exact .inr ⟨he, by simp; omega⟩
      · exact .inl (by simp; omega)
    clear hfin hgood
    rcases hcase with h | ⟨rfl, h⟩
    all_goals
      go_wp2_with fail
      have hbx := box2 HB5.out (.slice none 0 0) (.slice none 0 0)
      obtain ⟨W, hW⟩ : ∃ W, W = (w5.setCell ⟨w.heap.size, 0, none⟩ (.slice none 0 0)).setCell ⟨w.heap.size, 1, none⟩ (.slice none 0 0) := ⟨_, rfl⟩
      rw [← hW] at hbx ⊢
      obtain ⟨r0, r1⟩ := cells2 hbx.at_
      have hlw : w.heap.size < W.heap.size := by rw [hbx.size]; exact h0
      refine bodyPost_ret (v := .tuple #[.agg #[.slice none 0 0, .slice none 0 0], .int .i64 ((210 : Nat) : Int)]) (by simp [results, Try.results17, go_sem, r0, r1, hlw]) rfl ?_
      rw [HF.out]
      exact WDecd.bad HBL.out hbx
end Go.Proofs.Ytndkkgkcbbmnpaa
