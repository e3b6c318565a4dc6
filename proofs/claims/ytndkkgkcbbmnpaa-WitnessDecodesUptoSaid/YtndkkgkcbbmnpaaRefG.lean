/-
  Contract of pergolaref21.texts.
-/
import Derived.Test.YtndkkgkcbbmnpaaTexts
import Derived.Test.YtndkkgkcbbmnpaaStep
import Derived.Deep.RegionLaw
namespace Go.Proofs.Ytndkkgkcbbmnpaa
open Go.RowKit Go.Pg

set_option maxRecDepth 100000 in
set_option maxHeartbeats 1000000 in
theorem rtexts_any (F : Nat → Prop) (w : World) (v : Value) (l : List (List UInt8)) (h : RowsAt F w v l) (hl : l.length ≤ 1099511627776) :
    Calls Try.prog 46 #[v] w fun e w' => ∃ v2, e = .returned (.agg #[.bool true, .slice none 0 0, v2]) ∧ ItemAt (fun b => F b ∨ w.heap.size ≤ b) w' 2 [.bool true, .slice none 0 0, v2] (textsI l) ∧ Below w.heap.size w w' := by
  obtain ⟨a, c, rfl, -, -, -⟩ := SliceAt.len h
  replace h : RowsAt (fun b => F b ∧ b < w.heap.size) w _ l := RowsAt.carry h (fun b hb hF => ⟨hF, hb⟩) (fun _ _ _ => rfl)
  obtain ⟨i0, hi, hz0, hz1, hz2⟩ := info_parts infoItem
  obtain ⟨n, hn⟩ : ∃ n, n = l.length := ⟨_, rfl⟩
  rw [← hn] at h hl ⊢
  have HN := Lib.hid hn
  clear hn
  go_enter Try.func46, Try.ntmps46
  go_wp2
  go_loopw [4] (fun i wr => ∃ (k : Nat) (a1 : Option Addr) (c1 : Nat), k ≤ n ∧ i = .int .i64 k ∧ Hid (OwnList (fun F w cs x => ItemAt F w 1 cs x) (fun b => F b ∧ b < w.heap.size) (w.heap.size + 2) wr 65 3 (.slice a1 k c1) ((l.take k).map .text)) ∧
      Hid (Below w.heap.size w wr ∧ wr.heap[w.heap.size]? = some (.cells #[.bool false, .slice none 0 0, .slice none 0 0] 65 (0, 0)) ∧ wr.heap[w.heap.size + 1]? = some (.cells #[.bool true, .slice none 0 0, .slice a1 k c1] 65 (0, 0)))) (fun i _ => n - (intOf i).toNat)
  case atStart =>
    refine ⟨0, none, 0, Nat.zero_le _, rfl, OwnList.nil, Bel.alloc (Bel.alloc (Bel.refl w) _) _, ?_, ?_⟩
    · exact (Below.heap_alloc _ _ _ (by simp)).trans (heap_alloc_new w _)
    · have := heap_alloc_new (w.alloc (.cells #[.bool false, .slice none 0 0, .slice none 0 0] 65)) (.cells #[.bool true, .slice none 0 0, .slice none 0 0] 65)
      simpa using this
  case round =>
    obtain ⟨k, a1, c1, hk, rfl, HO, HB⟩ := hrel
    have hN := HN.out
    obtain ⟨q0, q1, q2⟩ := cells3 HB.out.2.2
    have fq := frozen_of_row wr (w.heap.size + 1) 2 _ _ HB.out.2.2
    by_cases hlt : k < n
    · rcases SliceAt.split h with ⟨_, h0⟩ | ⟨b, o, rfl, -, -, -⟩
      · omega
      have hwr := RowsAt.below h HB.out.1
      obtain ⟨u, g1, t1⟩ := RowsAt.cell hwr k (by omega)
      obtain ⟨au, cu, rfl, -, -, -⟩ := SliceAt.len t1
      have htk : (l.take (k + 1)).map It.text = (l.take k).map It.text ++ [It.text (l[k]'(by omega))] := by
        rw [List.take_succ_eq_append_getElem (show k < l.length by omega), List.map_append]; rfl
      obtain ⟨x, hx⟩ : ∃ x, x = l[k]'(by omega) := ⟨_, rfl⟩
      rw [← hx] at t1 g1 htk
      have HT := Lib.hid htk
      obtain ⟨L, hL⟩ : ∃ L, L = (l.take k).map It.text := ⟨_, rfl⟩
      rw [← hL] at HO HT
      have hLl : L.length = k := by rw [hL]; simp; omega
      have HLL := Lib.hid hLl
      have hit : ItemAt (fun b => F b ∧ b < w.heap.size) wr 1 [.bool false, .slice au x.length cu, .slice none 0 0] (.text x) :=
        ⟨_, _, rfl, t1, SliceAt.nil _ _ _ _⟩
      have hsw := (Array.getElem?_eq_some_iff.1 HB.out.2.2).1
      have howr := (HO.out).own
      obtain ⟨R, hR1, hRo, hRs, hRn⟩ := (HO.out).push (carriedItem 1) hit rfl (by decide) (fun b' _ hb' => ⟨hb', fun e => by have := (howr b' e).1; omega⟩) 65
      have hle : (L.length + [It.text x].length) * 56 ≤ 140737488355328 := by rw [hLl]; simp; omega
      have hlen : L.length + [It.text x].length = k + 1 := by rw [hLl]; rfl
      have hbase : w.heap.size + 2 ≤ (wr.alloc (.cells [.bool false, .slice au x.length cu, .slice none 0 0].toArray 65)).drew.heap.size := by simp; omega
      have hX : ∀ w2 : World, (wr.alloc (.cells [.bool false, .slice au x.length cu, .slice none 0 0].toArray 65)).drew.grownBy w2 (Value.slice a1 k c1).ownBlock →
          Below w.heap.size w w2 ∧ w2.heap[w.heap.size]? = some (.cells #[.bool false, .slice none 0 0, .slice none 0 0] 65 (0, 0)) ∧ w2.heap[w.heap.size + 1]? = some (.cells #[.bool true, .slice none 0 0, .slice a1 k c1] 65 (0, 0)) := by
        intro w2 hg
        have hsz2 := hg.size
        simp only [World.size_drew, World.size_alloc] at hsz2
        refine ⟨((Bel.alloc HB.out.1 _).drew).grown hg (by simp; omega) (fun k hk => by have := (howr k hk).1; omega), ?_, ?_⟩
        · rw [hg.block _ (by simp; omega) (fun e => by have := (howr _ e.symm).1; omega)]
          exact (Below.heap_alloc wr _ _ (by omega)).trans HB.out.2.1
        · rw [hg.block _ (by simp; omega) (fun e => by have := (howr _ e.symm).1; omega)]
          exact (Below.heap_alloc wr _ _ (by omega)).trans HB.out.2.2
      have HX := Lib.hid hX
      have hRn' : ∀ v' W2, OwnAt W2 (w.heap.size + 2) 65 3 R v' (L ++ [It.text x]) → (wr.alloc (.cells [.bool false, .slice au x.length cu, .slice none 0 0].toArray 65)).drew.grownBy W2 (Value.slice a1 k c1).ownBlock → Moved (wr.alloc (.cells [.bool false, .slice au x.length cu, .slice none 0 0].toArray 65)).drew (.slice a1 k c1) v' → OwnList (fun F w cs x => ItemAt F w 1 cs x) (fun b => F b ∧ b < w.heap.size) (w.heap.size + 2) W2 65 3 v' (L ++ [It.text x]) :=
        fun v' W2 ho hg hm => hRn v' W2 ho ⟨hg.os, hg.tape, hg.output, hg.size, hg.block⟩ hm
      have HRN := Lib.hid hRn'
      have HRO := Lib.hid hRo.drew'
      have HRS := Lib.hid (hRs.drew' (by decide))
      have HR1 := Lib.hid hR1
      have HLE := Lib.hid hlen
      clear hwr hx htk hL hLl hN hX hRn hRn' hRo hRs hR1 howr t1 hit hlen
      go_wp2
      go_region_law (refine step_append_at rfl (.tmp 13) (.tmp 19) 63 rfl (w.heap.size + 2) 65 i0 (.agg #[.bool false, .slice none 0 0, .slice none 0 0]) 3 56 underlyingItems hi hz0 hz1 hz2 rfl (by decide) (by decide) HR1.out (.slice a1 k c1) L (by simp [Act.eval, Act.put]) HRO.out (.slice (some ⟨wr.heap.size, 0, none⟩) 1 1) [It.text x] (fun _ => True) (by simp [Act.eval, Act.put]) HRS.out Nat.one_pos hle hbase (k + 1) HLE.out ?_; intro g cap w2 ho hg hm; have hx2 := (HX.out _ hg).2.2; obtain ⟨r0, r1, r2⟩ := cells3 hx2; have fr := frozen_of_row w2 (w.heap.size + 1) 2 _ _ hx2)
      all_goals
        have hOn := HRN.out _ _ ho hg hm
        have hXX := HX.out _ hg
        have hown := hOn.own
        have hOs : Hid (OwnList (fun F w cs x => ItemAt F w 1 cs x) (fun b => F b ∧ b < w.heap.size) (w.heap.size + 2) (w2.setCell ⟨w.heap.size + 1, 2, none⟩ (.slice (some ⟨g, 0, none⟩) (k + 1) cap)) 65 3 (.slice (some ⟨g, 0, none⟩) (k + 1) cap) ((l.take (k + 1)).map .text)) := by
          rw [HT.out]
          exact hOn.carry (carriedItem 1) (by simp) (fun b' hb' _ => Below.heap_setCell _ _ _ _ (by have := hb'.2; show b' ≠ w.heap.size + 1; omega)) (fun g' hg' => Below.heap_setCell _ _ _ _ (by have := (hown g' hg').1; show g' ≠ w.heap.size + 1; omega))
        have hBs : Hid (Below w.heap.size w (w2.setCell ⟨w.heap.size + 1, 2, none⟩ (.slice (some ⟨g, 0, none⟩) (k + 1) cap)) ∧ (w2.setCell ⟨w.heap.size + 1, 2, none⟩ (.slice (some ⟨g, 0, none⟩) (k + 1) cap)).heap[w.heap.size]? = some (.cells #[.bool false, .slice none 0 0, .slice none 0 0] 65 (0, 0)) ∧
            (w2.setCell ⟨w.heap.size + 1, 2, none⟩ (.slice (some ⟨g, 0, none⟩) (k + 1) cap)).heap[w.heap.size + 1]? = some (.cells #[.bool true, .slice none 0 0, .slice (some ⟨g, 0, none⟩) (k + 1) cap] 65 (0, 0))) :=
          ⟨hXX.1.setCell (by show w.heap.size ≤ w.heap.size + 1; omega) _, by rw [Below.heap_setCell _ _ _ _ (by show w.heap.size ≠ w.heap.size + 1; omega)]; exact hXX.2.1, blk_setCell hXX.2.2⟩
        clear hOn hXX hown ho hg hm hx2 r0 r1 r2 fr
        go_wp2
        go_roundw
        case rel => exact ⟨k + 1, _, _, by omega, num_eq (by omega), hOs, hBs⟩
        case measure => simp [intOf]; omega
    · obtain rfl : k = n := by omega
      have hO := HO.out
      rw [List.take_of_length_le (by omega)] at hO
      have hits := hO.at (carriedItem 1) (G' := fun b => F b ∧ b < w.heap.size ∨ w.heap.size + 2 ≤ b) (fun _ h _ => .inl h) (fun b h _ => .inr h) (by decide)
      have HIT := Lib.hid hits
      have hkk := HB.out.2.1
      obtain ⟨p0, p1, p2⟩ := cells3 hkk
      have f0 := frozen_of_row wr w.heap.size 0 _ _ hkk
      have f1 := frozen_of_row wr w.heap.size 1 _ _ hkk
      have f2 := frozen_of_row wr w.heap.size 2 _ _ hkk
      have HK := Lib.hid hkk
      clear hO hits hN hkk
      go_wp2
      obtain ⟨W, hW⟩ : ∃ W, W = ((wr.setCell ⟨w.heap.size, 0, none⟩ (.bool true)).setCell ⟨w.heap.size, 1, none⟩ (.slice none 0 0)).setCell ⟨w.heap.size, 2, none⟩ (.slice a1 k c1) := ⟨_, rfl⟩
      have hWk : W.heap[w.heap.size]? = some (.cells #[.bool true, .slice none 0 0, .slice a1 k c1] 65 (0, 0)) := by
        rw [hW]; exact blk_setCell (blk_setCell (blk_setCell HK.out))
      rw [← hW]
      obtain ⟨r0, r1, r2⟩ := cells3 hWk
      refine bodyPost_ret (v := .agg #[.bool true, .slice none 0 0, .slice a1 k c1]) (by simp [results, Try.results46, go_sem, r0, r1, r2]) rfl ?_
      have hbel : Below w.heap.size w W := by
        rw [hW]
        exact ((HB.out.1.setCell (Nat.le_refl _) _).setCell (Nat.le_refl _) _).setCell (Nat.le_refl _) _
      refine ⟨_, rfl, ⟨_, _, rfl, SliceAt.nil _ _ _ _, ?_⟩, hbel⟩
      refine ItemsAt.carry HIT.out (fun b _ hb => by rcases hb with hb | hb; exact .inl hb.1; exact .inr (by omega)) (fun b hb hlt' => ?_)
      have hne : b ≠ w.heap.size := by rcases hb with hb | hb <;> omega
      rw [hW, Below.heap_setCell _ _ _ _ hne, Below.heap_setCell _ _ _ _ hne, Below.heap_setCell _ _ _ _ hne]

end Go.Proofs.Ytndkkgkcbbmnpaa
