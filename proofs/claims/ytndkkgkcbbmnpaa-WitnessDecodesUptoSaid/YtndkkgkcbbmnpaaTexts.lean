/-
  Contract of witness.texts.
-/
import Derived.Test.YtndkkgkcbbmnpaaNestC
import Derived.Test.YtndkkgkcbbmnpaaOwn
namespace Go.Pg
open Go.RowKit
/-- texts as an item -/
def textsI (l : List (List UInt8)) : It := .list (l.map .text)
theorem blk_setCell {w : World} {g i : Nat} {cs : Array Value} {t : TypeId} {v : Value} (hg : w.heap[g]? = some (.cells cs t (0, 0))) :
    (w.setCell ⟨g, i, none⟩ v).heap[g]? = some (.cells (cs.setIfInBounds i v) t (0, 0)) := heap_setCell_same w g i cs t v hg
end Go.Pg
namespace Go.Proofs.Ytndkkgkcbbmnpaa
open Go.RowKit Go.Pg

set_option maxRecDepth 100000 in
set_option maxHeartbeats 1000000 in
theorem texts_any (F : Nat → Prop) (w : World) (v : Value) (l : List (List UInt8)) (h : RowsAt F w v l) (hl : l.length ≤ 1099511627776) (hlen : ∀ x ∈ l, x.length ≤ 70368744177664) :
    Calls Try.prog 43 #[v] w fun e w' => ∃ v2, e = .returned (.agg #[.bool true, .slice none 0 0, v2]) ∧ ItemAt (fun b => w.heap.size ≤ b) w' 2 [.bool true, .slice none 0 0, v2] (textsI l) ∧ Below w.heap.size w w' := by
  obtain ⟨a, c, rfl, -, -, -⟩ := SliceAt.len h
  obtain ⟨i0, hi, hz0, hz1, hz2⟩ := info_parts infoItem
  obtain ⟨n, hn⟩ : ∃ n, n = l.length := ⟨_, rfl⟩
  rw [← hn] at h hl ⊢
  have HN := Lib.hid hn
  have HLEN := Lib.hid hlen
  clear hn hlen
  go_enter Try.func43, Try.ntmps43
  go_wp2
  go_loopw [3, 5, 8] (fun s b i wr => ∃ k : Nat, k ≤ n ∧ i = .int .i64 k ∧ Hid (OwnList (fun F w cs x => ItemAt F w 1 cs x) (fun b => w.heap.size < b) (w.heap.size + 1) wr 65 3 s ((l.take k).map .text)) ∧
      Hid (Below w.heap.size w wr ∧ wr.heap[w.heap.size]? = some (.cells #[.bool false, .slice none 0 0, .slice none 0 0] 65 (0, 0)))) (fun _ _ i _ => n - (intOf i).toNat)
  case atStart => exact ⟨0, Nat.zero_le _, rfl, OwnList.nil, Bel.alloc (Bel.refl w) _, heap_alloc_new w _⟩
  case round =>
    obtain ⟨k, hk, rfl, HO, HB⟩ := hrel
    have hN := HN.out
    by_cases hlt : k < n
    · rcases SliceAt.split h with ⟨_, h0⟩ | ⟨b, o, rfl, -, -, -⟩
      · omega
      have hwr := RowsAt.below h HB.out.1
      obtain ⟨u, c1, t1⟩ := RowsAt.cell hwr k (by omega)
      have hxl := HLEN.out _ (List.getElem_mem (show k < l.length by omega))
      have htk : (l.take (k + 1)).map It.text = (l.take k).map It.text ++ [It.text (l[k]'(by omega))] := by
        rw [List.take_succ_eq_append_getElem (show k < l.length by omega), List.map_append]; rfl
      obtain ⟨x, hx⟩ : ∃ x, x = l[k]'(by omega) := ⟨_, rfl⟩
      rw [← hx] at t1 hxl htk
      have HT := Lib.hid htk
      obtain ⟨L, hL⟩ : ∃ L, L = (l.take k).map It.text := ⟨_, rfl⟩
      rw [← hL] at HO HT
      have hLl : L.length = k := by rw [hL]; simp; omega
      have HLL := Lib.hid hLl
      clear hwr hx htk hL hLl hN
      go_wp2_with fail
      refine (text_any F wr u x t1 hxl).mono ?_
      rintro e w1 ⟨v1, rfl, hit, hb1⟩
      obtain ⟨-, a1, m1, d1, a2, m2, d2, e1, e2, -, -⟩ := ItemAt.form hit
      simp only [Value.slice.injEq] at e2
      obtain ⟨rfl, rfl, rfl⟩ := e2
      subst e1
      have HB1 : Hid (Below w.heap.size w w1 ∧ w1.heap[w.heap.size]? = some (.cells #[.bool false, .slice none 0 0, .slice none 0 0] 65 (0, 0))) :=
        ⟨Bel.call HB.out.1 hb1, by rw [hb1.block _ (Array.getElem?_eq_some_iff.1 HB.out.2).1]; exact HB.out.2⟩
      have hO1 := (HO.out).call (carriedItem 1) hb1
      have hsw := (Array.getElem?_eq_some_iff.1 HB.out.2).1
      have hs1 := hb1.size
      have howr := (HO.out).own
      obtain ⟨R, hR1, hRo, hRs, hRn⟩ := hO1.push (carriedItem 1) hit rfl (by decide) (fun b _ hb => ⟨by omega, fun e => by have := (howr b e).2; omega⟩) 65
      have hle : (L.length + [It.text x].length) * 56 ≤ 140737488355328 := by rw [HLL.out]; simp; omega
      have hbase : w.heap.size + 1 ≤ (w1.alloc (.cells [.bool false, .slice a1 m1 d1, .slice none 0 0].toArray 65)).heap.size := by simp; omega
      have HRN := Lib.hid hRn
      have HRO := Lib.hid hRo
      have HRS := Lib.hid hRs
      have HR1 := Lib.hid hR1
      clear hRn hO1 hb1 hit howr hRo hRs hR1 hs1 hsw t1 c1
      go_wp2_with (at_builtin; refine wpList_append_at rfl (.tmp 12) (.tmp 15) 63 rfl (w.heap.size + 1) 65 i0 (.agg #[.bool false, .slice none 0 0, .slice none 0 0]) 3 56 underlyingItems hi hz0 hz1 hz2 rfl (by decide) (by decide) HR1.out _ L rfl HRO.out _ [It.text x] (fun _ => True) rfl HRS.out hle hbase ?_; intro v' w2 ho hg hm)
      have HOn := Lib.hid (HRN.out _ _ ho hg hm)
      have hown := (HRO.out).own
      have HB2 : Hid (Below w.heap.size w w2 ∧ w2.heap[w.heap.size]? = some (.cells #[.bool false, .slice none 0 0, .slice none 0 0] 65 (0, 0))) := by
        have hb1 := HB1.out.1
        have hbx := HB1.out.2
        have hlt' := (Array.getElem?_eq_some_iff.1 hbx).1
        refine ⟨(Bel.alloc hb1 _).grown hg (by simp; omega) (fun k hk => by have := (hown k hk).1; omega), ?_⟩
        rw [hg.block _ (by simp; omega) (fun e => by have := (hown _ e.symm).1; omega), Below.heap_alloc _ _ _ hlt']
        exact hbx
      clear ho hg hm hown
      go_roundw
      case rel => exact ⟨k + 1, by omega, num_eq (by omega), by rw [HT.out]; exact HOn.out, HB2.out⟩
      case measure => simp [intOf]; omega
    · obtain rfl : k = n := by omega
      have hO := HO.out
      rw [List.take_of_length_le (by omega)] at hO
      have hits := hO.at (carriedItem 1) (G' := fun b => w.heap.size < b) (fun _ h _ => h) (fun b h _ => by omega) (by decide)
      have hll : (l.map It.text).length ≤ 1099511627776 := by simp; omega
      have hsw := (Array.getElem?_eq_some_iff.1 HB.out.2).1
      clear hO hN
      go_wp2_with fail
      refine (list_any _ wr _ 1 _ hits hll).mono ?_
      rintro e w1 ⟨v2, rfl, hit, hb1⟩
      obtain ⟨-, a1, m1, d1, a2, m2, d2, e1, e2, -, -⟩ := ItemAt.form hit
      simp only [Value.slice.injEq] at e1
      obtain ⟨rfl, rfl, rfl⟩ := e1
      subst e2
      have hkk : w1.heap[w.heap.size]? = some (.cells #[.bool false, .slice none 0 0, .slice none 0 0] 65 (0, 0)) := by rw [hb1.block _ hsw]; exact HB.out.2
      obtain ⟨q0, q1, q2⟩ := cells3 hkk
      have f0 := frozen_of_row w1 w.heap.size 0 _ _ hkk
      have f1 := frozen_of_row w1 w.heap.size 1 _ _ hkk
      have f2 := frozen_of_row w1 w.heap.size 2 _ _ hkk
      have HK := Lib.hid hkk
      have HB1 := Lib.hid hb1
      clear hkk hb1
      go_wp2_with fail
      obtain ⟨W, hW⟩ : ∃ W, W = ((w1.setCell ⟨w.heap.size, 0, none⟩ (.bool true)).setCell ⟨w.heap.size, 1, none⟩ (.slice none 0 0)).setCell ⟨w.heap.size, 2, none⟩ (.slice a2 m2 d2) := ⟨_, rfl⟩
      have hWk : W.heap[w.heap.size]? = some (.cells #[.bool true, .slice none 0 0, .slice a2 m2 d2] 65 (0, 0)) := by
        rw [hW]; exact blk_setCell (blk_setCell (blk_setCell HK.out))
      rw [← hW]
      obtain ⟨r0, r1, r2⟩ := cells3 hWk
      refine bodyPost_ret (v := .agg #[.bool true, .slice none 0 0, .slice a2 m2 d2]) (by simp [results, Try.results43, go_sem, r0, r1, r2]) rfl ?_
      have hbel : Below w.heap.size w W := by
        rw [hW]
        exact (((Bel.call HB.out.1 HB1.out).setCell (Nat.le_refl _) _).setCell (Nat.le_refl _) _).setCell (Nat.le_refl _) _
      refine ⟨_, rfl, ?_, hbel⟩
      refine hit.carry (fun b _ hb => by rcases hb with hb | hb <;> omega) (fun b hb hlt' => ?_)
      have hne : b ≠ w.heap.size := by rcases hb with hb | hb <;> omega
      rw [hW, Below.heap_setCell _ _ _ _ hne, Below.heap_setCell _ _ _ _ hne, Below.heap_setCell _ _ _ _ hne]

end Go.Proofs.Ytndkkgkcbbmnpaa
