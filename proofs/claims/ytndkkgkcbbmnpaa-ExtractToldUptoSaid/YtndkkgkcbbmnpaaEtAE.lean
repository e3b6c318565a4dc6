/-
  Contract of extract.sorted: what was handed in, each once, rising.
  Contracts of pergolaref01.Ahead, pergolaref21.rises.
  Contract of (*nest.looker).look: what is amiss with an item.
  Contract of nest.Encode.
-/
import Derived.Test.YtndkkgkcbbmnpaaEtAD
import Derived.BigRegion
namespace Go.Pg
open Go.RowKit
theorem rising_of (ts ss l : List (List UInt8)) (hp : ts.Perm ss) (hs : ts.Pairwise fun x y => ¬ y < x) (hnd : ss.Nodup) (hm : ∀ x, x ∈ ss ↔ x ∈ l) : ts.Pairwise (· < ·) ∧ ∀ x, x ∈ ts ↔ x ∈ l := by
  refine ⟨?_, fun x => (hp.mem_iff).trans (hm x)⟩
  have hnd' : ts.Nodup := hp.nodup_iff.2 hnd
  exact (hs.and hnd').imp fun {a b} h => by
    by_cases h1 : a < b
    · exact h1
    · exact absurd (List.le_antisymm (List.not_lt.1 h.1) (List.not_lt.1 h1)) h.2
end Go.Pg
namespace Go.Proofs.Ytndkkgkcbbmnpaa
open Go.RowKit Go.Pg
open Go.Proofs (encStr)

/-- rising texts, the same as those of l, in memory of their own -/
def SortD (w : World) (l : List (List UInt8)) (e : Ending) (w' : World) : Prop :=
  ∃ a n c ts, e = .returned (.slice a n c) ∧ RowsAt (fresh w) w' (.slice a n c) ts ∧ (ts.Pairwise (· < ·) ∧ ∀ x, x ∈ ts ↔ x ∈ l) ∧ Below w.heap.size w w'

set_option maxRecDepth 100000 in
set_option maxHeartbeats 8000000 in
theorem sorted_any (F : Nat → Prop) (w : World) (a : Option Addr) (n c : Nat) (l : List (List UInt8)) (h : RowsAt F w (.slice a n c) l) (hlen : n ≤ 1099511627776) (hx : ∀ x ∈ l, x.length ≤ 70368744177664) :
    Calls Try.prog 66 #[.slice a n c] w (SortD w l) := by
  have hn : n = l.length := by
    obtain ⟨a', c', hv, -⟩ := SliceAt.len h
    simp only [Value.slice.injEq] at hv
    exact hv.2.1
  obtain ⟨i0, hi, hz0, hz1, hz2⟩ := info_parts infoRow
  have hmm := @run_makeMap Try.prog
  have HN := Lib.hid hn
  have HX := Lib.hid hx
  have HH := Lib.hid h
  clear hn hx h
  go_enter Try.func66, Try.ntmps66
  go_wp2
  go_loopw [11] (fun i wr => ∃ k : Nat, k ≤ n ∧ i = .int .i64 k ∧ Hid (StrMap wr w.heap.size k (l.take k)) ∧ Hid (Below w.heap.size w wr)) (fun i _ => n - (intOf i).toNat)
  case atStart => exact ⟨0, Nat.zero_le _, rfl, Lib.hid (StrMap.made w), Lib.hid (Bel.alloc (Bel.refl w) _)⟩
  case round =>
    obtain ⟨k, hk, rfl, HM, HB⟩ := hrel
    have hN := HN.out
    by_cases hlt : k < n
    · rcases SliceAt.split HH.out with ⟨_, h0⟩ | ⟨b, o, rfl, -, -, -⟩
      · omega
      have hkl : k < l.length := by omega
      obtain ⟨u, c0, t0⟩ := RowsAt.cell (RowsAt.below HH.out HB.out) k hkl
      have htk : l.take (k + 1) = l.take k ++ [l[k]] := List.take_succ_eq_append_getElem hkl
      have hxl := HX.out l[k] (List.getElem_mem _)
      obtain ⟨x, hxx⟩ : ∃ x, x = l[k] := ⟨_, rfl⟩
      rw [← hxx] at htk hxl t0
      obtain ⟨au, cu, rfl, -, -, -⟩ := SliceAt.len t0
      have s1 := run_string_at (P := Try.prog) t0 25 5 9 Try.underlying25 Try.underlying5 Try.underlying9
      obtain ⟨m, hm⟩ : ∃ m, m = x.length := ⟨_, rfl⟩
      rw [← hm] at c0 s1
      have HTK := Lib.hid htk
      have HXL := Lib.hid hxl
      have hkz : (0 : Int) ≤ (k : Int) := by omega
      have hkn : (k : Int) < (n : Int) := by omega
      clear t0 htk hxl hxx hm hN
      go_wp2_with (at_mapUpdate; refine wpL_put_str (.tmp 15) (.tmp 17) (.const (.int .i64 1)) w.heap.size k (l.take k) x ⟨rfl, rfl, rfl, rfl, rfl⟩ ⟨HM.out, (show x.length ≤ maxLen by have := HXL.out; unfold maxLen; omega), (show k < maxLen by unfold maxLen; omega)⟩ ?_; intro w2 hm2 hg2)
      have HM2 : Hid (StrMap w2 w.heap.size (k + 1) (l.take (k + 1))) := Lib.hid (by rw [HTK.out]; exact hm2)
      have HB2 := Lib.hid (HB.out.grown hg2 HB.out.size (fun j hj => by cases hj; exact Nat.le_refl _))
      clear hm2 hg2
      go_roundw
      case rel => exact ⟨k + 1, by omega, num_eq (by omega), HM2, HB2⟩
      case measure => simp [intOf]; omega
    · obtain rfl : n = k := by omega
      obtain ⟨wo, rfl⟩ : ∃ W, W = wr := ⟨_, rfl⟩
      obtain ⟨D, hD1, hD2⟩ := HM.out
      have hD2' : ∀ x, Maps.has D (.string x) = decide (x ∈ l) := fun x => by rw [hD2 x, List.take_of_length_le (by omega)]
      have hDs := hD1.size_le
      have hBlt := hD1.lt
      obtain ⟨W1, hW1⟩ : ∃ W : World, W = wo.alloc (.cells #[.slice none 0 0] 22) := ⟨_, rfl⟩
      have hk1 : W1.heap[wo.heap.size]? = some (.cells #[.slice none 0 0] 22 (0, 0)) := by rw [hW1]; exact heap_alloc_new wo _
      have hs1 : W1.heap.size = wo.heap.size + 1 := by rw [hW1]; simp
      have hb1 : Below w.heap.size w W1 := by rw [hW1]; exact Bel.alloc HB.out _
      have hown1 : W1.ownsMap Try.prog 9 (plainElem Try.prog 3) w.heap.size n D := by rw [hW1]; exact hD1.alloc _
      have HD2 := Lib.hid hD2'
      have HDS := Lib.hid hDs
      have HBLT := Lib.hid hBlt
      have HW1 := Lib.hid hW1
      have HK1 := Lib.hid hk1
      have HS1 := Lib.hid hs1
      have HB1 := Lib.hid hb1
      have HOWN1 := Lib.hid hown1
      clear hD1 hD2 hD2' hDs hBlt hW1 hk1 hs1 hb1 hown1 hN hlt
      go_wp2_with ((try rw [← HW1.out]); at_range; refine wpList_range_own _ rfl _ 109 rfl 9 3 strKeyed Try.underlying109 _ w.heap.size n D rfl HOWN1.out ?next)
      case next =>
      intro w0 hrg0 hg0 hs0
      rw [HS1.out] at hrg0 ⊢
      have hw0 : w0.heap.size = wo.heap.size + 2 := by rw [hs0, HS1.out]
      have HRG0 := Lib.hid hrg0
      have HK0 := Lib.hid ((hg0.block wo.heap.size (by rw [HS1.out]; omega) (by simp)).trans HK1.out)
      have HB0 := Lib.hid (HB1.out.grown hg0 HB1.out.size (fun j hj => by cases hj))
      have HS0 := Lib.hid hw0
      clear hrg0 hg0 hs0 hw0
      go_wp2_with fail
      go_loopw [7] (fun _ wz => ∃ (left : Lit → Bool) (cnt : Nat) (ss : List (List UInt8)) (v2 : Value), Hid (wz.ranges Try.prog 9 (plainElem Try.prog 3) w.heap.size (wo.heap.size + 1) n D left cnt) ∧ Hid (Collected D left ss) ∧ Hid (ss.length + cnt ≤ Maps.size D) ∧
          Hid (wz.heap[wo.heap.size]? = some (.cells #[v2] 22 (0, 0))) ∧ Hid (OwnList rowR (fun b => w0.heap.size ≤ b) w0.heap.size wz 25 1 v2 ss) ∧ Hid (Below w.heap.size w wz) ∧ Hid (w0.heap.size ≤ wz.heap.size)) (fun _ wz => wz.rangeLeft w.heap.size (wo.heap.size + 1))
      case atStart => exact ⟨_, _, [], _, HRG0, Lib.hid (Collected.start D), Lib.hid (by simp), HK0, Lib.hid OwnList.nil, HB0, Lib.hid (Nat.le_refl _)⟩
      case round =>
        obtain ⟨left, cnt, ss, v2, HRG, HC, HCS, HK2, HO, HBZ, HSZ⟩ := hrel
        obtain ⟨av, cv, hv2, -, -, -⟩ := HO.out.len
        obtain ⟨q, hq⟩ : ∃ q, q = ss.length := ⟨_, rfl⟩
        rw [← hq] at hv2
        have HQ := Lib.hid hq
        clear hq
        subst hv2
        have hqb : q ≤ 1099511627776 := by have := HCS.out; have := HDS.out; have := HQ.out; omega
        have c6 := cells1 HK2.out
        have f6 := frozen_of_row wr wo.heap.size 0 _ _ HK2.out
        go_wp2_with (at_next; refine wpList_next_ranges _ rfl _ rfl 9 strKeyed (plainElem Try.prog 3) encStr (Value.int .i64) (fun key kl hk => by obtain ⟨x, hx, _⟩ := Maps.keyOf_str Try.underlying9 hk; exact ⟨x, hx⟩) (fun v y hv => by obtain ⟨c, rfl, _⟩ := plainElem_int_inv Try.underlying3 hv; exact ⟨c, rfl⟩) w.heap.size (wo.heap.size + 1) n D left cnt rfl HRG.out ?done ?more)
        case done =>
          intro hc0 hl0
          have hmem : ∀ x, x ∈ ss ↔ x ∈ l := fun x => by
            rw [HC.out.2 x, HD2.out x, hl0]; simp
          have hnd := HC.out.1
          have HMEM := Lib.hid hmem
          have HND := Lib.hid hnd
          clear hl0 hmem hnd hc0
          have hbox := HK2.out
          rcases Option.eq_none_or_eq_some av with rfl | ⟨ad, rfl⟩
          · have hq0 : q = 0 ∧ cv = 0 := by
              obtain ⟨a', c', hv, h1, h2, h3⟩ := HO.out.len
              simp only [Value.slice.injEq] at hv
              obtain ⟨rfl, h4, rfl⟩ := hv
              have := h3 rfl
              have := HQ.out
              omega
            obtain ⟨rfl, rfl⟩ := hq0
            have hss : ss = [] := List.eq_nil_of_length_eq_zero HQ.out.symm
            subst hss
            go_wp2_with fail
            refine (sortNil_any wr _).mono ?_
            rintro e w3 ⟨rfl, hb3⟩
            have c7 := cell_below hb3 c6
            have HB3 := Lib.hid (Bel.call HBZ.out hb3)
            clear hb3 c6 f6 hbox
            go_wp2_with fail
            go_ret
            exact ⟨none, 0, 0, [], rfl, SliceAt.nil _ _ _ _, ⟨List.Pairwise.nil, HMEM.out⟩, HB3.out⟩
          · have hform : ∃ g, ad = ⟨g, 0, none⟩ ∧ w0.heap.size ≤ g := by
              obtain ⟨F', -, -, xs, ⟨-, hh⟩, -⟩ := HO.out
              rcases hh with ⟨hh, -⟩ | ⟨g, cap, cur, hh, h5, -⟩
              · cases hh
              · simp only [Value.slice.injEq, Option.some.injEq] at hh
                exact ⟨g, hh.1, h5⟩
            obtain ⟨g, rfl, hg⟩ := hform
            have hne : wo.heap.size ≠ g := by have := HS0.out; omega
            have hsort := sort_any (fun b => w0.heap.size ≤ b) w0.heap.size wr g q cv wo.heap.size ss hbox hne HO.out (by have := HQ.out; omega)
            have HSORT := Lib.hid hsort
            clear hsort hbox
            go_wp2_with fail
            refine HSORT.out.mono ?_
            rintro e w3 ⟨rfl, ts, hp, hs, ho, hch⟩
            obtain ⟨hr1, hr2⟩ := rising_of ts ss l hp hs HND.out HMEM.out
            have hbx := (hch.block wo.heap.size (Array.getElem?_eq_some_iff.1 HK2.out).1 hne).trans HK2.out
            have c7 := cells1 hbx
            have hrows : RowsAt (fresh w) w3 (.slice (some ⟨g, 0, none⟩) q cv) ts := ho.at carriedRow (fun b hb _ => by have h1 : w0.heap.size ≤ b := hb; have h2 := HS0.out; have h3 := HB.out.size; show w.heap.size ≤ b; omega) (fun b hb _ => by have h2 := HS0.out; have h3 := HB.out.size; show w.heap.size ≤ b; omega) (by decide)
            have HROWS := Lib.hid hrows
            have HR1 := Lib.hid hr1
            have HR2 := Lib.hid hr2
            have HB3 : Hid (Below w.heap.size w w3) := Lib.hid (HBZ.out.trans (hch.toBelowAt HBZ.out.size (fun k hk e => by have h2 := HS0.out; have h3 := HB.out.size; omega)))
            clear hp hs ho hch hr1 hr2 hbx hrows c6 f6
            go_wp2_with fail
            go_ret
            exact ⟨_, _, _, ts, rfl, HROWS.out, ⟨HR1.out, HR2.out⟩, HB3.out⟩
        case more =>
          intro x ci kl yd yp w2 cnt2 hkey hlk hv hat hrg2 hlt2 hg2 hs2 hen
          obtain ⟨x', ex, rfl, hxm⟩ := Maps.keyOf_str Try.underlying9 hkey
          obtain rfl : x = x' := encStr_inj ex
          have hC2 := HC.out.step hlk hat
          have hown := HO.out.own
          have hblk2 : ∀ k, k < wr.heap.size → k ≠ wo.heap.size + 1 → w2.heap[k]? = wr.heap[k]? := fun k hk hn => hg2.block k hk (fun e => hn (by simpa using e))
          have hb2 : Below w.heap.size w w2 := HBZ.out.grown hg2 HBZ.out.size (fun j hj => by cases hj; have := HB.out.size; omega)
          have hk2 := (hblk2 wo.heap.size (Array.getElem?_eq_some_iff.1 HK2.out).1 (by omega)).trans HK2.out
          have hO2 := HO.out.carry carriedRow (W' := w2) (by rw [hs2]; exact Nat.le_refl _) (fun b hb hlt => hblk2 b hlt (by have := HS0.out; have h1 : w0.heap.size ≤ b := hb; omega)) (fun g hg => hblk2 g (hown g hg).2 (by have := (hown g hg).1; have := HS0.out; omega))
          have hsz2 : w0.heap.size ≤ w2.heap.size := by rw [hs2]; exact HSZ.out
          have hcl2 := hrg2.left_eq
          have hcl1 := HRG.out.left_eq
          have c62 := cells1 hk2
          have f62 := frozen_of_row w2 wo.heap.size 0 _ _ hk2
          have HC2 := Lib.hid hC2
          have HB2 := Lib.hid hb2
          have HK22 := Lib.hid hk2
          have HO2 := Lib.hid hO2
          have HSZ2 := Lib.hid hsz2
          have HRG2 := Lib.hid hrg2
          have HLT2 := Lib.hid hlt2
          have HXM := Lib.hid hxm
          have hen' : (Instr.entry (.pointer (some ⟨wo.heap.size + 1, 0, none⟩))).run Try.prog w2 = .ok (.tuple #[.string ⟨x.toArray⟩, .int .i64 ci]) w2 := hen
          clear hen hkey hlk hv hat hrg2 hlt2 hg2 hs2 ex hxm hC2 hblk2 hb2 hk2 hO2 hsz2 c6 f6 hcl2 hcl1
          go_wp2_with ((with_reducible refine wpL_bytes_of (.tmp 26) x ?_ HXM.out ?nextb); (exact ⟨rfl, rfl, rfl⟩))
          case nextb =>
          intro c1 w3 hb3 hby
          obtain ⟨m, hm⟩ : ∃ m, m = x.length := ⟨_, rfl⟩
          rw [← hm] at hby ⊢
          have hO3 := HO2.out.call carriedRow hb3
          have hsz3 := hb3.size
          have hown2 := HO2.out.own
          obtain ⟨R, hR1, hRo, hRs, hRn⟩ := hO3.push carriedRow (H := fun b => w2.heap.size ≤ b) (cs := [.slice (some ⟨w2.heap.size, 0, none⟩) m c1]) (x := x) ⟨_, rfl, hby⟩ rfl (by decide) (fun b _ hb => ⟨Nat.le_trans HSZ2.out hb, fun e => by have := (hown2 b e).2; omega⟩) 25
          have hle : (ss.length + [x].length) * 24 ≤ 140737488355328 := by have := HQ.out; simp; omega
          have hbase : w0.heap.size ≤ (w3.alloc (.cells [.slice (some ⟨w2.heap.size, 0, none⟩) m c1].toArray 25)).heap.size := by have := HSZ2.out; simp; omega
          have hk3 := (hb3.block wo.heap.size (Array.getElem?_eq_some_iff.1 HK22.out).1).trans HK22.out
          have c63 := cells1 hk3
          have f63 := frozen_of_row w3 wo.heap.size 0 _ _ hk3
          have hrg3 := HRG2.out.kept (row := none) (w' := w3) ⟨hb3.os, hb3.tape, hb3.output, hb3.size, fun k hk _ => hb3.block k hk⟩ (by simp) (by simp)
          have HRN := Lib.hid hRn
          have HRO := Lib.hid hRo
          have HRS := Lib.hid hRs
          have HR1 := Lib.hid hR1
          have HK3 := Lib.hid hk3
          have HB3 := Lib.hid (Bel.call HB2.out hb3)
          have HRG3 := Lib.hid hrg3
          have HLE := Lib.hid hle
          have HBASE := Lib.hid hbase
          have HSZ3 := Lib.hid hsz3
          clear hb3 hby hO3 hsz3 hRn hRo hRs hR1 hk3 hrg3 hm c62 f62 hen' hle hbase
          go_wp2_with (at_builtin; refine wpList_append_at rfl (.tmp 25) (.tmp 28) 22 rfl w0.heap.size 25 i0 (.slice none 0 0) 1 24 underlyingRows hi hz0 hz1 hz2 rfl (by decide) (by decide) HR1.out (.slice av q cv) ss rfl HRO.out _ [x] (fun _ => True) rfl HRS.out HLE.out HBASE.out ?nextc)
          case nextc =>
          intro v' w4 ho hg hm
          have hO4 := HRN.out _ _ ho hg hm
          obtain ⟨a4, c4, hv4, -, -, -⟩ := hO4.len
          obtain ⟨q4, hq4⟩ : ∃ q4, q4 = (ss ++ [x]).length := ⟨_, rfl⟩
          rw [← hq4] at hv4
          subst hv4
          have hblk4 : ∀ k, k < w3.heap.size → k < w0.heap.size → w4.heap[k]? = w3.heap[k]? := fun k hk hn => by
            rw [hg.block k (by simp; omega) (fun e => by have := (hown2 k e.symm).1; omega)]
            exact Below.heap_alloc _ _ _ hk
          have hs4 := hg.size
          simp only [World.size_alloc] at hs4
          have hkb := (Array.getElem?_eq_some_iff.1 HK3.out).1
          have hk4 := (hblk4 wo.heap.size hkb (by have := HS0.out; omega)).trans HK3.out
          have c64 := cells1 hk4
          have f64 := frozen_of_row w4 wo.heap.size 0 _ _ hk4
          have hb4 : Below w.heap.size w w4 := (Bel.alloc HB3.out _).grown hg (by have := HB3.out.size; simp; omega) (fun k hk => by have h1 := (hown2 k hk).1; have h2 := HS0.out; have h3 := HB.out.size; omega)
          have hrg4 := (HRG3.out.alloc (.cells [.slice (some ⟨w2.heap.size, 0, none⟩) m c1].toArray 25)).kept hg (fun e => by have h1 := (hown2 _ e.symm).1; have h2 := HS0.out; have h3 := HBLT.out; omega) (fun e => by have h1 := (hown2 _ e.symm).1; have h2 := HS0.out; omega)
          have hset := heap_setCell_same w4 wo.heap.size 0 _ _ (.slice a4 q4 c4) hk4
          have hO5 := hO4.carry carriedRow (W' := w4.setCell ⟨wo.heap.size, 0, none⟩ (.slice a4 q4 c4)) (by simp) (fun b hb _ => Below.heap_setCell _ _ _ _ (by show b ≠ wo.heap.size; have h1 : w0.heap.size ≤ b := hb; have h2 := HS0.out; omega)) (fun k hk => Below.heap_setCell _ _ _ _ (by show k ≠ wo.heap.size; have h1 := (hO4.own k hk).1; have h2 := HS0.out; omega))
          have hrg5 := hrg4.kept (w' := w4.setCell ⟨wo.heap.size, 0, none⟩ (.slice a4 q4 c4)) (row := some wo.heap.size) ⟨rfl, rfl, rfl, by simp, fun k hk hn => Below.heap_setCell _ _ _ _ (by show k ≠ wo.heap.size; exact fun e => hn (by rw [e]))⟩ (by simp; have := HBLT.out; omega) (by simp)
          have hb5 : Below w.heap.size w (w4.setCell ⟨wo.heap.size, 0, none⟩ (.slice a4 q4 c4)) := hb4.setCell (by show w.heap.size ≤ wo.heap.size; exact HB.out.size) _
          have HO5 := Lib.hid hO5
          have HRG5 := Lib.hid hrg5
          have HB5 := Lib.hid hb5
          have HSET := Lib.hid hset
          have HSZ5 : Hid (w0.heap.size ≤ (w4.setCell ⟨wo.heap.size, 0, none⟩ (.slice a4 q4 c4)).heap.size) := Lib.hid (by have := HSZ2.out; have := HSZ3.out; simp; omega)
          clear ho hg hm hO4 hblk4 hs4 hkb hk4 hb4 hrg4 hset hO5 hrg5 hb5 c63 f63 hq4
          go_wp2_with fail
          go_roundw
          case rel => exact ⟨_, cnt2, ss ++ [x], _, HRG5, HC2, Lib.hid (by have := HCS.out; have := HLT2.out; simp; omega), HSET, HO5, HB5, HSZ5⟩
          case measure => rw [HRG5.out.left_eq, HRG.out.left_eq]; exact HLT2.out
end Go.Proofs.Ytndkkgkcbbmnpaa
namespace Go.Pg
theorem compareBytes_drop (bs ds : List UInt8) (k : Nat) (h1 : k < bs.length) (h2 : k < ds.length) :
    Lib.compareBytes (bs.drop k) (ds.drop k) = if bs[k] < ds[k] then -1 else if ds[k] < bs[k] then 1 else Lib.compareBytes (bs.drop (k + 1)) (ds.drop (k + 1)) := by
  rw [List.drop_eq_getElem_cons h1, List.drop_eq_getElem_cons h2]; rfl
theorem compareBytes_end (bs ds : List UInt8) (k : Nat) (h1 : k ≤ bs.length) (h2 : k ≤ ds.length) (h : bs.length ≤ k ∨ ds.length ≤ k) :
    decide (Lib.compareBytes (bs.drop k) (ds.drop k) < 0) = decide (bs.length < ds.length) := by
  rcases Nat.lt_or_ge bs.length ds.length with hl | hl
  · have e1 : bs.drop k = [] := List.drop_eq_nil_of_le (by omega)
    have e2 : ∃ x r, ds.drop k = x :: r := by
      cases hd : ds.drop k with
      | nil => have := congrArg List.length hd; simp at this; omega
      | cons x r => exact ⟨x, r, rfl⟩
    obtain ⟨x, r, e2⟩ := e2
    rw [e1, e2]; simp [Lib.compareBytes, hl]
  · have e1 : ds.drop k = [] := List.drop_eq_nil_of_le (by omega)
    rw [e1]
    cases bs.drop k with
    | nil => simp [Lib.compareBytes]; omega
    | cons x r => simp [Lib.compareBytes]; omega
end Go.Pg
namespace Go.Proofs.Ytndkkgkcbbmnpaa
open Go.RowKit Go.Pg

set_option maxRecDepth 100000 in
set_option maxHeartbeats 1000000 in
theorem ahead_any (F G : Nat → Prop) (w : World) (u v : Value) (bs ds : List UInt8) (h : BytesAt F w u bs) (k : BytesAt G w v ds) (hbl : bs.length ≤ 1152921504606846976) :
    Calls Try.prog 73 #[u, v] w fun e w' => e = .returned (.bool (decide (Lib.compareBytes bs ds < 0))) ∧ ∃ m, w' = w.drewN m := by
  obtain ⟨a, c, rfl, -, -, -⟩ := SliceAt.len h
  obtain ⟨a', c', rfl, -, -, -⟩ := SliceAt.len k
  obtain ⟨n, hn⟩ : ∃ n, n = bs.length := ⟨_, rfl⟩
  obtain ⟨n', hn'⟩ : ∃ n', n' = ds.length := ⟨_, rfl⟩
  rw [← hn] at h hbl ⊢
  rw [← hn'] at k ⊢
  have HN := Lib.hid hn
  have HN' := Lib.hid hn'
  clear hn hn'
  go_enter Try.func73, Try.ntmps73
  go_wp2
  go_loopw [5] (fun i wr => ∃ j : Nat, j ≤ n ∧ j ≤ n' ∧ i = .int .i64 j ∧ Hid (Lib.compareBytes bs ds = Lib.compareBytes (bs.drop j) (ds.drop j)) ∧ Hid (∃ m, wr = w.drewN m)) (fun i _ => n - (intOf i).toNat)
  case atStart => exact ⟨0, Nat.zero_le _, Nat.zero_le _, rfl, rfl, 0, rfl⟩
  case round =>
    obtain ⟨j, hj, hj', rfl, HC, HM⟩ := hrel
    obtain ⟨m, rfl⟩ := HM.out
    have hN := HN.out
    have hN' := HN'.out
    by_cases hlt : j < n
    · by_cases hlt' : j < n'
      · rcases SliceAt.split h with ⟨_, h0⟩ | ⟨b, o, rfl, -, -, -⟩
        · omega
        rcases SliceAt.split k with ⟨_, h0⟩ | ⟨b', o', rfl, -, -, -⟩
        · omega
        have c1 := BytesAt.cell h j (by omega)
        have c2 := BytesAt.cell k j (by omega)
        have hd := compareBytes_drop bs ds j (by omega) (by omega)
        obtain ⟨x, hx⟩ : ∃ x, x = bs[j]'(by omega) := ⟨_, rfl⟩
        obtain ⟨y, hy⟩ : ∃ y, y = ds[j]'(by omega) := ⟨_, rfl⟩
        rw [← hx, ← hy] at hd
        rw [← hx] at c1
        rw [← hy] at c2
        have HD := Lib.hid (HC.out.trans hd)
        clear hd hx hy hN hN' HM HC
        have z4 : (j : Int) < (n : Int) := by omega
        have z5 : (j : Int) < (n' : Int) := by omega
        by_cases hxy : x = y
        · subst hxy
          have hne : ((x.toNat : Int) != (x.toNat : Int)) = false := by simp
          go_wp2
          go_quiet (fail)
          go_wp2
          go_roundw
          case rel => exact ⟨j + 1, by omega, by omega, num_eq (by omega), (by show _ = _; rw [HD.out]; simp), m + nq, rfl⟩
          case measure => simp [intOf]; omega
        · have hne' : x.toNat ≠ y.toNat := fun e => hxy (UInt8.toNat_inj.1 e)
          have hne : ((x.toNat : Int) != (y.toNat : Int)) = true := by simp; omega
          clear hne'
          go_wp2
          go_quiet (fail)
          go_wp2
          go_quiet (fail)
          go_wp2
          go_ret
          refine ⟨ret_bool ?_, _, by rw [World.drewN_drewN, World.drewN_drewN]⟩
          rw [HD.out]
          have e : ((x.toNat : Int) < (y.toNat : Int)) ↔ x < y := by rw [UInt8.lt_iff_toNat_lt]; omega
          by_cases hl : x < y
          · have e2 := e.2 hl
            simp [hl]; simpa using e2
          · have : y < x := by rw [UInt8.lt_iff_toNat_lt] at hl ⊢; have : x.toNat ≠ y.toNat := fun e => hxy (UInt8.toNat_inj.1 e); omega
            have e2 : ¬ (x.toNat : Int) < (y.toNat : Int) := fun h => hl (e.1 h)
            simp [hl, this]; simpa using e2
      · go_wp2
        go_ret
        exact ⟨ret_bool (by rw [HC.out, compareBytes_end bs ds j (by omega) (by omega) (.inr (by omega)), ← HN.out, ← HN'.out]; first | done | simp), m, rfl⟩
    · go_wp2
      go_ret
      exact ⟨ret_bool (by rw [HC.out, compareBytes_end bs ds j (by omega) (by omega) (.inl (by omega)), ← HN.out, ← HN'.out]; first | done | simp), m, rfl⟩

set_option maxRecDepth 100000 in
set_option maxHeartbeats 1000000 in
theorem rrises_any (F : Nat → Prop) (w : World) (v : Value) (l : List (List UInt8)) (h : RowsAt F w v l) (hl : l.length ≤ 1152921504606846976) (hlen : ∀ x ∈ l, x.length ≤ 1152921504606846976) :
    Calls Try.prog 44 #[v] w fun e w' => e = .returned (.bool (rising l)) ∧ ∃ m, w' = w.drewN m := by
  obtain ⟨a, c, rfl, -, -, -⟩ := SliceAt.len h
  obtain ⟨n, hn⟩ : ∃ n, n = l.length := ⟨_, rfl⟩
  rw [← hn] at h hl ⊢
  have HN := Lib.hid hn
  have HLEN := Lib.hid hlen
  clear hn hlen
  go_enter Try.func44, Try.ntmps44
  go_wp2
  go_loopw [3] (fun i wr => ∃ k : Nat, 1 ≤ k ∧ k ≤ n + 1 ∧ i = .int .i64 k ∧ Hid (rising l = rising (l.drop (k - 1))) ∧ Hid (∃ m, wr = w.drewN m)) (fun i _ => n + 1 - (intOf i).toNat)
  case atStart => exact ⟨1, Nat.le_refl _, by omega, rfl, rfl, 0, rfl⟩
  case round =>
    obtain ⟨k, h1, hk, rfl, HR, HM⟩ := hrel
    have hwr : RowsAt F wr (.slice a n c) l := by
      obtain ⟨m, hm⟩ := HM.out
      rw [hm]; exact RowsAt.carry h (fun _ _ x => x) (fun _ _ _ => rfl)
    have hN := HN.out
    by_cases hlt : k < n
    · rcases SliceAt.split hwr with ⟨_, h0⟩ | ⟨b, o, rfl, -, -, -⟩
      · omega
      obtain ⟨u1, c1, t1⟩ := RowsAt.cell hwr (k - 1) (by omega)
      obtain ⟨u2, c2, t2⟩ := RowsAt.cell hwr k (by omega)
      have hx1l := HLEN.out _ (List.getElem_mem (show k - 1 < l.length by omega))
      obtain ⟨x1, hx1⟩ : ∃ x, x = l[k - 1]'(by omega) := ⟨_, rfl⟩
      obtain ⟨x2, hx2⟩ : ∃ x, x = l[k]'(by omega) := ⟨_, rfl⟩
      have hst := rising_step l k h1 (by omega)
      rw [← hx1, ← hx2] at hst
      rw [← hx1] at t1 hx1l
      rw [← hx2] at t2
      have HS := Lib.hid (HR.out.trans hst)
      clear hst hx1 hx2 hN HR hwr
      have hadd : ((k : Int) - 1).toNat = k - 1 := by omega
      have hwr1 : IntKind.i64.wrap ((k : Int) - 1) = (k : Int) - 1 := IntWalk.i64_in _ (by omega)
      have z1 : (1 : Int) ≤ (k : Int) := by omega
      have z2 : (0 : Int) ≤ (k : Int) - 1 := by omega
      have z3 : (k : Int) - 1 < (n : Int) := by omega
      have z4 : (k : Int) < (n : Int) := by omega
      go_wp2
      go_quiet (((go_at_call 73; exact Calls.quiet_of (ahead_any F F _ u1 u2 x1 x2 (t1.draws _) (t2.draws _) hx1l))))
      clear t1 t2 c1 c2 hx1l
      by_cases hneg : Lib.compareBytes x1 x2 < 0
      · have hdn : decide (Lib.compareBytes x1 x2 < 0) = true := by simpa using hneg
        have HDN := Lib.hid hdn
        rw [hdn]
        clear hdn hneg
        go_wp2
        go_roundw
        case rel => exact ⟨k + 1, by omega, by omega, num_eq (by omega), (by show _ = _; rw [HS.out, HDN.out]; rfl), (by obtain ⟨m, hm⟩ := HM.out; rw [hm]; exact ⟨_, World.drewN_drewN _ _ _⟩)⟩
        case measure => simp [intOf]; omega
      · have hdn : decide (Lib.compareBytes x1 x2 < 0) = false := by simpa using hneg
        have HDN := Lib.hid hdn
        rw [hdn]
        clear hdn hneg
        go_wp2
        go_ret
        exact ⟨ret_bool (by rw [HS.out, HDN.out]; rfl), (by obtain ⟨m, hm⟩ := HM.out; rw [hm]; exact ⟨_, World.drewN_drewN _ _ _⟩)⟩
    · go_wp2
      go_ret
      exact ⟨ret_bool (by rw [HR.out, rising_end l k (by omega)]), HM.out⟩

end Go.Proofs.Ytndkkgkcbbmnpaa
namespace Go.Pg
theorem Chg.at1 {lb i : Nat} {a w : World} (h : Chg (fun k => k = lb) a w) (u : Value) : Chg (fun k => k = lb) a (w.setCell ⟨lb, i, none⟩ u) := h.setCell (.inr rfl) u
mutual
/-- what an item weighs behind what was weighed, and what is amiss -/
def It.look : It → Nat → Nat → Nat × Nat
  | .text b, _, wt => if 16777215 < wt + max b.length 1 then (wt + max b.length 1, 20) else (wt + max b.length 1, 0)
  | .list l, deep, wt => if deep = 8 then (wt, 21) else if deep = 0 then (if 16777215 < wt then (wt, 20) else It.looks l 1 wt) else
      (if 16777215 < wt + 1 then (wt + 1, 20) else It.looks l (deep + 1) (wt + 1))
def It.looks : List It → Nat → Nat → Nat × Nat
  | [], _, wt => (wt, 0)
  | x :: r, deep, wt => if (It.look x deep wt).2 = 0 then It.looks r deep (It.look x deep wt).1 else It.look x deep wt
end
mutual
theorem It.look_le : ∀ (x : It) (deep wt : Nat), (x.look deep wt).1 ≤ wt + x.whole
  | .text b, deep, wt => by
    have h1 := It.body_le_whole (.text b)
    have h2 := It.whole_pos (.text b)
    simp only [It.body] at h1
    simp only [It.look]; split <;> simp <;> omega
  | .list l, deep, wt => by
    have h1 := It.body_le_whole (.list l)
    have h2 := It.whole_pos (.list l)
    have h3 : It.wholes l + 1 ≤ (It.list l).whole := by
      simp only [It.whole]; exact sz_ge _
    simp only [It.look]
    split
    · simp
    · split
      · split
        · simp
        · have := It.looks_le l 1 wt; omega
      · split
        · simp; omega
        · have := It.looks_le l (deep + 1) (wt + 1); omega
theorem It.looks_le : ∀ (l : List It) (deep wt : Nat), (It.looks l deep wt).1 ≤ wt + It.wholes l
  | [], deep, wt => by simp [It.looks, It.wholes]
  | x :: r, deep, wt => by
    have h1 := It.look_le x deep wt
    have h2 := It.looks_le r deep (x.look deep wt).1
    simp only [It.looks, It.wholes]
    split <;> omega
end
/-- what is done first at a list -/
def lookHead (deep wt : Nat) : Nat × Nat :=
  if deep = 8 then (wt, 21) else if deep = 0 then (if 16777215 < wt then (wt, 20) else (wt, 0)) else if 16777215 < wt + 1 then (wt + 1, 20) else (wt + 1, 0)
def lookOn (l : List It) (deep : Nat) (r : Nat × Nat) : Nat × Nat := if r.2 = 0 then It.looks l deep r.1 else r
theorem look_list_eq (l : List It) (deep wt : Nat) : (It.list l).look deep wt = lookOn l (deep + 1) (lookHead deep wt) := by
  simp only [It.look, lookHead, lookOn]
  by_cases h8 : deep = 8
  · simp [h8]
  · by_cases h0 : deep = 0
    · subst h0; by_cases hb : 16777215 < wt <;> simp [hb]
    · by_cases hb : 16777215 < wt + 1 <;> simp [h8, h0, hb]
theorem lookOn_nil (deep : Nat) (r : Nat × Nat) : lookOn [] deep r = r := by
  obtain ⟨m, e⟩ := r
  simp only [lookOn, It.looks]
  split
  · rename_i h; subst h; rfl
  · rfl
theorem lookOn_cons (x : It) (l : List It) (deep m : Nat) : lookOn (x :: l) deep (m, 0) = lookOn l deep (x.look deep m) := by
  simp only [lookOn, It.looks, if_true]
theorem lookOn_bad (l : List It) (deep m e : Nat) (h : e ≠ 0) : lookOn l deep (m, e) = (m, e) := by
  unfold lookOn; rw [if_neg h]
end Go.Pg
namespace Go.Proofs.Ytndkkgkcbbmnpaa
open Go.RowKit Go.Pg

/-- behind a look: the looker's two cells; nothing else of what was there has turned -/
def Looked (w : World) (lb : Nat) (r : Nat × Nat) (e : Ending) (w' : World) : Prop :=
  e = .returned (.tuple #[]) ∧ w'.heap[lb]? = some (.cells #[.int .i64 r.1, .int .i64 r.2] 93 (0, 0)) ∧ Chg (fun k => k = lb) w w'
def LookC (d : Nat) : Prop := ∀ (F : Nat → Prop) (w : World) (lb : Nat) (x : It) (l : Bool) (v1 v2 : Value) (deep wt : Nat),
  ItemAt F w d [.bool l, v1, v2] x → w.heap[lb]? = some (.cells #[.int .i64 wt, .int .i64 0] 93 (0, 0)) → ¬ F lb → deep ≤ 8 → wt + x.whole ≤ 1125899906842624 →
  Calls Try.prog 69 #[.pointer (some ⟨lb, 0, none⟩), .agg #[.bool l, v1, v2], .int .i64 deep] w (Looked w lb (x.look deep wt))

set_option maxRecDepth 100000 in
set_option maxHeartbeats 400000 in
theorem look_text (_F : Nat → Prop) (w : World) (lb : Nat) (b : List UInt8) (a a2 : Option Addr) (c c2 : Nat) (deep wt : Nat)
    (hk : w.heap[lb]? = some (.cells #[.int .i64 wt, .int .i64 0] 93 (0, 0))) (_hd : deep ≤ 8) (hw : wt + (It.text b).whole ≤ 1125899906842624) :
    Calls Try.prog 69 #[.pointer (some ⟨lb, 0, none⟩), .agg #[.bool false, .slice a b.length c, .slice a2 0 c2], .int .i64 deep] w (Looked w lb ((It.text b).look deep wt)) := by
  have hlt := (Array.getElem?_eq_some_iff.1 hk).1
  obtain ⟨n, hn⟩ : ∃ n, n = b.length := ⟨_, rfl⟩
  rw [← hn]
  have hnw : n ≤ (It.text b).whole := by rw [hn]; exact It.body_le_whole (.text b)
  have hpos := It.whole_pos (.text b)
  have HN := Lib.hid hn
  clear hn
  obtain ⟨q0, q1⟩ := cells2 hk
  have f0 := frozen_of_row w lb 0 _ _ hk
  have f1 := frozen_of_row w lb 1 _ _ hk
  have hne : lb ≠ w.heap.size := by omega
  have hend : ∀ (W : World) (m e : Nat), W.heap[lb]? = some (.cells #[.int .i64 m, .int .i64 e] 93 (0, 0)) → (It.text b).look deep wt = (m, e) → Chg (fun k => k = lb) w W → Looked w lb ((It.text b).look deep wt) (.returned (.tuple #[])) W :=
    fun W m e h1 h2 h3 => ⟨rfl, by rw [h2]; exact h1, h3⟩
  have HE := Lib.hid hend
  clear hend
  have hk1 : ∀ (m : Int) (o : Obj), ((w.setCell ⟨lb, 0, none⟩ (.int .i64 m)).alloc o).drew.heap[lb]? = some (.cells #[.int .i64 m, .int .i64 0] 93 (0, 0)) ∧ Chg (fun k => k = lb) w ((w.setCell ⟨lb, 0, none⟩ (.int .i64 m)).alloc o).drew := fun m o =>
    ⟨(Below.heap_alloc _ _ _ (by simpa using hlt)).trans (heap_setCell_same _ _ _ _ _ _ hk), (((Chg.refl (fun k => k = lb) w).at1 (i := 0) _).alloc o).drew⟩
  have hk2 : ∀ (m e : Int) (o : Obj), (((w.setCell ⟨lb, 0, none⟩ (.int .i64 m)).setCell ⟨lb, 1, none⟩ (.int .i64 e)).alloc o).drew.heap[lb]? = some (.cells #[.int .i64 m, .int .i64 e] 93 (0, 0)) ∧ Chg (fun k => k = lb) w (((w.setCell ⟨lb, 0, none⟩ (.int .i64 m)).setCell ⟨lb, 1, none⟩ (.int .i64 e)).alloc o).drew := fun m e o =>
    ⟨(Below.heap_alloc _ _ _ (by simpa using hlt)).trans (heap_setCell_same _ _ _ _ _ _ (heap_setCell_same _ _ _ _ _ _ hk)), ((((Chg.refl (fun k => k = lb) w).at1 (i := 0) _).at1 (i := 1) _).alloc o).drew⟩
  have HK1 := Lib.hid hk1
  have HK2 := Lib.hid hk2
  clear hk1 hk2 hk
  obtain ⟨m, hm1⟩ : ∃ m : Nat, m = max n 1 := ⟨_, rfl⟩
  have hmx : (if (n : Int) < 1 then (1 : Int) else (n : Int)) = (m : Int) := by split <;> omega
  have hmb : wt + m ≤ 1125899906842624 := by omega
  have HM := Lib.hid hm1
  clear hm1 hnw hpos hw
  by_cases hm : 16777215 < wt + m
  all_goals
    go_enter Try.func69, Try.ntmps69
    go_wp2
    go_region
    go_wp2
    go_rounds 1
    go_end0
    have hl := HE.out
    first
      | (have hq := HK1.out (wt + m) (.cells #[.bool false, .slice a n c, .slice a2 0 c2] 65); exact hl _ (wt + m) 0 hq.1 (by simp only [It.look, ← HN.out, ← HM.out]; rw [if_neg (by omega)]) hq.2)
      | (have hq := HK2.out (wt + m) 20 (.cells #[.bool false, .slice a n c, .slice a2 0 c2] 65); exact hl _ (wt + m) 20 hq.1 (by simp only [It.look, ← HN.out, ← HM.out]; rw [if_pos (by omega)]) hq.2)

/-- a list's look on its way: the looker's cells, the item's box, and what has turned -/
structure LSt (w : World) (lb : Nat) (cs : Array Value) (W : World) (m e : Nat) : Prop where
  at_ : W.heap[lb]? = some (.cells #[.int .i64 m, .int .i64 e] 93 (0, 0))
  box : W.heap[w.heap.size]? = some (.cells cs 65 (0, 0))
  chg : Chg (fun k => k = lb) w W
set_option maxRecDepth 100000 in
set_option maxHeartbeats 1000000 in
theorem look_list {d : Nat} (hd0 : LookC d) (F : Nat → Prop) (w : World) (lb : Nat) (l : List It) (a a2 : Option Addr) (c n2 c2 : Nat) (deep wt : Nat)
    (his : ItemsAt F w d (.slice a2 n2 c2) l)
    (hk : w.heap[lb]? = some (.cells #[.int .i64 wt, .int .i64 0] 93 (0, 0))) (hF : ¬ F lb) (hd : deep ≤ 8) (hw : wt + (It.list l).whole ≤ 1125899906842624) :
    Calls Try.prog 69 #[.pointer (some ⟨lb, 0, none⟩), .agg #[.bool true, .slice a 0 c, .slice a2 n2 c2], .int .i64 deep] w (Looked w lb ((It.list l).look deep wt)) := by
  have hlt := (Array.getElem?_eq_some_iff.1 hk).1
  obtain ⟨q0, q1⟩ := cells2 hk
  have f0 := frozen_of_row w lb 0 _ _ hk
  have f1 := frozen_of_row w lb 1 _ _ hk
  have hne : lb ≠ w.heap.size := by omega
  have HD := Lib.hid hd0
  have hm1 : ∃ m : Nat, m = wt + 1 := ⟨_, rfl⟩
  obtain ⟨m, hm⟩ := hm1
  have hmx : (wt : Int) + 1 = (m : Int) := by omega
  have HM := Lib.hid hm
  have hwb : It.wholes l + 1 ≤ (It.list l).whole := by simp only [It.whole]; exact sz_ge _
  have hmb : m + It.wholes l ≤ 1125899906842624 := by omega
  have HIS := Lib.hid his
  have HK := Lib.hid hk
  clear hm hd0 his hk hwb hw
  have hX : ∀ (X : World) (m0 e0 : Nat), Chg (fun k => k = lb) w X → X.heap.size = w.heap.size → X.heap[lb]? = some (.cells #[.int .i64 m0, .int .i64 e0] 93 (0, 0)) →
      LSt w lb #[.bool true, .slice a 0 c, .slice a2 n2 c2] (X.alloc (.cells #[.bool true, .slice a 0 c, .slice a2 n2 c2] 65)) m0 e0 := fun X m0 e0 h1 h2 h3 =>
    ⟨by rw [Below.heap_alloc _ _ _ (by omega)]; exact h3, by rw [← h2]; exact heap_alloc_new X _, h1.alloc _⟩
  have HX := Lib.hid hX
  clear hX
  have hcases : (((deep : Int) == 8) = true ∧ Hid (lookHead deep wt = (wt, 21))) ∨
      (((deep : Int) == 8) = false ∧ ((deep : Int) == 0) = true ∧ 16777215 < wt ∧ Hid (lookHead deep wt = (wt, 20))) ∨
      (((deep : Int) == 8) = false ∧ ((deep : Int) == 0) = true ∧ ¬ 16777215 < wt ∧ Hid (lookHead deep wt = (wt, 0) ∧ deep < 8)) ∨
      (((deep : Int) == 8) = false ∧ ((deep : Int) == 0) = false ∧ 16777215 < m ∧ Hid (lookHead deep wt = (m, 20))) ∨
      (((deep : Int) == 8) = false ∧ ((deep : Int) == 0) = false ∧ ¬ 16777215 < m ∧ Hid (lookHead deep wt = (m, 0) ∧ deep < 8)) := by
    have hmm := HM.out
    unfold lookHead Hid
    rw [← hmm]
    by_cases h8 : deep = 8
    · exact .inl ⟨by simp; omega, by rw [if_pos h8]⟩
    · have e8 : ((deep : Int) == 8) = false := by simp; omega
      rw [if_neg h8]
      by_cases h0 : deep = 0
      · have e0 : ((deep : Int) == 0) = true := by simp; omega
        rw [if_pos h0]
        by_cases hb : 16777215 < wt
        · exact .inr (.inl ⟨e8, e0, hb, by rw [if_pos hb]⟩)
        · exact .inr (.inr (.inl ⟨e8, e0, hb, by rw [if_neg hb], by omega⟩))
      · have e0 : ((deep : Int) == 0) = false := by simp; omega
        rw [if_neg h0]
        by_cases hb : 16777215 < m
        · exact .inr (.inr (.inr (.inl ⟨e8, e0, hb, by rw [if_pos hb]⟩)))
        · exact .inr (.inr (.inr (.inr ⟨e8, e0, hb, by rw [if_neg hb], by omega⟩)))
  have hwm : wt + It.wholes l ≤ 1125899906842624 := by have := HM.out; omega
  have hn63 : n2 ≤ 1125899906842624 := by
    have h1 := It.length_le_wholes l
    rcases SliceAt.split HIS.out with ⟨_, h2⟩ | ⟨_, _, _, h2, _⟩ <;> omega
  rcases hcases with ⟨e8, HH⟩ | ⟨e8, e0, hb, HH⟩ | ⟨e8, e0, hb, HH⟩ | ⟨e8, e0, hb, HH⟩ | ⟨e8, e0, hb, HH⟩
  all_goals
    try (have hbz : decide ((16777215 : Int) < (wt : Int)) = true := by simp; omega)
    try (have hbz : decide ((16777215 : Int) < (wt : Int)) = false := by simp; omega)
    try (have hbz : decide ((16777215 : Int) < (m : Int)) = true := by simp; omega)
    try (have hbz : decide ((16777215 : Int) < (m : Int)) = false := by simp; omega)
    go_enter Try.func69, Try.ntmps69
    go_wp2
    go_loopw [6] (fun i wr => ∃ k m0 e0 : Nat, i = .int .i64 k ∧ k ≤ n2 ∧ Hid (LSt w lb #[.bool true, .slice a 0 c, .slice a2 n2 c2] wr m0 e0) ∧ m0 + It.wholes (l.drop k) ≤ 1125899906842624 ∧ Hid (e0 = 0 → deep < 8) ∧ Hid (lookOn (l.drop k) (deep + 1) (m0, e0) = (It.list l).look deep wt)) (fun i _ => n2 - (intOf i).toNat)
    case atStart =>
      have hk := HK.out
      first
        | exact ⟨0, wt, 21, rfl, Nat.zero_le _, HX.out _ wt 21 ((Chg.refl (fun k => k = lb) w).at1 (i := 1) _) (by simp) (heap_setCell_same _ _ _ _ _ _ hk), hwm, fun h => by omega, by show _ = _; rw [look_list_eq, HH.out]; rfl⟩
        | exact ⟨0, wt, 20, rfl, Nat.zero_le _, HX.out _ wt 20 ((Chg.refl (fun k => k = lb) w).at1 (i := 1) _) (by simp) (heap_setCell_same _ _ _ _ _ _ hk), hwm, fun h => by omega, by show _ = _; rw [look_list_eq, HH.out]; rfl⟩
        | exact ⟨0, wt, 0, rfl, Nat.zero_le _, HX.out _ wt 0 (Chg.refl (fun k => k = lb) w) rfl hk, hwm, fun _ => HH.out.2, by show _ = _; rw [look_list_eq, HH.out.1]; rfl⟩
        | exact ⟨0, m, 20, rfl, Nat.zero_le _, HX.out _ m 20 (((Chg.refl (fun k => k = lb) w).at1 (i := 0) _).at1 (i := 1) _) (by simp) (heap_setCell_same _ _ _ _ _ _ (heap_setCell_same _ _ _ _ _ _ hk)), hmb, fun h => by omega, by show _ = _; rw [look_list_eq, HH.out]; rfl⟩
        | exact ⟨0, m, 0, rfl, Nat.zero_le _, HX.out _ m 0 ((Chg.refl (fun k => k = lb) w).at1 (i := 0) _) (by simp) (heap_setCell_same _ _ _ _ _ _ hk), hmb, fun _ => HH.out.2, by show _ = _; rw [look_list_eq, HH.out.1]; rfl⟩
    case round =>
      obtain ⟨k, m1, e1, rfl, hk, HL, hb1, HD8, HO⟩ := hrel
      have hL := HL.out
      obtain ⟨b0, b1, b2⟩ := cells3 hL.box
      obtain ⟨p0, p1⟩ := cells2 hL.at_
      have hfr := frozen_of_row wr lb 0 _ _ hL.at_
      have hlr : lb < wr.heap.size := (Array.getElem?_eq_some_iff.1 hL.at_).1
      have hsz : w.heap.size < wr.heap.size := (Array.getElem?_eq_some_iff.1 hL.box).1
      have hn2 : n2 = l.length := by
        rcases SliceAt.split HIS.out with ⟨h1, h2⟩ | ⟨_, _, _, h2, _⟩
        · rw [h1, h2]; rfl
        · exact h2
      clear hL
      by_cases hlt : k < n2
      · by_cases he : e1 = 0
        · subst he
          have hki : k < l.length := by omega
          rcases SliceAt.split HIS.out with ⟨h1, h2⟩ | ⟨b, o, rfl, -, -, hFb⟩
          · omega
          have HN2 := Lib.hid hn2
          clear hn2
          have his' : ItemsAt F wr d (.slice (some ⟨b, o, none⟩) n2 c2) l := ItemsAt.carry HIS.out (fun _ _ x => x) (fun g hg hlt' => (HL.out).chg.block g hlt' (fun e => hF (e ▸ hg)))
          obtain ⟨y1, z1, t1, y2, z2, t2, c0, c1, c2', hit⟩ := ItemsAt.cell his' k hki
          obtain ⟨y, hy⟩ : ∃ y, y = l[k] := ⟨_, rfl⟩
          rw [← hy] at c0 hit
          have hdrop : l.drop k = y :: l.drop (k + 1) := by rw [hy]; exact List.drop_eq_getElem_cons hki
          have hbw : m1 + y.whole + It.wholes (l.drop (k + 1)) ≤ 1125899906842624 := by
            rw [hdrop] at hb1; simp only [It.wholes] at hb1; omega
          have HO2 : Hid (lookOn (l.drop (k + 1)) (deep + 1) (y.look (deep + 1) m1) = (It.list l).look deep wt) := by
            have := HO.out
            rwa [hdrop, lookOn_cons] at this
          have hd8 := HD8.out rfl
          clear hy hdrop his' HO hb1
          go_wp2_with fail
          rw [show ((deep : Int) + 1) = ((deep + 1 : Nat) : Int) from rfl]
          refine (HD.out F _ lb y _ _ _ (deep + 1) m1 hit (HL.out).at_ hF (by omega) (by omega)).mono ?_
          rintro e w5 ⟨rfl, hat, hch⟩
          have hle := It.look_le y (deep + 1) m1
          have HL5 : Hid (LSt w lb #[.bool true, .slice a 0 c, .slice (some ⟨b, o, none⟩) n2 c2] w5 (y.look (deep + 1) m1).1 (y.look (deep + 1) m1).2) :=
            ⟨hat, by rw [hch.block _ hsz (fun e => hne e.symm)]; exact (HL.out).box, (HL.out).chg.trans hch (fun _ _ x => x)⟩
          clear hat hch
          go_wp2_with fail
          go_roundw
          case rel =>
            first
              | exact ⟨k + 1, _, _, num_eq (by omega), by omega, HL5, by omega, fun _ => hd8, HO2⟩
              | ((repeat apply Exists.intro); exact ⟨⟨k + 1, _, _, num_eq (by omega), by omega, HL5, by omega, fun _ => hd8, HO2⟩, rfl⟩)
          case measure => simp [intOf]; omega
        · have he' : ((e1 : Int) == 0) = false := by simp; omega
          go_wp2
          go_end0
          have := HO.out
          rw [lookOn_bad _ _ _ _ he] at this
          exact ⟨rfl, by rw [← this]; exact (HL.out).at_, (HL.out).chg⟩
      · go_wp2
        go_end0
        have := HO.out
        rw [List.drop_eq_nil_of_le (by omega), lookOn_nil] at this
        exact ⟨rfl, by rw [← this]; exact (HL.out).at_, (HL.out).chg⟩

end Go.Proofs.Ytndkkgkcbbmnpaa
namespace Go.Pg
/-- nest's encoding, or what is amiss -/
def It.encode (x : It) : List UInt8 × Nat :=
  if (x.look 0 0).2 ≠ 0 then ([], (x.look 0 0).2) else if 16777215 < x.body then ([], 20) else (x.enc, 0)
end Go.Pg
namespace Go.Proofs.Ytndkkgkcbbmnpaa
open Go.RowKit Go.Pg

theorem look_step {d : Nat} (h : LookC d) : LookC (d + 1) := by
  intro F w lb x l v1 v2 deep wt hit hk hF hd hw
  obtain ⟨u1, u2, h1, h2, h3⟩ := hit
  simp only [List.cons.injEq, Value.bool.injEq, and_true] at h1
  obtain ⟨rfl, rfl, rfl⟩ := h1
  obtain ⟨a, c, rfl, -, -, -⟩ := SliceAt.len h2
  cases x with
  | text b =>
    obtain ⟨a2, c2, rfl, -, -, -⟩ := SliceAt.len h3
    exact look_text F w lb b a a2 c c2 deep wt hk hd hw
  | list l =>
    obtain ⟨a2, c2, rfl, -, -, -⟩ := SliceAt.len h3
    exact look_list h F w lb l a a2 c _ c2 deep wt h3 hk hF hd hw
theorem look_any (d : Nat) : LookC d := by
  induction d with
  | zero => intro F w lb x l v1 v2 deep wt h; exact h.elim
  | succ d ih => exact look_step ih

/-- bytes in new memory, and an error's number -/
def Encd (w : World) (r : List UInt8 × Nat) (e : Ending) (w' : World) : Prop :=
  ∃ v', e = .returned (.tuple #[v', .int .i64 r.2]) ∧ OwnAt w' w.heap.size 5 1 byteR v' r.1 ∧ Below w.heap.size w w'

set_option maxRecDepth 100000 in
set_option maxHeartbeats 1000000 in
theorem encode_any (F : Nat → Prop) (w : World) (d : Nat) (x : It) (l : Bool) (v1 v2 : Value) (h : ItemAt F w d [.bool l, v1, v2] x) (hw : x.whole ≤ 70368744177664) :
    Calls Try.prog 41 #[.agg #[.bool l, v1, v2]] w (Encd w x.encode) := by
  obtain ⟨hl, a1, n1, c1, a2, n2, c2, rfl, rfl, -, -⟩ := ItemAt.form h
  have HL := Lib.hid hl
  clear hl
  have h' : ItemAt (fun b => F b ∧ b < w.heap.size) w d [.bool l, .slice a1 n1 c1, .slice a2 n2 c2] x := h.carry (fun b hb hF => ⟨hF, hb⟩) (fun _ _ _ => rfl)
  clear h
  have hbw := It.body_le_whole x
  obtain ⟨W0, hW0⟩ : ∃ W0, W0 = (w.alloc (.cells #[.bool l, .slice a1 n1 c1, .slice a2 n2 c2] 65)).alloc (.cells #[.int .i64 0, .int .i64 0] 93) := ⟨_, rfl⟩
  have hbel0 : Below w.heap.size w W0 := by rw [hW0]; exact Bel.alloc (Bel.alloc (Bel.refl w) _) _
  have hk0 : W0.heap[w.heap.size + 1]? = some (.cells #[.int .i64 0, .int .i64 0] 93 (0, 0)) := by
    rw [hW0]
    have := heap_alloc_new (w.alloc (.cells #[.bool l, .slice a1 n1 c1, .slice a2 n2 c2] 65)) (.cells #[.int .i64 0, .int .i64 0] 93)
    simpa using this
  have hbx0 : W0.heap[w.heap.size]? = some (.cells #[.bool l, .slice a1 n1 c1, .slice a2 n2 c2] 65 (0, 0)) := by
    rw [hW0, Below.heap_alloc _ _ _ (by simp)]; exact heap_alloc_new w _
  have hs0 : W0.heap.size = w.heap.size + 2 := by rw [hW0]; simp
  have HW0 := Lib.hid hW0
  have HK0 := Lib.hid hk0
  have HBX := Lib.hid hbx0
  have HS0 := Lib.hid hs0
  clear hk0 hbx0 hs0 hW0
  go_enter Try.func41, Try.ntmps41
  go_wp2_with fail
  rw [← HW0.out]
  refine (look_any d (fun b => F b ∧ b < w.heap.size) _ (w.heap.size + 1) x _ _ _ 0 0 ?_ HK0.out (by omega) (by omega) (by omega)).mono ?_
  · exact h'.below hbel0
  rintro e w1 ⟨rfl, hat, hch⟩
  have hs1 := hch.size
  have hs0 := HS0.out
  have hbx1 : w1.heap[w.heap.size]? = some (.cells #[.bool l, .slice a1 n1 c1, .slice a2 n2 c2] 65 (0, 0)) := by
    rw [hch.block _ (by omega) (by omega)]; exact HBX.out
  have hbel1 : Below w.heap.size w w1 := hbel0.trans (hch.toBelowAt (by omega) (fun k hk => by omega))
  obtain ⟨m, e0, hr⟩ : ∃ m e0, x.look 0 0 = (m, e0) := ⟨_, _, rfl⟩
  rw [hr] at hat
  have HR := Lib.hid hr
  clear hr hch hs1 hs0 hbel0
  obtain ⟨b0, b1, b2⟩ := cells3 hbx1
  obtain ⟨p0, p1⟩ := cells2 hat
  have HB1 := Lib.hid hbel1
  have HX1 := Lib.hid hbx1
  clear hbel1 hbx1 hat
  by_cases he : e0 = 0
  · subst he
    go_wp2_with fail
    refine (body_any d (fun b => F b ∧ b < w.heap.size) _ x _ _ _ (h'.carry (fun _ _ x => x) (fun b hb _ => (HB1.out).block b hb.2)) (by omega)).mono ?_
    rintro e w2 ⟨rfl, hb2⟩
    obtain ⟨n, hn⟩ : ∃ n, n = x.body := ⟨_, rfl⟩
    rw [← hn] at hbw ⊢
    have HN := Lib.hid hn
    clear hn
    by_cases hbig : 16777215 < n
    · go_wp2
      go_ret2
      exact ⟨.slice none 0 0, by unfold It.encode; rw [HR.out, ← HN.out]; simp [hbig], by unfold It.encode; rw [HR.out, ← HN.out]; simp [hbig]; exact OwnAt.nil _ _ _ _ _, Bel.call HB1.out hb2⟩
    · have hbx2 : w2.heap[w.heap.size]? = some (.cells #[.bool l, .slice a1 n1 c1, .slice a2 n2 c2] 65 (0, 0)) := by
        rw [hb2.block _ (Array.getElem?_eq_some_iff.1 HX1.out).1]; exact HX1.out
      obtain ⟨g0, g1, g2⟩ := cells3 hbx2
      have HB2 := Lib.hid (Bel.call HB1.out hb2)
      have hsz2 := (HB2.out).size
      clear hb2 hbx2
      go_wp2_with fail
      refine (write_any d (fun b => F b ∧ b < w.heap.size) w2 w.heap.size x _ _ _ (.slice none 0 0) [] hsz2 (fun b hb => hb.2) (h'.carry (fun _ _ x => x) (fun b hb _ => (HB2.out).block b hb.2)) (OwnAt.nil _ _ _ _ _) (by simpa using hw)).mono ?_
      rintro e w3 ⟨v', rfl, ho, hg, hm⟩
      go_wp2
      go_ret2
      refine ⟨v', by unfold It.encode; rw [HR.out, ← HN.out]; simp [hbig], by unfold It.encode; rw [HR.out, ← HN.out]; simp [hbig]; simpa using ho, (HB2.out).grown hg hsz2 (fun k hk => by simp [Value.ownBlock] at hk)⟩
  · have he' : ((e0 : Int) == 0) = false := by simp; omega
    have he2 : ((e0 : Int) != 0) = true := by simp; omega
    go_wp2
    go_region
    go_wp2
    go_ret2
    exact ⟨.slice none 0 0, by unfold It.encode; rw [HR.out]; simp [he], by unfold It.encode; rw [HR.out]; simp [he]; exact OwnAt.nil _ _ _ _ _, (HB1.out).drew⟩

end Go.Proofs.Ytndkkgkcbbmnpaa
