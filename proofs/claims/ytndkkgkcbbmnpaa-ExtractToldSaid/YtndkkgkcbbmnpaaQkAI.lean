/-
  Contract of extract.sorted: what was handed in, each once, rising.
  Two unlike texts of one digest: what is sought, in plain words; a map of digests, as the walk holds it; bytes.Equal.
  Contract of pergolaref01.Put.
-/
import Derived.Test.YtndkkgkcbbmnpaaQkAH
import Derived.Maps.OwnSet
import Derived.Maps.OwnOps
import Derived.DeepKeys4
namespace Go.Pg
open Go.RowKit
theorem rising_of (ts ss l : List (List UInt8)) (hp : ts.Perm ss) (hs : ts.Pairwise fun x y => ¬ y < x) (hnd : ss.Nodup) (hm : ∀ x, x ∈ ss ↔ x ∈ l) : ts.Pairwise (· < ·) ∧ ∀ x, x ∈ ts ↔ x ∈ l := by
  refine ⟨?_, fun x => (hp.mem_iff).trans (hm x)⟩
  have hnd' : ts.Nodup := hp.nodup_iff.2 hnd
  exact (hs.and hnd').imp fun {a b} h => by
    by_cases h1 : a < b
    · exact h1
    · exact absurd (List.le_antisymm (List.not_lt.1 h.1) (List.not_lt.1 h1)) h.2
end Go.Pg
namespace Go.Proofs.Ytndkkgkcbbmnpaa
open Go.RowKit Go.Pg
open Go.Proofs (encStr)

/-- rising texts, the same as those of l, in memory of their own -/
def SortD (w : World) (l : List (List UInt8)) (e : Ending) (w' : World) : Prop :=
  ∃ a n c ts, e = .returned (.slice a n c) ∧ RowsAt (fresh w) w' (.slice a n c) ts ∧ (ts.Pairwise (· < ·) ∧ ∀ x, x ∈ ts ↔ x ∈ l) ∧ Below w.heap.size w w'

set_option maxRecDepth 100000 in
set_option maxHeartbeats 8000000 in
theorem sorted_any (F : Nat → Prop) (w : World) (a : Option Addr) (n c : Nat) (l : List (List UInt8)) (h : RowsAt F w (.slice a n c) l) (hlen : n ≤ 1099511627776) (hx : ∀ x ∈ l, x.length ≤ 140737488351232) :
    Calls Try.prog 66 #[.slice a n c] w (SortD w l) := by
  have hn : n = l.length := by
    obtain ⟨a', c', hv, -⟩ := SliceAt.len h
    simp only [Value.slice.injEq] at hv
    exact hv.2.1
  obtain ⟨i0, hi, hz0, hz1, hz2⟩ := info_parts infoRow
  have hmm := @run_makeMap Try.prog
  have HN := Lib.hid hn
  have HX := Lib.hid hx
  have HH := Lib.hid h
  clear hn hx h
  go_enter Try.func66, Try.ntmps66
  go_wp2
  go_loopw [11] (fun i wr => ∃ k : Nat, k ≤ n ∧ i = .int .i64 k ∧ Hid (StrMap wr w.heap.size k (l.take k)) ∧ Hid (Below w.heap.size w wr)) (fun i _ => n - (intOf i).toNat)
  case atStart => exact ⟨0, Nat.zero_le _, rfl, Lib.hid (StrMap.made w), Lib.hid (Bel.alloc (Bel.refl w) _)⟩
  case round =>
    obtain ⟨k, hk, rfl, HM, HB⟩ := hrel
    have hN := HN.out
    by_cases hlt : k < n
    · rcases SliceAt.split HH.out with ⟨_, h0⟩ | ⟨b, o, rfl, -, -, -⟩
      · omega
      have hkl : k < l.length := by omega
      obtain ⟨u, c0, t0⟩ := RowsAt.cell (RowsAt.below HH.out HB.out) k hkl
      have htk : l.take (k + 1) = l.take k ++ [l[k]] := List.take_succ_eq_append_getElem hkl
      have hxl := HX.out l[k] (List.getElem_mem _)
      obtain ⟨x, hxx⟩ : ∃ x, x = l[k] := ⟨_, rfl⟩
      rw [← hxx] at htk hxl t0
      obtain ⟨au, cu, rfl, -, -, -⟩ := SliceAt.len t0
      have s1 := run_string_at (P := Try.prog) t0 25 5 9 Try.underlying25 Try.underlying5 Try.underlying9
      obtain ⟨m, hm⟩ : ∃ m, m = x.length := ⟨_, rfl⟩
      rw [← hm] at c0 s1
      have HTK := Lib.hid htk
      have HXL := Lib.hid hxl
      have hkz : (0 : Int) ≤ (k : Int) := by omega
      have hkn : (k : Int) < (n : Int) := by omega
      clear t0 htk hxl hxx hm hN
      go_wp2_with (at_mapUpdate; refine wpL_put_str (.tmp 15) (.tmp 17) (.const (.int .i64 1)) w.heap.size k (l.take k) x ⟨rfl, rfl, rfl, rfl, rfl⟩ ⟨HM.out, (show x.length ≤ maxLen by have := HXL.out; unfold maxLen; omega), (show k < maxLen by unfold maxLen; omega)⟩ ?_; intro w2 hm2 hg2)
      have HM2 : Hid (StrMap w2 w.heap.size (k + 1) (l.take (k + 1))) := Lib.hid (by rw [HTK.out]; exact hm2)
      have HB2 := Lib.hid (HB.out.grown hg2 HB.out.size (fun j hj => by cases hj; exact Nat.le_refl _))
      clear hm2 hg2
      go_roundw
      case rel => exact ⟨k + 1, by omega, num_eq (by omega), HM2, HB2⟩
      case measure => simp [intOf]; omega
    · obtain rfl : n = k := by omega
      obtain ⟨wo, rfl⟩ : ∃ W, W = wr := ⟨_, rfl⟩
      obtain ⟨D, hD1, hD2⟩ := HM.out
      have hD2' : ∀ x, Maps.has D (.string x) = decide (x ∈ l) := fun x => by rw [hD2 x, List.take_of_length_le (by omega)]
      have hDs := hD1.size_le
      have hBlt := hD1.lt
      obtain ⟨W1, hW1⟩ : ∃ W : World, W = wo.alloc (.cells #[.slice none 0 0] 22) := ⟨_, rfl⟩
      have hk1 : W1.heap[wo.heap.size]? = some (.cells #[.slice none 0 0] 22 (0, 0)) := by rw [hW1]; exact heap_alloc_new wo _
      have hs1 : W1.heap.size = wo.heap.size + 1 := by rw [hW1]; simp
      have hb1 : Below w.heap.size w W1 := by rw [hW1]; exact Bel.alloc HB.out _
      have hown1 : W1.ownsMap Try.prog 9 (plainElem Try.prog 3) w.heap.size n D := by rw [hW1]; exact hD1.alloc _
      have HD2 := Lib.hid hD2'
      have HDS := Lib.hid hDs
      have HBLT := Lib.hid hBlt
      have HW1 := Lib.hid hW1
      have HK1 := Lib.hid hk1
      have HS1 := Lib.hid hs1
      have HB1 := Lib.hid hb1
      have HOWN1 := Lib.hid hown1
      clear hD1 hD2 hD2' hDs hBlt hW1 hk1 hs1 hb1 hown1 hN hlt
      go_wp2_with ((try rw [← HW1.out]); at_range; refine wpList_range_own _ rfl _ 109 rfl 9 3 strKeyed Try.underlying109 _ w.heap.size n D rfl HOWN1.out ?next)
      case next =>
      intro w0 hrg0 hg0 hs0
      rw [HS1.out] at hrg0 ⊢
      have hw0 : w0.heap.size = wo.heap.size + 2 := by rw [hs0, HS1.out]
      have HRG0 := Lib.hid hrg0
      have HK0 := Lib.hid ((hg0.block wo.heap.size (by rw [HS1.out]; omega) (by simp)).trans HK1.out)
      have HB0 := Lib.hid (HB1.out.grown hg0 HB1.out.size (fun j hj => by cases hj))
      have HS0 := Lib.hid hw0
      clear hrg0 hg0 hs0 hw0
      go_wp2_with fail
      go_loopw [7] (fun _ wz => ∃ (left : Lit → Bool) (cnt : Nat) (ss : List (List UInt8)) (v2 : Value), Hid (wz.ranges Try.prog 9 (plainElem Try.prog 3) w.heap.size (wo.heap.size + 1) n D left cnt) ∧ Hid (Collected D left ss) ∧ Hid (ss.length + cnt ≤ Maps.size D) ∧
          Hid (wz.heap[wo.heap.size]? = some (.cells #[v2] 22 (0, 0))) ∧ Hid (OwnList rowR (fun b => w0.heap.size ≤ b) w0.heap.size wz 25 1 v2 ss) ∧ Hid (Below w.heap.size w wz) ∧ Hid (w0.heap.size ≤ wz.heap.size)) (fun _ wz => wz.rangeLeft w.heap.size (wo.heap.size + 1))
      case atStart => exact ⟨_, _, [], _, HRG0, Lib.hid (Collected.start D), Lib.hid (by simp), HK0, Lib.hid OwnList.nil, HB0, Lib.hid (Nat.le_refl _)⟩
      case round =>
        obtain ⟨left, cnt, ss, v2, HRG, HC, HCS, HK2, HO, HBZ, HSZ⟩ := hrel
        obtain ⟨av, cv, hv2, -, -, -⟩ := HO.out.len
        obtain ⟨q, hq⟩ : ∃ q, q = ss.length := ⟨_, rfl⟩
        rw [← hq] at hv2
        have HQ := Lib.hid hq
        clear hq
        subst hv2
        have hqb : q ≤ 1099511627776 := by have := HCS.out; have := HDS.out; have := HQ.out; omega
        have c6 := cells1 HK2.out
        have f6 := frozen_of_row wr wo.heap.size 0 _ _ HK2.out
        go_wp2_with (at_next; refine wpList_next_ranges _ rfl _ rfl 9 strKeyed (plainElem Try.prog 3) encStr (Value.int .i64) (fun key kl hk => by obtain ⟨x, hx, _⟩ := Maps.keyOf_str Try.underlying9 hk; exact ⟨x, hx⟩) (fun v y hv => by obtain ⟨c, rfl, _⟩ := plainElem_int_inv Try.underlying3 hv; exact ⟨c, rfl⟩) w.heap.size (wo.heap.size + 1) n D left cnt rfl HRG.out ?done ?more)
        case done =>
          intro hc0 hl0
          have hmem : ∀ x, x ∈ ss ↔ x ∈ l := fun x => by
            rw [HC.out.2 x, HD2.out x, hl0]; simp
          have hnd := HC.out.1
          have HMEM := Lib.hid hmem
          have HND := Lib.hid hnd
          clear hl0 hmem hnd hc0
          have hbox := HK2.out
          rcases Option.eq_none_or_eq_some av with rfl | ⟨ad, rfl⟩
          · have hq0 : q = 0 ∧ cv = 0 := by
              obtain ⟨a', c', hv, h1, h2, h3⟩ := HO.out.len
              simp only [Value.slice.injEq] at hv
              obtain ⟨rfl, h4, rfl⟩ := hv
              have := h3 rfl
              have := HQ.out
              omega
            obtain ⟨rfl, rfl⟩ := hq0
            have hss : ss = [] := List.eq_nil_of_length_eq_zero HQ.out.symm
            subst hss
            go_wp2_with fail
            refine (sortNil_any wr _).mono ?_
            rintro e w3 ⟨rfl, hb3⟩
            have c7 := cell_below hb3 c6
            have HB3 := Lib.hid (Bel.call HBZ.out hb3)
            clear hb3 c6 f6 hbox
            go_wp2_with fail
            go_ret
            exact ⟨none, 0, 0, [], rfl, SliceAt.nil _ _ _ _, ⟨List.Pairwise.nil, HMEM.out⟩, HB3.out⟩
          · have hform : ∃ g, ad = ⟨g, 0, none⟩ ∧ w0.heap.size ≤ g := by
              obtain ⟨F', -, -, xs, ⟨-, hh⟩, -⟩ := HO.out
              rcases hh with ⟨hh, -⟩ | ⟨g, cap, cur, hh, h5, -⟩
              · cases hh
              · simp only [Value.slice.injEq, Option.some.injEq] at hh
                exact ⟨g, hh.1, h5⟩
            obtain ⟨g, rfl, hg⟩ := hform
            have hne : wo.heap.size ≠ g := by have := HS0.out; omega
            have hsort := sort_any (fun b => w0.heap.size ≤ b) w0.heap.size wr g q cv wo.heap.size ss hbox hne HO.out (by have := HQ.out; omega)
            have HSORT := Lib.hid hsort
            clear hsort hbox
            go_wp2_with fail
            refine HSORT.out.mono ?_
            rintro e w3 ⟨rfl, ts, hp, hs, ho, hch⟩
            obtain ⟨hr1, hr2⟩ := rising_of ts ss l hp hs HND.out HMEM.out
            have hbx := (hch.block wo.heap.size (Array.getElem?_eq_some_iff.1 HK2.out).1 hne).trans HK2.out
            have c7 := cells1 hbx
            have hrows : RowsAt (fresh w) w3 (.slice (some ⟨g, 0, none⟩) q cv) ts := ho.at carriedRow (fun b hb _ => by have h1 : w0.heap.size ≤ b := hb; have h2 := HS0.out; have h3 := HB.out.size; show w.heap.size ≤ b; omega) (fun b hb _ => by have h2 := HS0.out; have h3 := HB.out.size; show w.heap.size ≤ b; omega) (by decide)
            have HROWS := Lib.hid hrows
            have HR1 := Lib.hid hr1
            have HR2 := Lib.hid hr2
            have HB3 : Hid (Below w.heap.size w w3) := Lib.hid (HBZ.out.trans (hch.toBelowAt HBZ.out.size (fun k hk e => by have h2 := HS0.out; have h3 := HB.out.size; omega)))
            clear hp hs ho hch hr1 hr2 hbx hrows c6 f6
            go_wp2_with fail
            go_ret
            exact ⟨_, _, _, ts, rfl, HROWS.out, ⟨HR1.out, HR2.out⟩, HB3.out⟩
        case more =>
          intro x ci kl yd yp w2 cnt2 hkey hlk hv hat hrg2 hlt2 hg2 hs2 hen
          obtain ⟨x', ex, rfl, hxm⟩ := Maps.keyOf_str Try.underlying9 hkey
          obtain rfl : x = x' := encStr_inj ex
          have hC2 := HC.out.step hlk hat
          have hown := HO.out.own
          have hblk2 : ∀ k, k < wr.heap.size → k ≠ wo.heap.size + 1 → w2.heap[k]? = wr.heap[k]? := fun k hk hn => hg2.block k hk (fun e => hn (by simpa using e))
          have hb2 : Below w.heap.size w w2 := HBZ.out.grown hg2 HBZ.out.size (fun j hj => by cases hj; have := HB.out.size; omega)
          have hk2 := (hblk2 wo.heap.size (Array.getElem?_eq_some_iff.1 HK2.out).1 (by omega)).trans HK2.out
          have hO2 := HO.out.carry carriedRow (W' := w2) (by rw [hs2]; exact Nat.le_refl _) (fun b hb hlt => hblk2 b hlt (by have := HS0.out; have h1 : w0.heap.size ≤ b := hb; omega)) (fun g hg => hblk2 g (hown g hg).2 (by have := (hown g hg).1; have := HS0.out; omega))
          have hsz2 : w0.heap.size ≤ w2.heap.size := by rw [hs2]; exact HSZ.out
          have hcl2 := hrg2.left_eq
          have hcl1 := HRG.out.left_eq
          have c62 := cells1 hk2
          have f62 := frozen_of_row w2 wo.heap.size 0 _ _ hk2
          have HC2 := Lib.hid hC2
          have HB2 := Lib.hid hb2
          have HK22 := Lib.hid hk2
          have HO2 := Lib.hid hO2
          have HSZ2 := Lib.hid hsz2
          have HRG2 := Lib.hid hrg2
          have HLT2 := Lib.hid hlt2
          have HXM := Lib.hid hxm
          have hen' : (Instr.entry (.pointer (some ⟨wo.heap.size + 1, 0, none⟩))).run Try.prog w2 = .ok (.tuple #[.string ⟨x.toArray⟩, .int .i64 ci]) w2 := hen
          clear hen hkey hlk hv hat hrg2 hlt2 hg2 hs2 ex hxm hC2 hblk2 hb2 hk2 hO2 hsz2 c6 f6 hcl2 hcl1
          go_wp2_with ((with_reducible refine wpL_bytes_of (.tmp 26) x ?_ HXM.out ?nextb); (exact ⟨rfl, rfl, rfl⟩))
          case nextb =>
          intro c1 w3 hb3 hby
          obtain ⟨m, hm⟩ : ∃ m, m = x.length := ⟨_, rfl⟩
          rw [← hm] at hby ⊢
          have hO3 := HO2.out.call carriedRow hb3
          have hsz3 := hb3.size
          have hown2 := HO2.out.own
          obtain ⟨R, hR1, hRo, hRs, hRn⟩ := hO3.push carriedRow (H := fun b => w2.heap.size ≤ b) (cs := [.slice (some ⟨w2.heap.size, 0, none⟩) m c1]) (x := x) ⟨_, rfl, hby⟩ rfl (by decide) (fun b _ hb => ⟨Nat.le_trans HSZ2.out hb, fun e => by have := (hown2 b e).2; omega⟩) 25
          have hle : (ss.length + [x].length) * 24 ≤ 140737488355328 := by have := HQ.out; simp; omega
          have hbase : w0.heap.size ≤ (w3.alloc (.cells [.slice (some ⟨w2.heap.size, 0, none⟩) m c1].toArray 25)).heap.size := by have := HSZ2.out; simp; omega
          have hk3 := (hb3.block wo.heap.size (Array.getElem?_eq_some_iff.1 HK22.out).1).trans HK22.out
          have c63 := cells1 hk3
          have f63 := frozen_of_row w3 wo.heap.size 0 _ _ hk3
          have hrg3 := HRG2.out.kept (row := none) (w' := w3) ⟨hb3.os, hb3.tape, hb3.output, hb3.size, fun k hk _ => hb3.block k hk⟩ (by simp) (by simp)
          have HRN := Lib.hid hRn
          have HRO := Lib.hid hRo
          have HRS := Lib.hid hRs
          have HR1 := Lib.hid hR1
          have HK3 := Lib.hid hk3
          have HB3 := Lib.hid (Bel.call HB2.out hb3)
          have HRG3 := Lib.hid hrg3
          have HLE := Lib.hid hle
          have HBASE := Lib.hid hbase
          have HSZ3 := Lib.hid hsz3
          clear hb3 hby hO3 hsz3 hRn hRo hRs hR1 hk3 hrg3 hm c62 f62 hen' hle hbase
          go_wp2_with (at_builtin; refine wpList_append_at rfl (.tmp 25) (.tmp 28) 22 rfl w0.heap.size 25 i0 (.slice none 0 0) 1 24 underlyingRows hi hz0 hz1 hz2 rfl (by decide) (by decide) HR1.out (.slice av q cv) ss rfl HRO.out _ [x] (fun _ => True) rfl HRS.out HLE.out HBASE.out ?nextc)
          case nextc =>
          intro v' w4 ho hg hm
          have hO4 := HRN.out _ _ ho hg hm
          obtain ⟨a4, c4, hv4, -, -, -⟩ := hO4.len
          obtain ⟨q4, hq4⟩ : ∃ q4, q4 = (ss ++ [x]).length := ⟨_, rfl⟩
          rw [← hq4] at hv4
          subst hv4
          have hblk4 : ∀ k, k < w3.heap.size → k < w0.heap.size → w4.heap[k]? = w3.heap[k]? := fun k hk hn => by
            rw [hg.block k (by simp; omega) (fun e => by have := (hown2 k e.symm).1; omega)]
            exact Below.heap_alloc _ _ _ hk
          have hs4 := hg.size
          simp only [World.size_alloc] at hs4
          have hkb := (Array.getElem?_eq_some_iff.1 HK3.out).1
          have hk4 := (hblk4 wo.heap.size hkb (by have := HS0.out; omega)).trans HK3.out
          have c64 := cells1 hk4
          have f64 := frozen_of_row w4 wo.heap.size 0 _ _ hk4
          have hb4 : Below w.heap.size w w4 := (Bel.alloc HB3.out _).grown hg (by have := HB3.out.size; simp; omega) (fun k hk => by have h1 := (hown2 k hk).1; have h2 := HS0.out; have h3 := HB.out.size; omega)
          have hrg4 := (HRG3.out.alloc (.cells [.slice (some ⟨w2.heap.size, 0, none⟩) m c1].toArray 25)).kept hg (fun e => by have h1 := (hown2 _ e.symm).1; have h2 := HS0.out; have h3 := HBLT.out; omega) (fun e => by have h1 := (hown2 _ e.symm).1; have h2 := HS0.out; omega)
          have hset := heap_setCell_same w4 wo.heap.size 0 _ _ (.slice a4 q4 c4) hk4
          have hO5 := hO4.carry carriedRow (W' := w4.setCell ⟨wo.heap.size, 0, none⟩ (.slice a4 q4 c4)) (by simp) (fun b hb _ => Below.heap_setCell _ _ _ _ (by show b ≠ wo.heap.size; have h1 : w0.heap.size ≤ b := hb; have h2 := HS0.out; omega)) (fun k hk => Below.heap_setCell _ _ _ _ (by show k ≠ wo.heap.size; have h1 := (hO4.own k hk).1; have h2 := HS0.out; omega))
          have hrg5 := hrg4.kept (w' := w4.setCell ⟨wo.heap.size, 0, none⟩ (.slice a4 q4 c4)) (row := some wo.heap.size) ⟨rfl, rfl, rfl, by simp, fun k hk hn => Below.heap_setCell _ _ _ _ (by show k ≠ wo.heap.size; exact fun e => hn (by rw [e]))⟩ (by simp; have := HBLT.out; omega) (by simp)
          have hb5 : Below w.heap.size w (w4.setCell ⟨wo.heap.size, 0, none⟩ (.slice a4 q4 c4)) := hb4.setCell (by show w.heap.size ≤ wo.heap.size; exact HB.out.size) _
          have HO5 := Lib.hid hO5
          have HRG5 := Lib.hid hrg5
          have HB5 := Lib.hid hb5
          have HSET := Lib.hid hset
          have HSZ5 : Hid (w0.heap.size ≤ (w4.setCell ⟨wo.heap.size, 0, none⟩ (.slice a4 q4 c4)).heap.size) := Lib.hid (by have := HSZ2.out; have := HSZ3.out; simp; omega)
          clear ho hg hm hO4 hblk4 hs4 hkb hk4 hb4 hrg4 hset hO5 hrg5 hb5 c63 f63 hq4
          go_wp2_with fail
          go_roundw
          case rel => exact ⟨_, cnt2, ss ++ [x], _, HRG5, HC2, Lib.hid (by have := HCS.out; have := HLT2.out; simp; omega), HSET, HO5, HB5, HSZ5⟩
          case measure => rw [HRG5.out.left_eq, HRG.out.left_eq]; exact HLT2.out
end Go.Proofs.Ytndkkgkcbbmnpaa
namespace Go.Pg
open Go.RowKit
/-- the place of the first text of a digest -/
def firstOf (l : List (List UInt8)) (d : List UInt8) : Option Nat := l.findIdx? fun x => decide (digestOf x = d)
/-- pre: the texts that have been met; the first one of the rest that is unlike the first one of its digest, and that one -/
def clashFrom : List (List UInt8) → List (List UInt8) → Option (List UInt8 × List UInt8)
  | _, [] => none
  | pre, x :: r =>
    match firstOf pre (digestOf x) with
    | none => clashFrom (pre ++ [x]) r
    | some j => if pre.getD j [] = x then clashFrom (pre ++ [x]) r else some (pre.getD j [], x)
def clash (l : List (List UInt8)) : Option (List UInt8 × List UInt8) := clashFrom [] l
theorem firstOf_snoc (l : List (List UInt8)) (x d : List UInt8) : firstOf (l ++ [x]) d = (firstOf l d).or (if digestOf x = d then some l.length else none) := by
  unfold firstOf
  rw [List.findIdx?_append]
  simp only [List.findIdx?_cons, List.findIdx?_nil]
  by_cases h : digestOf x = d <;> simp [h]
theorem firstOf_some (l : List (List UInt8)) (d : List UInt8) (j : Nat) (h : firstOf l d = some j) : ∃ hj : j < l.length, digestOf l[j] = d ∧ ∀ k, (hk : k < j) → digestOf (l[k]'(by omega)) ≠ d := by
  unfold firstOf at h
  rw [List.findIdx?_eq_some_iff_getElem] at h
  obtain ⟨h1, h2, h3⟩ := h
  exact ⟨h1, by simpa using h2, fun k hk => by simpa using h3 k hk⟩
theorem firstOf_none (l : List (List UInt8)) (d : List UInt8) : firstOf l d = none ↔ ∀ x ∈ l, digestOf x ≠ d := by
  unfold firstOf
  rw [List.findIdx?_eq_none_iff]
  simp
theorem clashFrom_next (l : List (List UInt8)) (k : Nat) (h : k < l.length) : clashFrom (l.take k) (l.drop k) =
    match firstOf (l.take k) (digestOf l[k]) with
    | none => clashFrom (l.take (k + 1)) (l.drop (k + 1))
    | some j => if l.getD j [] = l[k] then clashFrom (l.take (k + 1)) (l.drop (k + 1)) else some (l.getD j [], l[k]) := by
  rw [List.drop_eq_getElem_cons h, List.take_succ_eq_append_getElem h]
  simp only [clashFrom]
  cases hf : firstOf (l.take k) (digestOf l[k]) with
  | none => rfl
  | some j =>
    obtain ⟨hj, -⟩ := firstOf_some _ _ _ hf
    rw [List.length_take] at hj
    have : (l.take k).getD j [] = l.getD j [] := by
      rw [List.getD_eq_getElem?_getD, List.getD_eq_getElem?_getD, List.getElem?_take, if_pos (by omega)]
    simp only [this]
theorem clashFrom_end (l : List (List UInt8)) : clashFrom (l.take l.length) (l.drop l.length) = none := by
  rw [List.drop_length]; rfl

/-! ## Values themselves as what a map's elements read as -/
def heldR (v : Value) : Option (DataW Value × List MemPlace) := some (.held v, [])
end Go.Pg
namespace Go.Proofs.Ytndkkgkcbbmnpaa
open Go.RowKit Go.Pg
open Go.Maps (Keyed)

theorem laidOutX : laidOutB Try.prog = true := by kernel_rfl
theorem digKeyed : Keyed Try.prog 37 := Keyed.of_law (deep_law_laid laidOutX (m := 2) (by omega) (k := 37) (of_decide_eq_true (by kernel_rfl)) (by kernel_rfl) (by kernel_rfl))
theorem digKey (d : List UInt8) (hd : d.length = 32) : ∃ kl, keyOf Try.prog 37 (.agg (cellsOf d)) = some kl := by
  obtain ⟨m, hm⟩ : ∃ m, Try.prog.types.size + 1 = m + 2 := ⟨Try.prog.types.size - 1, by have : 1 ≤ Try.prog.types.size := of_decide_eq_true (by kernel_rfl); omega⟩
  have hu := underlyingDig
  have c32 : Try.prog.cellsOf 37 = 32 := by kernel_rfl
  have c1 : Try.prog.cellsOf 5 = 1 := by kernel_rfl
  have hk : Try.prog.keyType 37 = true := by kernel_rfl
  have hl : (cellsOf d).toList.length = 32 := by simp [cellsOf, hd]
  have hf : (Value.agg (cellsOf d)).formed Try.prog 37 = true := by simp [Value.formed, hu, c32, cellsOf_size, hd]
  have hone : ∀ i, i < 32 → ∃ x, Try.prog.keyLits (m + 1) 5 (((cellsOf d).toList.drop i).take 1) = some x := fun i hi => by
    obtain ⟨b, hb⟩ : ∃ b : UInt8, ((cellsOf d).toList.drop i).take 1 = [.int .u8 (b.toNat : Int)] := by
      refine ⟨d[i]'(by omega), ?_⟩
      have e : (cellsOf d).toList = d.map fun x => Value.int .u8 (x.toNat : Int) := by simp [cellsOf]
      rw [e, List.drop_eq_getElem_cons (by simp; omega)]
      simp
    rw [hb]
    refine ⟨[.int .u8 (b.toNat : Int)], ?_⟩
    have hw : (Lit.int .u8 (b.toNat : Int)).wf = true := by
      have := b.toNat_lt
      simp [Lit.wf, IntKind.min, IntKind.max, IntKind.signed, IntKind.bits]; omega
    simp [Program.keyLits, Try.underlying5, hw]
  have hmap : ∃ xs, (List.range 32).mapM (fun i => Try.prog.keyLits (m + 1) 5 (((cellsOf d).toList.drop (i * 1)).take 1)) = some xs := by
    have : ∀ l : List Nat, (∀ i ∈ l, i < 32) → ∃ xs, l.mapM (fun i => Try.prog.keyLits (m + 1) 5 (((cellsOf d).toList.drop (i * 1)).take 1)) = some xs := by
      intro l
      induction l with
      | nil => intro _; exact ⟨[], rfl⟩
      | cons i r ih =>
        intro h
        obtain ⟨x, hx⟩ := hone i (h i (List.mem_cons_self ..))
        obtain ⟨xs, hxs⟩ := ih fun j hj => h j (List.mem_cons_of_mem _ hj)
        refine ⟨x :: xs, ?_⟩
        rw [List.mapM_cons, Nat.mul_one, hx, hxs]
        rfl
    exact this _ fun i hi => List.mem_range.1 hi
  obtain ⟨xs, hxs⟩ := hmap
  refine ⟨.string (keyBytes xs.flatten), ?_⟩
  unfold keyOf
  rw [hu]
  simp only [hk, hf, Bool.and_self, if_true]
  rw [hm]
  have hkl : Try.prog.keyLits (m + 2) 37 (Value.agg (cellsOf d)).cells.toList = some xs.flatten := by
    show Try.prog.keyLits (m + 2) 37 (cellsOf d).toList = some xs.flatten
    unfold Program.keyLits
    rw [hu]
    simp only [c1, c32, hl, if_true, hxs, Option.map_some]
  rw [hkl]
  rfl
theorem digKey_ne {d d' : List UInt8} {k k' : Lit} (h : keyOf Try.prog 37 (.agg (cellsOf d)) = some k) (h' : keyOf Try.prog 37 (.agg (cellsOf d')) = some k') (hne : d' ≠ d) : k' ≠ k := by
  rintro rfl
  have := digKeyed.inj h h'
  simp only [Value.agg.injEq] at this
  refine hne ?_
  have h2 : ∀ a b : List UInt8, cellsOf a = cellsOf b → a = b := fun a b hab => by
    have h3 : a.map (fun x : UInt8 => Value.int .u8 (x.toNat : Int)) = b.map fun x : UInt8 => Value.int .u8 (x.toNat : Int) := by simpa [cellsOf] using hab
    refine (List.map_inj_right (fun x y e => ?_)).1 h3
    simp only [Value.int.injEq, true_and, Int.ofNat_inj] at e
    exact UInt8.toNat_inj.1 e
  exact (h2 _ _ this).symm

/-- block b is a map of digests that tells f -/
def Known (w : World) (b n : Nat) (f : List UInt8 → Option Value) : Prop :=
  ∃ D : DataW Value, w.ownsMap Try.prog 37 heldR b n D ∧ ∀ d kl, keyOf Try.prog 37 (.agg (cellsOf d)) = some kl → Maps.has D kl = (f d).isSome ∧ ∀ v z, f d = some v → D.atKey kl z = .held v
theorem Known.made (w : World) : Known (w.alloc (.map #[] 0)) w.heap.size 0 fun _ => none :=
  ⟨.map [], World.ownsMap_made _ _ _ _, fun d kl _ => ⟨rfl, fun v z h => by cases h⟩⟩
theorem Known.kept {w w' : World} {b n : Nat} {f : List UInt8 → Option Value} {row : Option Nat} (h : Known w b n f) (hg : w.grownBy w' row) (hne : some b ≠ row) : Known w' b n f :=
  let ⟨D, h1, h2⟩ := h; ⟨D, h1.kept hg hne, h2⟩
theorem Known.below {w w' : World} {b n : Nat} {f : List UInt8 → Option Value} (h : Known w b n f) (hb : Below w.heap.size w w') : Known w' b n f :=
  h.kept (row := none) ⟨hb.os, hb.tape, hb.output, hb.size, fun k hk _ => hb.block k hk⟩ (by simp)
theorem Known.ext {w : World} {b n : Nat} {f g : List UInt8 → Option Value} (h : Known w b n f) (he : ∀ d, d.length = 32 → f d = g d) : Known w b n g := by
  obtain ⟨D, h1, h2⟩ := h
  refine ⟨D, h1, fun d kl hk => ?_⟩
  have hd : d.length = 32 := by
    unfold keyOf at hk
    rw [underlyingDig] at hk
    simp only at hk
    split at hk
    · rename_i hc
      simp only [Bool.and_eq_true] at hc
      have h3 := hc.2
      have c32 : Try.prog.cellsOf 37 = 32 := by kernel_rfl
      simpa [Value.formed, underlyingDig, c32, cellsOf_size] using h3
    · cases hk
  rw [← he d hd]
  exact h2 d kl hk
section
variable {ops : Array Oper} {rest : List Oper} {o : Oper} {a : Act} {Q : Exit → Act → World → Prop} {w : World}
theorem wpL_lookup_known (m x : Operand) (b n : Nat) (f : List UInt8 → Option Value) (d : List UInt8)
    (hc : o.guard = none ∧ o.op = Op.lookup 83 m x true ∧ a.eval m = .map (some b) ∧ a.eval x = .agg (cellsOf d)) (h : Known w b n f ∧ d.length = 32)
    (hK : wpList Try.prog ops Q rest (a.put o.dst (.tuple #[(f d).getD (.slice none 0 0), .bool (f d).isSome])) w) : wpList Try.prog ops Q (o :: rest) a w := by
  obtain ⟨kl, hkl⟩ := digKey d h.2
  obtain ⟨D, h1, h2⟩ := h.1
  obtain ⟨g1, g2⟩ := h2 d kl hkl
  refine wpList_lookup_own_ok w hc.1 m x 83 hc.2.1 37 25 digKeyed Try.underlying83 heldR (z := .slice none 0 0) (by kernel_rfl) (.held (.slice none 0 0)) [] rfl b n D hc.2.2.1 h1 _ kl hc.2.2.2 hkl fun v ps hv => ?_
  rw [g1]
  cases hf : f d with
  | none =>
    rw [hf] at g1
    rw [Maps.atKey_of_not_has g1] at hv
    simp only [heldR, Option.some.injEq, Prod.mk.injEq, DataW.held.injEq] at hv
    rw [hv.1]
    rw [hf] at hK; exact hK
  | some u =>
    rw [g2 u _ hf] at hv
    simp only [heldR, Option.some.injEq, Prod.mk.injEq, DataW.held.injEq] at hv
    rw [hv.1]
    rw [hf] at hK; exact hK
theorem wpL_update_known (m x v : Operand) (b n : Nat) (f : List UInt8 → Option Value) (d : List UInt8) (val : Value)
    (hc : o.guard = none ∧ o.op = Op.mapUpdate 83 m x v ∧ a.eval m = .map (some b) ∧ a.eval x = .agg (cellsOf d) ∧ a.eval v = val) (h : Known w b n f ∧ d.length = 32 ∧ n < maxLen)
    (hK : ∀ w', Known w' b (n + 1) (fun y => if y = d then some val else f y) → w.grownBy w' (some b) → wpList Try.prog ops Q rest (a.put o.dst undef) w') : wpList Try.prog ops Q (o :: rest) a w := by
  obtain ⟨kl, hkl⟩ := digKey d h.2.1
  obtain ⟨D, h1, h2⟩ := h.1
  have hm := h1.isMap
  have hkk := digKeyed.key hkl
  refine wpList_mapUpdate_own w hc.1 m x v 83 hc.2.1 37 25 digKeyed Try.underlying83 heldR b n D hc.2.2.1 h1 h.2.2 _ val kl hc.2.2.2.1 hc.2.2.2.2 hkl (.held val) [] rfl fun w' g1 g2 => hK w' ⟨_, g1, fun y ky hy => ?_⟩ g2
  dsimp only
  by_cases he : y = d
  · subst he
    rw [hkl] at hy
    cases hy
    rw [if_pos rfl]
    exact ⟨by rw [Maps.has_put_same hm hkk]; rfl, fun v z hv => by cases hv; exact Maps.atKey_put_same hm hkk _ _⟩
  · have hne := digKey_ne hkl hy he
    rw [if_neg he]
    obtain ⟨g3, g4⟩ := h2 y ky hy
    exact ⟨by rw [Maps.has_put_other hne]; exact g3, fun v z hv => by rw [Maps.atKey_put_other hne]; exact g4 v z hv⟩
end

set_option maxRecDepth 100000 in
theorem bEqual_any (F G : Nat → Prop) (w : World) (u v : Value) (x y : List UInt8) (h : BytesAt F w u x) (k : BytesAt G w v y) :
    Calls Try.prog 62 #[u, v] w fun e w' => e = .returned (.bool (x == y)) ∧ w = w' := by
  obtain ⟨a, c, rfl, -, -, -⟩ := SliceAt.len h
  obtain ⟨a', c', rfl, -, -, -⟩ := SliceAt.len k
  have s1 := run_string_at (P := Try.prog) h 25 5 9 Try.underlying25 Try.underlying5 Try.underlying9
  have s2 := run_string_at (P := Try.prog) k 25 5 9 Try.underlying25 Try.underlying5 Try.underlying9
  obtain ⟨n, hn⟩ : ∃ n, n = x.length := ⟨_, rfl⟩
  obtain ⟨n', hn'⟩ : ∃ n, n = y.length := ⟨_, rfl⟩
  rw [← hn] at s1 ⊢
  rw [← hn'] at s2 ⊢
  by_cases hxy : x = y
  · subst hxy
    rw [beq_self_eq_true]
    clear hn hn' h k
    go_enter Try.func62, Try.ntmps62
    go_wp2
    go_ret
    exact ⟨rfl, rfl⟩
  · have hb1 : (x == y) = false := by simp [hxy]
    rw [hb1]
    clear hn hn' h k hxy
    go_enter Try.func62, Try.ntmps62
    go_wp2
    go_ret
    exact ⟨rfl, rfl⟩
end Go.Proofs.Ytndkkgkcbbmnpaa
namespace Go.Pg
open Go.RowKit
/-- a text laid into rising ones -/
def put : List (List UInt8) → List UInt8 → List (List UInt8)
  | [], b => [b]
  | x :: r, b => if Lib.compareBytes x b < 0 then x :: put r b else if x = b then x :: r else b :: x :: r
theorem put_at : ∀ (l : List (List UInt8)) (b : List UInt8) (k : Nat) (_ : ∀ j, j < k → ∀ hj : j < l.length, Lib.compareBytes l[j] b < 0) (_ : k ≤ l.length) (_ : k = l.length ∨ ∃ h : k < l.length, ¬ Lib.compareBytes l[k] b < 0),
    put l b = if h : ∃ h : k < l.length, l[k] = b then l else l.take k ++ [b] ++ l.drop k
  | [], b, k, h1, h2, h3 => by
    obtain rfl : k = 0 := by simpa using h2
    rw [dif_neg (fun e => by obtain ⟨h, -⟩ := e; simp at h)]
    rfl
  | x :: r, b, 0, h1, h2, h3 => by
    have hx : ¬ Lib.compareBytes x b < 0 := by
      rcases h3 with h3 | ⟨g, h3⟩
      · simp at h3
      · simpa using h3
    simp only [put]
    rw [if_neg hx]
    by_cases he : x = b
    · rw [if_pos he, dif_pos ⟨by simp, by simpa using he⟩]
    · rw [if_neg he, dif_neg (fun e => he (by obtain ⟨g, e⟩ := e; simpa using e))]
      simp
  | x :: r, b, k + 1, h1, h2, h3 => by
    have hx : Lib.compareBytes x b < 0 := h1 0 (by omega) (by simp)
    have ih := put_at r b k (fun j hj hl => by have := h1 (j + 1) (by omega) (by simp; omega); simpa using this) (by simpa using h2) (by
      rcases h3 with h3 | ⟨g, h3⟩
      · exact .inl (by simpa using h3)
      · exact .inr ⟨by simpa using g, by simpa using h3⟩)
    simp only [put]
    rw [if_pos hx, ih]
    by_cases he : ∃ h : k < r.length, r[k] = b
    · rw [dif_pos he, dif_pos (by obtain ⟨g, e⟩ := he; exact ⟨by simp; omega, by simpa using e⟩)]
    · rw [dif_neg he, dif_neg (fun e => he (by obtain ⟨g, e⟩ := e; exact ⟨by simpa using g, by simpa using e⟩))]
      simp
section
variable {α : Type} {A : (Nat → Prop) → World → List Value → α → Prop} {G : Nat → Prop} {n : Nat} {W : World} {e : TypeId} {sz : Nat} {v : Value} {l : List α}
/-- more, out of another slice -/
theorem OwnList.join (hA : Carried A) (h : OwnList A G n W e sz v l) {H : Nat → Prop} {u : Value} {m : List α} (hs : SliceAt H W sz (A H W) u m) (hH : ∀ b, b < W.heap.size → H b → G b ∧ v.ownBlock ≠ some b) (hsz : 0 < sz := by decide) :
    ∃ R : List Value → α → Prop, (∀ cs x, R cs x → ∀ u ∈ cs, u.oneCell' = true) ∧ OwnAt W n e sz R v l ∧ SliceAt H W sz R u m ∧
      ∀ v' W2, OwnAt W2 n e sz R v' (l ++ m) → W.grownBy W2 v.ownBlock → Moved W v v' → OwnList A G n W2 e sz v' (l ++ m) := by
  obtain ⟨F, h1, h2, h3⟩ := h
  refine ⟨A (fun b => F b ∨ (H b ∧ b < W.heap.size)) W, hA.one, h3.mono fun cs x _ hx => hA.carry hx (fun b _ hb => .inl hb) (fun _ _ _ => rfl), SliceAt.carry hs hsz (fun _ _ x => x) (fun _ _ _ => rfl) (fun cs x _ hx => hA.carry hx (fun b hlt hb => .inr ⟨hb, hlt⟩) (fun _ _ _ => rfl)), fun v' W2 ho hg hm => ?_⟩
  have hs := hg.size
  refine ⟨fun b => F b ∨ (H b ∧ b < W.heap.size), ?_, ?_, ?_⟩
  · rintro b (hb | hb)
    · exact ⟨(h1 b hb).1, by have := (h1 b hb).2; omega⟩
    · exact ⟨(hH b hb.2 hb.1).1, by omega⟩
  · intro g hg' hb
    rcases hm g hg' with hv | hv
    · rcases hb with hb | hb
      · exact h2 g hv hb
      · exact (hH g hb.2 hb.1).2 hv
    · rcases hb with hb | hb
      · have := (h1 g hb).2; omega
      · omega
  · refine ho.mono fun cs y _ hy => hA.carry hy (fun _ _ x => x) fun b hb hlt => ?_
    rw [hg.block b hlt (fun e => ?_)]
    rcases hb with hb | hb
    · exact h2 b e.symm hb
    · exact (hH b hb.2 hb.1).2 e.symm
end
/-- l[:k] of rows -/
theorem RowsAt.upto {F : Nat → Prop} {w : World} {a : Option Addr} {n c : Nat} {l : List (List UInt8)} (h : RowsAt F w (.slice a n c) l) (k : Nat) (hk : k ≤ n) : RowsAt F w (.slice a k c) (l.take k) := by
  obtain ⟨a', c', hv, h1, h2, h3, h4, h5⟩ := h
  simp only [Value.slice.injEq] at hv
  obtain ⟨rfl, rfl, rfl⟩ := hv
  have hl : (l.take k).length = k := by simp; omega
  refine ⟨a, c, by rw [hl], by omega, h2, h3, fun hp => ?_, fun b o j ha hj => h5 b o j ha (by rw [hl] at hj; omega)⟩
  obtain ⟨b, o, ha, hF, hc⟩ := h4 (by omega)
  refine ⟨b, o, ha, hF, fun i x hx => hc i x ?_⟩
  rw [List.getElem?_take] at hx
  split at hx
  · exact hx
  · cases hx
/-- l[k:] of rows -/
theorem RowsAt.since {F : Nat → Prop} {w : World} {a a2 : Option Addr} {n c : Nat} {l : List (List UInt8)} (h : RowsAt F w (.slice a n c) l) (k : Nat) (hk : k ≤ n) (ha2 : (if c = k then a else a.map (·.add k)) = a2) :
    RowsAt F w (.slice a2 (n - k) (c - k)) (l.drop k) := by
  obtain ⟨a', c', hv, h1, h2, h3, h4, h5⟩ := h
  simp only [Value.slice.injEq] at hv
  obtain ⟨rfl, rfl, rfl⟩ := hv
  have hl : (l.drop k).length = l.length - k := by simp
  refine ⟨a2, c - k, by rw [hl], by omega, by omega, fun hn => ?_, fun hp => ?_, fun b o j ha hj => ?_⟩
  · subst hn
    split at ha2
    · omega
    · simp at ha2; have := h3 ha2; omega
  · rw [hl] at hp
    obtain ⟨b, o, rfl, hF, hc⟩ := h4 (by omega)
    have hck : ¬ c = k := by omega
    rw [if_neg hck] at ha2
    have e : (⟨b, o, none⟩ : Addr).add k = ⟨b, o + k, none⟩ := by unfold Addr.add; split <;> simp_all
    simp only [Option.map_some, e] at ha2
    subst ha2
    refine ⟨b, o + k, rfl, hF, fun i x hx => ?_⟩
    obtain ⟨cs, g1, g2, g3⟩ := hc (k + i) x (by rw [List.getElem?_drop] at hx; exact hx)
    exact ⟨cs, g1, g2, fun j u hu => by have := g3 j u hu; rwa [show o + k + i * 1 + j = o + (k + i) * 1 + j by omega]⟩
  · rw [hl] at hj
    obtain ⟨b', o', rfl, -, -⟩ := h4 (by omega)
    have hck : ¬ c = k := by omega
    have e : (⟨b', o', none⟩ : Addr).add k = ⟨b', o' + k, none⟩ := by unfold Addr.add; split <;> simp_all
    rw [if_neg hck, Option.map_some, e, ha] at ha2
    simp only [Option.some.injEq, Addr.mk.injEq, and_true] at ha2
    obtain ⟨rfl, rfl⟩ := ha2
    have := h5 b' o' (k + j) rfl (by omega)
    rwa [show o' + k + j = o' + (k + j) by omega]
end Go.Pg
namespace Go.Proofs.Ytndkkgkcbbmnpaa
open Go.RowKit Go.Pg

/-- rows are told, of old memory and new -/
def PutD (F : Nat → Prop) (w : World) (l : List (List UInt8)) (e : Ending) (w' : World) : Prop :=
  ∃ a n c, e = .returned (.slice a n c) ∧ RowsAt (fun b => F b ∨ w.heap.size ≤ b) w' (.slice a n c) l ∧ Below w.heap.size w w'

set_option maxRecDepth 100000 in
set_option maxHeartbeats 8000000 in
theorem put_any (F G : Nat → Prop) (w : World) (a : Option Addr) (n c : Nat) (l : List (List UInt8)) (ab : Option Addr) (nb cb : Nat) (b : List UInt8) (h0 : RowsAt F w (.slice a n c) l) (hb : BytesAt G w (.slice ab nb cb) b) (hlen : n ≤ 1099511627776) (hbl : b.length ≤ 140737488351232)
    (hx : ∀ x ∈ l, x.length ≤ 140737488351232) : Calls Try.prog 67 #[.slice a n c, .slice ab nb cb] w (PutD F w (put l b)) := by
  have h : RowsAt (fun x => F x ∧ x < w.heap.size) w (.slice a n c) l := RowsAt.carry h0 (fun x hlt hx => ⟨hx, hlt⟩) (fun _ _ _ => rfl)
  have hn : n = l.length ∧ n ≤ c := by
    obtain ⟨a', c', hv, h1, -⟩ := SliceAt.len h
    simp only [Value.slice.injEq] at hv
    exact ⟨hv.2.1, by omega⟩
  have hnc := hn.2
  obtain ⟨i0, hi, hz0, hz1, hz2⟩ := info_parts infoRow
  have HN := Lib.hid hn.1
  have HX := Lib.hid hx
  have HH := Lib.hid h
  have HBB := Lib.hid hb
  have HBL := Lib.hid hbl
  clear hn hx h h0 hb hbl
  go_enter Try.func67, Try.ntmps67
  go_wp2
  go_loopw [5] (fun i wr => ∃ k : Nat, k ≤ n ∧ i = .int .i64 k ∧ Hid (∀ j, j < k → ∀ hj : j < l.length, Lib.compareBytes l[j] b < 0) ∧ Hid (∃ q, wr = w.drewN q)) (fun i _ => n - (intOf i).toNat)
  case atStart => exact ⟨0, Nat.zero_le _, rfl, Lib.hid (fun j hj => absurd hj (Nat.not_lt_zero _)), Lib.hid ⟨0, rfl⟩⟩
  case round =>
    obtain ⟨k, hk, rfl, HLT, HK⟩ := hrel
    by_cases hlt : k < n
    · rcases SliceAt.split HH.out with ⟨_, h00⟩ | ⟨rb0, ro0, rfl, -, -, -⟩
      · omega
      have hrw : RowsAt (fun x => F x ∧ x < w.heap.size) wr (.slice (some ⟨rb0, ro0, none⟩) n c) l ∧ BytesAt G wr (.slice ab nb cb) b := by
        obtain ⟨q, hq⟩ := HK.out
        rw [hq]; exact ⟨RowsAt.carry HH.out (fun _ _ x => x) (fun _ _ _ => rfl), BytesAt.carry HBB.out (fun _ _ x => x) (fun _ _ _ => rfl)⟩
      have hkl : k < l.length := by have := HN.out; omega
      obtain ⟨u, c0, t0⟩ := RowsAt.cell hrw.1 k hkl
      have hxl := HX.out l[k] (List.getElem_mem _)
      obtain ⟨p, hp⟩ : ∃ p, p = decide (Lib.compareBytes l[k] b < 0) := ⟨_, rfl⟩
      have hcall := ahead_any _ G wr u (.slice ab nb cb) l[k] b t0 hrw.2 (by omega)
      rw [← hp] at hcall
      have HCALL := Lib.hid hcall
      have HP := Lib.hid hp
      have hkz : (0 : Int) ≤ (k : Int) := by omega
      have hkn : (k : Int) < (n : Int) := by omega
      obtain ⟨au0, cu0, hu0, -, -, -⟩ := SliceAt.len t0
      subst hu0
      obtain ⟨mu0, hmu0⟩ : ∃ m, m = (l[k]).length := ⟨_, rfl⟩
      rw [← hmu0] at c0 HCALL
      clear hrw t0 hxl hcall hp hmu0
      go_wp2_with fail
      refine HCALL.out.mono ?_
      rintro e w1 ⟨rfl, q1, hw1⟩
      have HK1 : Hid (∃ q, w1 = w.drewN q) := Lib.hid (by obtain ⟨q, hq⟩ := HK.out; rw [hw1, hq]; exact ⟨_, World.drewN_drewN _ _ _⟩)
      clear hw1 c0
      cases p with
      | true =>
        have HLT2 : Hid (∀ j, j < k + 1 → ∀ hj : j < l.length, Lib.compareBytes l[j] b < 0) := Lib.hid fun j hj hl => by
          by_cases hjk : j = k
          · subst hjk; exact of_decide_eq_true HP.out.symm
          · exact HLT.out j (by omega) hl
        go_wp2_with fail
        go_roundw
        case rel => exact ⟨k + 1, by omega, num_eq (by omega), HLT2, HK1⟩
        case measure => simp [intOf]; omega
      | false =>
        have HNLT : Hid (¬ Lib.compareBytes (l[k]'(by have := HN.out; omega)) b < 0) := Lib.hid (of_decide_eq_false HP.out.symm)
        obtain ⟨wr, rfl⟩ : ∃ W, W = w1 := ⟨_, rfl⟩
        replace HK := HK1
        clear HK1 HCALL hkz hkn
        have hq := HK.out
        obtain ⟨q, hq⟩ := hq
        have hbwr : Below w.heap.size w wr := by rw [hq]; exact ⟨rfl, rfl, rfl, Nat.le_refl _, fun _ _ => rfl⟩
        have hwrs : wr.heap.size = w.heap.size := by rw [hq]; rfl
        have hRr := RowsAt.below HH.out hbwr
        have hBr := BytesAt.below HBB.out hbwr
        have hput := put_at l b k HLT.out (by have := HN.out; omega) (.inr ⟨by have := HN.out; omega, HNLT.out⟩)
        have HRR := Lib.hid hRr
        have HBR := Lib.hid hBr
        have HBW := Lib.hid hbwr
        have HWS := Lib.hid hwrs
        clear hq hbwr hwrs
        obtain ⟨x, hxx⟩ : ∃ x, x = l[k]'(by have := HN.out; omega) := ⟨_, rfl⟩
        obtain ⟨u, c0, t0⟩ := RowsAt.cell HRR.out k (by have := HN.out; omega)
        rw [← hxx] at t0
        obtain ⟨ax, cx, rfl, -, -, -⟩ := SliceAt.len t0
        have s1 := fun nq => run_string_at (P := Try.prog) (BytesAt.draws t0 nq) 25 5 9 Try.underlying25 Try.underlying5 Try.underlying9
        have s2 := fun nq => run_string_at (P := Try.prog) (BytesAt.draws HBR.out nq) 25 5 9 Try.underlying25 Try.underlying5 Try.underlying9
        have hkn' : (k : Int) < (n : Int) := by omega
        have hkz' : (0 : Int) ≤ (k : Int) := by omega
        by_cases hsame : k < l.length ∧ x = b
        · have hput2 : put l b = l := by rw [hput, dif_pos ⟨by have := HN.out; omega, by rw [← hxx]; exact hsame.2⟩]
          obtain rfl := hsame.2
          have HPUT := Lib.hid hput2
          clear hput hput2 hRr hBr hsame hxx t0
          go_wp2_with fail
          go_quiet (fail)
          go_wp2
          go_ret
          rw [HPUT.out]
          refine ⟨_, _, _, rfl, RowsAt.carry HRR.out (fun b hlt hb => .inl hb.1) (fun _ _ _ => rfl), ?_⟩
          have := HBW.out
          exact ⟨this.os, this.tape, this.output, this.size, this.block⟩
        · rw [dif_neg (fun e => hsame ⟨by have := HN.out; omega, by rw [hxx]; exact e.2⟩)] at hput
          have HPUT := Lib.hid hput
          have hb1 : (x == b) = false := by
            have : ¬ x = b := fun e => hsame ⟨by have := HN.out; omega, e⟩
            simp [this]
          clear hput hRr hBr hsame hxx t0
          go_wp2_with fail
          go_quiet (fail)
          clear s1 s2 hb1
          obtain ⟨W, hW⟩ : ∃ W' : World, W' = wr.drewN nq := ⟨_, rfl⟩
          have hbW : Below w.heap.size w W := by rw [hW]; have := HBW.out; exact ⟨this.os, this.tape, this.output, this.size, this.block⟩
          have hsW : W.heap.size = w.heap.size := by rw [hW]; exact HWS.out
          obtain ⟨W1, hW1⟩ : ∃ W' : World, W' = W.alloc (.cells #[] 25) := ⟨_, rfl⟩
          have hb1 : Below W.heap.size W W1 := by rw [hW1]; exact Bel.alloc (Bel.refl W) _
          have hk1 : W1.heap[W.heap.size]? = some (.cells #[] 25 (0, 0)) := by rw [hW1]; exact heap_alloc_new W _
          have hs1 : W1.heap.size = W.heap.size + 1 := by rw [hW1]; simp
          have ho1 : OwnList rowR (fun b => (F b ∧ b < w.heap.size) ∨ w.heap.size ≤ b) W.heap.size W1 25 1 (.slice (some ⟨W.heap.size, 0, none⟩) 0 0) ([] : List (List UInt8)) := OwnList.empty W.heap.size 0 (Nat.le_refl _) (by decide) _ hk1 rfl
          have hsrc := RowsAt.below (RowsAt.upto (RowsAt.below HH.out hbW) k (by omega)) hb1
          obtain ⟨R1, j1, j2, j3, j4⟩ := ho1.join carriedRow hsrc (fun b hlt hb => ⟨.inl hb, fun e => by simp [Value.ownBlock] at e; have := hb.2; omega⟩)
          have hle1 : (([] : List (List UInt8)).length + (l.take k).length) * 24 ≤ 140737488355328 := by simp; omega
          have HWE := Lib.hid hW
          have HW1 := Lib.hid hW1
          have HBW1 := Lib.hid (hbW.trans (hb1.mono (by omega)))
          have HJ1 := Lib.hid j1
          have HJ2 := Lib.hid j2
          have HJ3 := Lib.hid j3
          have HJ4 := Lib.hid j4
          have HL1 := Lib.hid hle1
          have hgeW : W.heap.size ≤ W1.heap.size := by omega
          have HSW := Lib.hid hsW
          have HS1 := Lib.hid hs1
          clear hbW hsW hb1 hk1 ho1 hsrc j1 j2 j3 j4 hle1 hW1 hW hs1
          try rw [← HWE.out]
          go_wp2_with (at_builtin; (try rw [← HWE.out]); (try rw [← HW1.out]); refine wpList_append_at rfl (.tmp 37) (.tmp 40) 22 rfl W.heap.size 25 i0 (.slice none 0 0) 1 24 underlyingRows hi hz0 hz1 hz2 rfl (by decide) (by decide) HJ1.out (.slice (some ⟨W.heap.size, 0, none⟩) 0 0) [] rfl HJ2.out _ (l.take k) _ rfl HJ3.out HL1.out hgeW ?nexta1)
          case nexta1 =>
          intro v2 w2 ho hg hm
          have ho2 := HJ4.out _ _ ho hg hm
          have hown1 := (OwnAt.own HJ2.out)
          obtain ⟨a2, c2, hv2, -, -, -⟩ := ho2.len
          obtain ⟨m2, hm2⟩ : ∃ m, m = ([] ++ l.take k).length := ⟨_, rfl⟩
          rw [← hm2] at hv2
          subst hv2
          have hb2 : Below w.heap.size w w2 := HBW1.out.grown hg HBW1.out.size (fun j hj => by have := (hown1 j hj).1; have := HSW.out; omega)
          rw [List.nil_append] at ho2
          have HO2 := Lib.hid ho2
          have HB2 := Lib.hid hb2
          have hm2b : m2 ≤ 1099511627776 := by rw [hm2]; simp; omega
          clear ho hg hm ho2 hb2 hown1 hm2
          obtain ⟨i8, hi8, hy0, hy1, hy2⟩ := info_parts infoU8
          obtain ⟨W2, hW2⟩ : ∃ W' : World, W' = w2.alloc (.cells #[] 5) := ⟨_, rfl⟩
          have hb22 : Below w2.heap.size w2 W2 := by rw [hW2]; exact Bel.alloc (Bel.refl w2) _
          have hown8 : OwnAt W2 w2.heap.size 5 1 byteR (.slice (some ⟨w2.heap.size, 0, none⟩) 0 0) ([] : List UInt8) := by
            rw [hW2]; exact ⟨[], World.ownsRow_made w2 #[] 0 (Nat.le_refl _) (by decide) rfl, Rows.nil _ _⟩
          have hsrc8 := BytesAt.below (BytesAt.below HBB.out HB2.out) hb22
          have hle8 : (([] : List UInt8).length + b.length) * 1 ≤ 140737488355328 := by have := HBL.out; simp; omega
          have HW2 := Lib.hid hW2
          have HO22 := Lib.hid (HO2.out.call carriedRow hb22)
          have HB22 := Lib.hid hb22
          have hs22 := hb22.size
          have HOWN8 := Lib.hid hown8
          have HSRC8 := Lib.hid hsrc8
          have HLE8 := Lib.hid hle8
          clear hb22 hown8 hsrc8 hle8 hW2
          go_wp2_with (at_builtin; (try rw [← HW2.out]); refine wpList_append_at rfl (.tmp 43) (.tmp 44) 25 rfl w2.heap.size 5 i8 (.int .u8 0) 1 1 underlying25 hi8 hy0 hy1 hy2 rfl (by decide) (by decide) byteR.one (.slice (some ⟨w2.heap.size, 0, none⟩) 0 0) [] rfl HOWN8.out _ b _ rfl HSRC8.out HLE8.out hs22 ?nextb1)
          case nextb1 =>
          intro v3 w3 ho hg hm
          have hown8 := HOWN8.out.own
          obtain ⟨a3, c3, hv3, -, -, -⟩ := ho.len
          have hat3 := ho.at (F := fun x => w2.heap.size ≤ x) (fun _ _ h _ => h) (by decide)
          obtain ⟨m3, hm3⟩ : ∃ m, m = b.length := ⟨_, rfl⟩
          subst hv3
          try simp only [List.nil_append] at hat3 ⊢
          rw [← hm3] at hat3 ⊢
          have hb3 : Below w2.heap.size w2 w3 := HB22.out.grown hg HB22.out.size (fun j hj => (hown8 j hj).1)
          have ho3 := HO2.out.call carriedRow hb3
          have hown2 := HO2.out.own
          obtain ⟨R3, j1, j2, j3, j4⟩ := ho3.push carriedRow (H := fun x => w2.heap.size ≤ x) (cs := [.slice a3 m3 c3]) (x := b) ⟨_, rfl, hat3⟩ rfl (by decide) (fun x _ hx => ⟨.inr (by have := HB2.out.size; omega), fun e => by have := (hown2 x e).2; omega⟩) 25
          have hle3 : ((l.take k).length + [b].length) * 24 ≤ 140737488355328 := by simp; omega
          have hbase3 : W.heap.size ≤ (w3.alloc (.cells [.slice a3 m3 c3].toArray 25)).heap.size := by have := HB2.out.size; have := hb3.size; have := HSW.out; simp; omega
          have HB3 := Lib.hid (Bel.call HB2.out hb3)
          have HJ5 := Lib.hid j1
          have HJ6 := Lib.hid j2
          have HJ7 := Lib.hid j3
          have HJ8 := Lib.hid j4
          have HL3 := Lib.hid hle3
          have HBASE3 := Lib.hid hbase3
          clear ho hg hm hown8 hat3 hb3 ho3 j1 j2 j3 j4 hle3 hbase3 hown2 hm3
          go_wp2_with (at_builtin; refine wpList_append_at rfl (.tmp 42) (.tmp 46) 22 rfl W.heap.size 25 i0 (.slice none 0 0) 1 24 underlyingRows hi hz0 hz1 hz2 rfl (by decide) (by decide) HJ5.out (.slice a2 m2 c2) (l.take k) rfl HJ6.out _ [b] (fun _ => True) rfl HJ7.out HL3.out HBASE3.out ?nextc1)
          case nextc1 =>
          intro v4 w4 ho hg hm
          have ho4 := HJ8.out _ _ ho hg hm
          have hown6 := OwnAt.own HJ6.out
          obtain ⟨a4, c4, hv4, -, -, -⟩ := ho4.len
          obtain ⟨m4, hm4⟩ : ∃ m, m = (l.take k ++ [b]).length := ⟨_, rfl⟩
          rw [← hm4] at hv4
          subst hv4
          have hb4 : Below w.heap.size w w4 := (Bel.alloc HB3.out _).grown hg (by have := HB3.out.size; simp; omega) (fun j hj => by have := (hown6 j hj).1; have := HSW.out; omega)
          have hsrc4 := RowsAt.since (RowsAt.below HH.out hb4) k (by omega) (a2 := some ⟨rb0, ro0 + k, none⟩) (by rw [if_neg (by omega)]; exact congrArg some (by unfold Addr.add; split <;> simp_all))
          have hown4 := ho4.own
          obtain ⟨R5, j1, j2, j3, j4⟩ := ho4.join carriedRow hsrc4 (fun x hlt hx => ⟨.inl hx, fun e => by have := (hown4 x e).1; have := hx.2; have := HSW.out; omega⟩)
          have hle4 : ((l.take k ++ [b]).length + (l.drop k).length) * 24 ≤ 140737488355328 := by have := HN.out; simp; omega
          have hbase4 : W.heap.size ≤ w4.heap.size := by have := hb4.size; have := HSW.out; omega
          have HB4 := Lib.hid hb4
          have HJ9 := Lib.hid j1
          have HJA := Lib.hid j2
          have HJB := Lib.hid j3
          have HJC := Lib.hid j4
          have HL4 := Lib.hid hle4
          have HOWN4 := Lib.hid hown4
          clear ho hg hm ho4 hown6 hm4 hb4 hsrc4 hown4 j1 j2 j3 j4 hle4
          go_wp2_with (at_builtin; refine wpList_append_at rfl (.tmp 48) (.tmp 51) 22 rfl W.heap.size 25 i0 (.slice none 0 0) 1 24 underlyingRows hi hz0 hz1 hz2 rfl (by decide) (by decide) HJ9.out (.slice a4 m4 c4) (l.take k ++ [b]) rfl HJA.out (.slice (some ⟨rb0, ro0 + k, none⟩) (n - k) (c - k)) (l.drop k) _ rfl HJB.out HL4.out hbase4 ?nextd1)
          case nextd1 =>
          intro v6 w6 ho hg hm
          try rw [List.append_cons] at ho
          have ho6 := HJC.out _ _ ho hg hm
          obtain ⟨a6, c6, hv6, -, -, -⟩ := ho6.len
          have hrows : RowsAt (fun x => F x ∨ w.heap.size ≤ x) w6 v6 (l.take k ++ [b] ++ l.drop k) := ho6.at carriedRow (fun x hx _ => by rcases hx with hx | hx; exact .inl hx.1; exact .inr hx) (fun x hx _ => .inr (by have := HSW.out; omega)) (by decide)
          obtain ⟨m6, hm6⟩ : ∃ m, m = (l.take k ++ [b] ++ l.drop k).length := ⟨_, rfl⟩
          rw [← hm6] at hv6
          subst hv6
          have hb6 : Below w.heap.size w w6 := HB4.out.grown hg HB4.out.size (fun j hj => by have := (HOWN4.out j hj).1; have := HSW.out; omega)
          have HROWS := Lib.hid hrows
          have HB6 := Lib.hid hb6
          clear ho hg hm ho6 hrows hm6 hb6
          go_wp2_with fail
          go_ret
          rw [HPUT.out]
          exact ⟨a6, m6, c6, rfl, HROWS.out, HB6.out⟩
    · obtain rfl : n = k := by omega
      obtain ⟨k, rfl⟩ : ∃ k, k = n := ⟨_, rfl⟩
      have hq := HK.out
      obtain ⟨q, hq⟩ := hq
      have hbwr : Below w.heap.size w wr := by rw [hq]; exact ⟨rfl, rfl, rfl, Nat.le_refl _, fun _ _ => rfl⟩
      have hwrs : wr.heap.size = w.heap.size := by rw [hq]; rfl
      have hRr := RowsAt.below HH.out hbwr
      have hBr := BytesAt.below HBB.out hbwr
      have hput := put_at l b k HLT.out (by have := HN.out; omega) (.inl (by have := HN.out; omega))
      have HRR := Lib.hid hRr
      have HBR := Lib.hid hBr
      have HBW := Lib.hid hbwr
      have HWS := Lib.hid hwrs
      clear hq hbwr hwrs
      by_cases hsame : False
      · exact hsame.elim
      · rw [dif_neg (fun e => absurd e.1 (by have := HN.out; omega))] at hput
        have HPUT := Lib.hid hput
        clear hput hRr hBr
        clear hsame
        go_wp2_with fail
        go_quiet (fail)
        obtain ⟨W, hW⟩ : ∃ W' : World, W' = wr.drewN nq := ⟨_, rfl⟩
        have hbW : Below w.heap.size w W := by rw [hW]; have := HBW.out; exact ⟨this.os, this.tape, this.output, this.size, this.block⟩
        have hsW : W.heap.size = w.heap.size := by rw [hW]; exact HWS.out
        obtain ⟨W1, hW1⟩ : ∃ W' : World, W' = W.alloc (.cells #[] 25) := ⟨_, rfl⟩
        have hb1 : Below W.heap.size W W1 := by rw [hW1]; exact Bel.alloc (Bel.refl W) _
        have hk1 : W1.heap[W.heap.size]? = some (.cells #[] 25 (0, 0)) := by rw [hW1]; exact heap_alloc_new W _
        have hs1 : W1.heap.size = W.heap.size + 1 := by rw [hW1]; simp
        have ho1 : OwnList rowR (fun b => (F b ∧ b < w.heap.size) ∨ w.heap.size ≤ b) W.heap.size W1 25 1 (.slice (some ⟨W.heap.size, 0, none⟩) 0 0) ([] : List (List UInt8)) := OwnList.empty W.heap.size 0 (Nat.le_refl _) (by decide) _ hk1 rfl
        have hsrc := RowsAt.below (RowsAt.upto (RowsAt.below HH.out hbW) k (by omega)) hb1
        obtain ⟨R1, j1, j2, j3, j4⟩ := ho1.join carriedRow hsrc (fun b hlt hb => ⟨.inl hb, fun e => by simp [Value.ownBlock] at e; have := hb.2; omega⟩)
        have hle1 : (([] : List (List UInt8)).length + (l.take k).length) * 24 ≤ 140737488355328 := by simp; omega
        have HWE := Lib.hid hW
        have HW1 := Lib.hid hW1
        have HBW1 := Lib.hid (hbW.trans (hb1.mono (by omega)))
        have HJ1 := Lib.hid j1
        have HJ2 := Lib.hid j2
        have HJ3 := Lib.hid j3
        have HJ4 := Lib.hid j4
        have HL1 := Lib.hid hle1
        have hgeW : W.heap.size ≤ W1.heap.size := by omega
        have HSW := Lib.hid hsW
        have HS1 := Lib.hid hs1
        clear hbW hsW hb1 hk1 ho1 hsrc j1 j2 j3 j4 hle1 hW1 hW hs1
        try rw [← HWE.out]
        go_wp2_with (at_builtin; (try rw [← HWE.out]); (try rw [← HW1.out]); refine wpList_append_at rfl (.tmp 37) (.tmp 40) 22 rfl W.heap.size 25 i0 (.slice none 0 0) 1 24 underlyingRows hi hz0 hz1 hz2 rfl (by decide) (by decide) HJ1.out (.slice (some ⟨W.heap.size, 0, none⟩) 0 0) [] rfl HJ2.out _ (l.take k) _ rfl HJ3.out HL1.out hgeW ?nexta2)
        case nexta2 =>
        intro v2 w2 ho hg hm
        have ho2 := HJ4.out _ _ ho hg hm
        have hown1 := (OwnAt.own HJ2.out)
        obtain ⟨a2, c2, hv2, -, -, -⟩ := ho2.len
        obtain ⟨m2, hm2⟩ : ∃ m, m = ([] ++ l.take k).length := ⟨_, rfl⟩
        rw [← hm2] at hv2
        subst hv2
        have hb2 : Below w.heap.size w w2 := HBW1.out.grown hg HBW1.out.size (fun j hj => by have := (hown1 j hj).1; have := HSW.out; omega)
        rw [List.nil_append] at ho2
        have HO2 := Lib.hid ho2
        have HB2 := Lib.hid hb2
        have hm2b : m2 ≤ 1099511627776 := by rw [hm2]; simp; omega
        clear ho hg hm ho2 hb2 hown1 hm2
        obtain ⟨i8, hi8, hy0, hy1, hy2⟩ := info_parts infoU8
        obtain ⟨W2, hW2⟩ : ∃ W' : World, W' = w2.alloc (.cells #[] 5) := ⟨_, rfl⟩
        have hb22 : Below w2.heap.size w2 W2 := by rw [hW2]; exact Bel.alloc (Bel.refl w2) _
        have hown8 : OwnAt W2 w2.heap.size 5 1 byteR (.slice (some ⟨w2.heap.size, 0, none⟩) 0 0) ([] : List UInt8) := by
          rw [hW2]; exact ⟨[], World.ownsRow_made w2 #[] 0 (Nat.le_refl _) (by decide) rfl, Rows.nil _ _⟩
        have hsrc8 := BytesAt.below (BytesAt.below HBB.out HB2.out) hb22
        have hle8 : (([] : List UInt8).length + b.length) * 1 ≤ 140737488355328 := by have := HBL.out; simp; omega
        have HW2 := Lib.hid hW2
        have HO22 := Lib.hid (HO2.out.call carriedRow hb22)
        have HB22 := Lib.hid hb22
        have hs22 := hb22.size
        have HOWN8 := Lib.hid hown8
        have HSRC8 := Lib.hid hsrc8
        have HLE8 := Lib.hid hle8
        clear hb22 hown8 hsrc8 hle8 hW2
        go_wp2_with (at_builtin; (try rw [← HW2.out]); refine wpList_append_at rfl (.tmp 43) (.tmp 44) 25 rfl w2.heap.size 5 i8 (.int .u8 0) 1 1 underlying25 hi8 hy0 hy1 hy2 rfl (by decide) (by decide) byteR.one (.slice (some ⟨w2.heap.size, 0, none⟩) 0 0) [] rfl HOWN8.out _ b _ rfl HSRC8.out HLE8.out hs22 ?nextb2)
        case nextb2 =>
        intro v3 w3 ho hg hm
        have hown8 := HOWN8.out.own
        obtain ⟨a3, c3, hv3, -, -, -⟩ := ho.len
        have hat3 := ho.at (F := fun x => w2.heap.size ≤ x) (fun _ _ h _ => h) (by decide)
        obtain ⟨m3, hm3⟩ : ∃ m, m = b.length := ⟨_, rfl⟩
        subst hv3
        try simp only [List.nil_append] at hat3 ⊢
        rw [← hm3] at hat3 ⊢
        have hb3 : Below w2.heap.size w2 w3 := HB22.out.grown hg HB22.out.size (fun j hj => (hown8 j hj).1)
        have ho3 := HO2.out.call carriedRow hb3
        have hown2 := HO2.out.own
        obtain ⟨R3, j1, j2, j3, j4⟩ := ho3.push carriedRow (H := fun x => w2.heap.size ≤ x) (cs := [.slice a3 m3 c3]) (x := b) ⟨_, rfl, hat3⟩ rfl (by decide) (fun x _ hx => ⟨.inr (by have := HB2.out.size; omega), fun e => by have := (hown2 x e).2; omega⟩) 25
        have hle3 : ((l.take k).length + [b].length) * 24 ≤ 140737488355328 := by simp; omega
        have hbase3 : W.heap.size ≤ (w3.alloc (.cells [.slice a3 m3 c3].toArray 25)).heap.size := by have := HB2.out.size; have := hb3.size; have := HSW.out; simp; omega
        have HB3 := Lib.hid (Bel.call HB2.out hb3)
        have HJ5 := Lib.hid j1
        have HJ6 := Lib.hid j2
        have HJ7 := Lib.hid j3
        have HJ8 := Lib.hid j4
        have HL3 := Lib.hid hle3
        have HBASE3 := Lib.hid hbase3
        clear ho hg hm hown8 hat3 hb3 ho3 j1 j2 j3 j4 hle3 hbase3 hown2 hm3
        go_wp2_with (at_builtin; refine wpList_append_at rfl (.tmp 42) (.tmp 46) 22 rfl W.heap.size 25 i0 (.slice none 0 0) 1 24 underlyingRows hi hz0 hz1 hz2 rfl (by decide) (by decide) HJ5.out (.slice a2 m2 c2) (l.take k) rfl HJ6.out _ [b] (fun _ => True) rfl HJ7.out HL3.out HBASE3.out ?nextc2)
        case nextc2 =>
        intro v4 w4 ho hg hm
        have ho4 := HJ8.out _ _ ho hg hm
        have hown6 := OwnAt.own HJ6.out
        obtain ⟨a4, c4, hv4, -, -, -⟩ := ho4.len
        obtain ⟨m4, hm4⟩ : ∃ m, m = (l.take k ++ [b]).length := ⟨_, rfl⟩
        rw [← hm4] at hv4
        subst hv4
        have hb4 : Below w.heap.size w w4 := (Bel.alloc HB3.out _).grown hg (by have := HB3.out.size; simp; omega) (fun j hj => by have := (hown6 j hj).1; have := HSW.out; omega)
        obtain ⟨a5, ha5⟩ : ∃ a5, (if c = k then (a : Option Addr) else (a : Option Addr).map (·.add k)) = a5 := ⟨_, rfl⟩
        have hsrc4 := RowsAt.since (RowsAt.below HH.out hb4) k (by omega) ha5
        rw [Nat.sub_self] at hsrc4
        have hown4 := ho4.own
        obtain ⟨R5, j1, j2, j3, j4⟩ := ho4.join carriedRow hsrc4 (fun x hlt hx => ⟨.inl hx, fun e => by have := (hown4 x e).1; have := hx.2; have := HSW.out; omega⟩)
        have hle4 : ((l.take k ++ [b]).length + (l.drop k).length) * 24 ≤ 140737488355328 := by have := HN.out; simp; omega
        have hbase4 : W.heap.size ≤ w4.heap.size := by have := hb4.size; have := HSW.out; omega
        have HB4 := Lib.hid hb4
        have HJ9 := Lib.hid j1
        have HJA := Lib.hid j2
        have HJB := Lib.hid j3
        have HJC := Lib.hid j4
        have HL4 := Lib.hid hle4
        have HOWN4 := Lib.hid hown4
        clear ho hg hm ho4 hown6 hm4 hb4 hsrc4 hown4 j1 j2 j3 j4 hle4
        go_wp2_with (at_builtin; refine wpList_append_at rfl (.tmp 48) (.tmp 51) 22 rfl W.heap.size 25 i0 (.slice none 0 0) 1 24 underlyingRows hi hz0 hz1 hz2 rfl (by decide) (by decide) HJ9.out (.slice a4 m4 c4) (l.take k ++ [b]) rfl HJA.out (.slice a5 0 (c - k)) (l.drop k) _ rfl HJB.out HL4.out hbase4 ?nextd2)
        case nextd2 =>
        intro v6 w6 ho hg hm
        try rw [List.append_cons] at ho
        have ho6 := HJC.out _ _ ho hg hm
        obtain ⟨a6, c6, hv6, -, -, -⟩ := ho6.len
        have hrows : RowsAt (fun x => F x ∨ w.heap.size ≤ x) w6 v6 (l.take k ++ [b] ++ l.drop k) := ho6.at carriedRow (fun x hx _ => by rcases hx with hx | hx; exact .inl hx.1; exact .inr hx) (fun x hx _ => .inr (by have := HSW.out; omega)) (by decide)
        obtain ⟨m6, hm6⟩ : ∃ m, m = (l.take k ++ [b] ++ l.drop k).length := ⟨_, rfl⟩
        rw [← hm6] at hv6
        subst hv6
        have hb6 : Below w.heap.size w w6 := HB4.out.grown hg HB4.out.size (fun j hj => by have := (HOWN4.out j hj).1; have := HSW.out; omega)
        have HROWS := Lib.hid hrows
        have HB6 := Lib.hid hb6
        clear ho hg hm ho6 hrows hm6 hb6
        go_wp2_with fail
        go_ret
        rw [HPUT.out]
        exact ⟨a6, m6, c6, rfl, HROWS.out, HB6.out⟩
end Go.Proofs.Ytndkkgkcbbmnpaa
