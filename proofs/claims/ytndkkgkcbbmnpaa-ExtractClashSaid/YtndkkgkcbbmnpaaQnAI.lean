/-
  sort.Slice of a slice of byte strings of the call's own: it owns them still, sorted.
  A set of strings, as the walk holds it; []byte of a string; sort.Slice of no slice.
  Contract of extract.sorted: what was handed in, each once, rising.
  Two unlike texts of one digest: what is sought, in plain words; a map of digests, as the walk holds it; bytes.Equal.
-/
import Derived.Test.YtndkkgkcbbmnpaaQnAH
import Derived.Maps.RangeWalk
import Derived.Sort.KeysCollected
import Derived.Laws.IdiomStrings
import Derived.Maps.OwnSet
import Derived.Maps.OwnOps
import Derived.DeepKeys4
namespace Go.Pg
open Go.RowKit
/-- what a call has written: one row of its caller's; and it may have drawn -/
theorem heap_sortedN {w : World} {g n : Nat} {os : Array Obj} {cur : Array Value} {e : TypeId} {fr : Nat × Nat} (enc : Nat → Value) (d : Array Nat) (hb : w.heap[g]? = some (.cells cur e fr)) :
    (Sort.grow (Sort.putRow enc (Sort.ahead w n) g 0 d) os).heap[g]? = some (.cells (Sort.putCells enc 0 d cur) e fr) := by
  have hg : g < w.heap.size := (Array.getElem?_eq_some_iff.1 hb).1
  rw [Sort.heap_grow_old _ _ (by simpa using hg)]
  simp [Sort.putRow, Sort.mapBlock, Sort.ahead, Array.getElem?_modify, hb, Sort.onCells]
theorem heap_sortedO {w : World} {g n : Nat} {os : Array Obj} (enc : Nat → Value) (d : Array Nat) (k : Nat) (hk : k < w.heap.size) (hne : k ≠ g) :
    (Sort.grow (Sort.putRow enc (Sort.ahead w n) g 0 d) os).heap[k]? = w.heap[k]? := by
  rw [Sort.heap_grow_old _ _ (by simpa using hk)]
  have : g ≠ k := fun e => hne e.symm
  simp [Sort.putRow, Sort.mapBlock, Sort.ahead, Array.getElem?_modify, this]
theorem take_putCellsN (enc : Nat → Value) (cur : Array Value) (d : Array Nat) (h : d.size ≤ cur.size) : (Sort.putCells enc 0 d cur).toList.take d.size = d.toList.map enc := by
  apply List.ext_getElem?
  intro j
  by_cases hj : j < d.size
  · rw [List.getElem?_take_of_lt hj, Array.getElem?_toList]
    simp [Sort.putCells, hj, show j < cur.size by omega]
  · rw [List.getElem?_take_eq_none (by omega), List.getElem?_eq_none (by simp; omega)]
end Go.Pg
namespace Go.Proofs.Ytndkkgkcbbmnpaa
open Go.RowKit Go.Pg

noncomputable def slT : TypeInfo := (Try.prog.info? 22).get (by kernel_rfl)
noncomputable def slE : TypeInfo := (Try.prog.info? 25).get (by kernel_rfl)
theorem slKind (w : World) : (Extern.Rtype.kind 25).run Try.prog w = .ok 23 w := by kernel_rfl

/-- a slice of the call's own, sorted -/
def Sorted (G : Nat → Prop) (N : Nat) (w : World) (g n c : Nat) (ss : List (List UInt8)) (e : Ending) (w' : World) : Prop :=
  e = .returned (.tuple #[]) ∧ ∃ ts : List (List UInt8), ts.Perm ss ∧ ts.Pairwise (fun x y => ¬ y < x) ∧ OwnList rowR G N w' 25 1 (.slice (some ⟨g, 0, none⟩) n c) ts ∧ Chg (fun k => k = g) w w'

set_option maxRecDepth 100000 in
set_option maxHeartbeats 4000000 in
theorem sort_any (G : Nat → Prop) (N : Nat) (w : World) (g n c Bx : Nat) (ss : List (List UInt8)) (hb : w.heap[Bx]? = some (.cells #[.slice (some ⟨g, 0, none⟩) n c] 22 (0, 0))) (hne : Bx ≠ g)
    (ho : OwnList rowR G N w 25 1 (.slice (some ⟨g, 0, none⟩) n c) ss) (hss : ss.length ≤ 1099511627776) :
    Calls Try.prog 87 #[.iface 22 (.slice (some ⟨g, 0, none⟩) n c), .func (.func 88) #[] #[.pointer (some ⟨Bx, 0, none⟩)]] w (Sorted G N w g n c ss) := by
  obtain ⟨F, h1, h2, xs, ⟨hxl, hown⟩, hrows⟩ := ho
  have hF : ¬ F g := h2 g rfl
  rcases hown with ⟨hnil, -⟩ | ⟨g', cap, cur, hv, hN, hg, hnc, hcm, hcs, htake⟩
  · cases hnil
  simp only [Value.slice.injEq, Option.some.injEq, Addr.mk.injEq, and_true] at hv
  obtain ⟨rfl, rfl, rfl⟩ := hv
  rw [Nat.mul_one] at hxl hcs htake
  obtain ⟨n, hn⟩ : ∃ n, n = ss.length := ⟨_, rfl⟩
  rw [← hn] at hxl hnc htake hb ⊢
  have hglt := (Array.getElem?_eq_some_iff.1 hg).1
  have hblt := (Array.getElem?_eq_some_iff.1 hb).1
  obtain ⟨enc, henc⟩ : ∃ f : Nat → Value, f = fun i => xs.getD i (.slice none 0 0) := ⟨_, rfl⟩
  obtain ⟨Gc, hGc⟩ : ∃ f : Nat → List UInt8, f = fun i => ss.getD i [] := ⟨_, rfl⟩
  have hread : ∀ i, BytesAt F w (enc i) (Gc i) := fun i => by
    rw [henc, hGc]
    dsimp only
    by_cases hi : i < n
    · obtain ⟨cs, k1, ⟨u, rfl, k2⟩, k3⟩ := hrows.2 i ss[i] (by simp)
      have := k3 0 u rfl
      rw [Nat.mul_one, Nat.add_zero] at this
      rw [List.getD_eq_getElem?_getD, this, List.getD_eq_getElem?_getD, List.getElem?_eq_getElem (by omega)]
      exact k2
    · rw [List.getD_eq_getElem?_getD, List.getElem?_eq_none (by omega), List.getD_eq_getElem?_getD, List.getElem?_eq_none (by omega)]
      exact BytesAt.nil _ _
  have hone : ∀ i, (enc i).oneCell' = true := fun i => by
    obtain ⟨a, c, hv, -⟩ := SliceAt.len (hread i)
    rw [hv]; rfl
  have hrd : ∀ (W : World), (∀ k, k < w.heap.size → k ≠ g → W.heap[k]? = w.heap[k]?) → ∀ i, BytesAt F W (enc i) (Gc i) := fun W hW i => BytesAt.carry (hread i) (fun _ _ x => x) (fun b hb hlt => hW b hlt (fun e => hF (e ▸ hb)))
  by_cases h2n : 2 ≤ n
  · obtain ⟨d, hd⟩ : ∃ d : Array Nat, d = Array.range n := ⟨_, rfl⟩
    have hds : d.size = n := by rw [hd]; simp
    have hdg : ∀ j, j < n → d[j]! = j := fun j hj => by rw [hd, getElem!_pos _ j (by simpa using hj)]; simp
    have hH : Sort.Holds enc w g 0 d := fun j hj => by
      rw [hds] at hj
      refine ⟨?_, by simp [World.frozen?, hg]⟩
      rw [hdg j hj, cell_of_row _ _ _ _ _ _ hg, Nat.zero_add]
      have e1 : (cur.toList.take n)[j]? = xs[j]? := by rw [htake]
      rw [List.getElem?_take_of_lt hj, Array.getElem?_toList] at e1
      rw [e1, henc]
      dsimp only
      rw [List.getD_eq_getElem?_getD, List.getElem?_eq_getElem (by omega)]
      rfl
    have hless : LessReads Try.prog 88 #[.pointer (some ⟨Bx, 0, none⟩)] enc (fun i j => decide (Gc i < Gc j)) g 0 d.size w := by
      intro m os dk hs i j hi hj
      have e : sortWorld enc w g 0 m dk os = Sort.grow (Sort.putRow enc (Sort.ahead w m) g 0 dk) os := rfl
      have hall : ∀ k, k < w.heap.size → k ≠ g → (sortWorld enc w g 0 m dk os).heap[k]? = w.heap[k]? := fun k hk hn => by rw [e]; exact heap_sortedO enc dk k hk hn
      refine less_any F g n c Bx _ (fun t => enc dk[t]!) (fun t => Gc dk[t]!) ?_ (fun t ht => ⟨?_, hrd _ hall _⟩) i j (by omega) (by omega)
      · rw [cell_of_row _ _ _ _ _ _ ((hall Bx hblt hne).trans hb)]; rfl
      · rw [e, cell_of_row _ _ _ _ _ _ (heap_sortedN enc dk hg), Nat.zero_add]
        have htc : t < cur.size := by omega
        have hts : t < dk.size := by omega
        simp [Sort.putCells, htc, hts]
    have hO : Sort.SWO fun i j => decide (Gc i < Gc j) := ⟨fun x => Sort.swo_ltStr.irrefl (Gc x), fun x y z => Sort.swo_ltStr.trans (Gc x) (Gc y) (Gc z), fun x y z => Sort.swo_ltStr.ntrans (Gc x) (Gc y) (Gc z)⟩
    have hK : Lib.swapperK d.size slE 23 = 9 := by
      have a : slE.hasPointers = true := by kernel_rfl
      have b : slE.bytes = 24 := by kernel_rfl
      have c0 : (d.size == 0) = false := by rw [hds]; simp; omega
      have c1 : (d.size == 1) = false := by rw [hds]; simp; omega
      simp [Lib.swapperK, a, b, c0, c1]
    have hS := Any.sort_Slice_sorted saSort 22 25 slT slE (by kernel_rfl) (by kernel_rfl) (by kernel_rfl) (by kernel_rfl) 23 slKind (by kernel_rfl) (fun _ => by kernel_rfl) enc hone (fun i j => decide (Gc i < Gc j)) hO 88 _
      (enters_of Try.func88 (by kernel_rfl) rfl) g 0 c d (by omega) (by omega) 123 (by rw [hK]; kernel_rfl) false
      (fun args W => run_callFunc_extern Try.func123 (by kernel_rfl) (by kernel_rfl) (by kernel_rfl) (e := Extern.ReflectliteSwapper.swap false) (by kernel_rfl) args W) w hless hH hglt
    rw [hds] at hS
    change Calls Try.prog 87 _ _ _ at hS
    refine hS.mono ?_
    rintro e w' ⟨rfl, d', nd, os, hP, hSo, rfl⟩
    obtain ⟨hsz, -, hperm⟩ := hP
    have e1 : d'.extract 0 n = d' := by rw [show n = d'.size by omega]; exact Array.extract_size
    have e2 : d.extract 0 n = d := by rw [← hds]; exact Array.extract_size
    rw [e1, e2] at hperm
    have hmap : d.toList.map Gc = ss := by
      rw [hd, Array.toList_range]
      apply List.ext_getElem?
      intro j
      rw [List.getElem?_map, hGc]
      by_cases hj : j < n
      · rw [List.getElem?_range hj, List.getElem?_eq_getElem (by omega)]
        simp only [Option.map_some]
        rw [List.getD_eq_getElem?_getD, List.getElem?_eq_getElem (by omega)]; rfl
      · rw [List.getElem?_eq_none (by simp; omega), List.getElem?_eq_none (by omega)]; rfl
    have hall : ∀ k, k < w.heap.size → k ≠ g → (Sort.grow (Sort.putRow enc (Sort.ahead w nd) g 0 d') os).heap[k]? = w.heap[k]? := fun k hk hn => heap_sortedO enc d' k hk hn
    have hgs := heap_sortedN (n := nd) (os := os) enc d' hg
    refine ⟨rfl, d'.toList.map Gc, ?_, ?_, ⟨F, fun b hb => ⟨(h1 b hb).1, by have := (h1 b hb).2; simp; omega⟩, h2, d'.toList.map enc, ⟨by simp, .inr ⟨g, c, _, by simp [hsz, hds], hN, hgs, by simp; omega, hcm, by simp [Sort.putCells, hcs], ?_⟩⟩, ?_⟩, ?_⟩
    · have := hperm.map Gc
      rw [hmap] at this
      exact this
    · rw [List.pairwise_map, List.pairwise_iff_getElem]
      intro i j hi hj hij
      have := hSo i j (Nat.zero_le _) hij (by simp at hj; omega)
      simp only [Array.length_toList] at hi hj
      rw [getElem!_pos d' i hi, getElem!_pos d' j hj] at this
      simpa using this
    · rw [Nat.mul_one, List.length_map, Array.length_toList]
      exact take_putCellsN enc cur d' (by omega)
    · refine ⟨by simp, fun i y hi => ?_⟩
      rw [List.getElem?_map] at hi
      cases hq : d'.toList[i]? with
      | none => rw [hq] at hi; cases hi
      | some k =>
        rw [hq] at hi
        simp only [Option.map_some, Option.some.injEq] at hi
        subst hi
        refine ⟨[enc k], rfl, ⟨enc k, rfl, hrd _ hall k⟩, fun j u hu => ?_⟩
        match j, hu with
        | 0, hu =>
          simp only [List.getElem?_cons_zero, Option.some.injEq] at hu
          subst hu
          rw [Nat.mul_one, Nat.add_zero, List.getElem?_map, hq]; rfl
    · exact ⟨rfl, rfl, rfl, by simp, fun k hk hn => hall k hk hn⟩
  · have hK : Lib.swapperK n slE 23 = n + 1 := by
      rcases Nat.eq_zero_or_pos n with h | h
      · subst h; simp [Lib.swapperK]
      · obtain rfl : n = 1 := by omega
        simp [Lib.swapperK]
    have hS := Any.sort_Slice_tiny saSort 22 25 slT slE (by kernel_rfl) (by kernel_rfl) (by kernel_rfl) (by kernel_rfl) 23 slKind (some ⟨g, 0, none⟩) n c (by omega) (115 + n) (by
      rw [hK]
      rcases Nat.eq_zero_or_pos n with h | h
      · subst h; kernel_rfl
      · obtain rfl : n = 1 := by omega
        kernel_rfl) (.func 88) #[] #[.pointer (some ⟨Bx, 0, none⟩)] w
    change Calls Try.prog 87 _ _ _ at hS
    refine hS.mono ?_
    rintro e w' ⟨rfl, os, rfl⟩
    have hall : ∀ k, k < w.heap.size → (Sort.grow w os).heap[k]? = w.heap[k]? := fun k hk => Sort.heap_grow_old _ _ hk
    refine ⟨rfl, ss, List.Perm.refl _, ?_, ⟨F, fun b hb => ⟨(h1 b hb).1, by have := (h1 b hb).2; simp; omega⟩, h2, xs, ⟨by simpa [← hn] using hxl, .inr ⟨g, c, cur, by rw [hn], hN, (hall g hglt).trans hg, by omega, hcm, by simpa using hcs, by rw [Nat.mul_one, ← hn]; exact htake⟩⟩, ?_⟩, ⟨rfl, rfl, rfl, by simp, fun k hk _ => hall k hk⟩⟩
    · match ss, hn with
      | [], _ => exact List.Pairwise.nil
      | [x], _ => simp
      | x :: y :: r, hn => simp at hn; omega
    · exact hrows.mono fun cs x _ hx => by
        obtain ⟨u, rfl, k2⟩ := hx
        exact ⟨u, rfl, BytesAt.carry k2 (fun _ _ x => x) (fun b _ hlt => hall b hlt)⟩
end Go.Proofs.Ytndkkgkcbbmnpaa
namespace Go.Proofs.Ytndkkgkcbbmnpaa
open Go.RowKit Go.Pg
open Go.Maps (Keyed)

theorem strKeyed : Keyed Try.prog 9 := Maps.string_keyed Try.underlying9
theorem strKey (x : List UInt8) (hx : x.length ≤ maxLen) : keyOf Try.prog 9 (.string ⟨x.toArray⟩) = some (.string x) := by
  have := Go.WideMaps.keyOf_string_mk (P := Try.prog) Try.underlying9 (s := ⟨x.toArray⟩) (by show x.toArray.size ≤ maxLen; simpa using hx)
  simpa using this
/-- block b is a set of strings -/
def StrMap (w : World) (b n : Nat) (l : List (List UInt8)) : Prop := ∃ D : DataW Unit, w.ownsMap Try.prog 9 (plainElem Try.prog 3) b n D ∧ ∀ x, Maps.has D (.string x) = decide (x ∈ l)
theorem StrMap.made (w : World) : StrMap (w.alloc (.map #[] 0)) w.heap.size 0 [] := ⟨.map [], World.ownsMap_made _ _ _ _, fun x => by simp [Maps.has]⟩
section
variable {ops : Array Oper} {rest : List Oper} {o : Oper} {a : Act} {Q : Exit → Act → World → Prop} {w : World}
theorem wpL_put_str (m x v : Operand) (b n : Nat) (l : List (List UInt8)) (s : List UInt8)
    (hc : o.guard = none ∧ o.op = Op.mapUpdate 109 m x v ∧ a.eval m = .map (some b) ∧ a.eval x = .string ⟨s.toArray⟩ ∧ a.eval v = .int .i64 1) (h : StrMap w b n l ∧ s.length ≤ maxLen ∧ n < maxLen)
    (hK : ∀ w', StrMap w' b (n + 1) (l ++ [s]) → w.grownBy w' (some b) → wpList Try.prog ops Q rest (a.put o.dst undef) w') : wpList Try.prog ops Q (o :: rest) a w := by
  have hkl := strKey s h.2.1
  obtain ⟨D, h1, h2⟩ := h.1
  have hm := h1.isMap
  refine wpList_mapUpdate_own w hc.1 m x v 109 hc.2.1 9 3 strKeyed Try.underlying109 _ b n D hc.2.2.1 h1 h.2.2 _ _ (.string s) hc.2.2.2.1 hc.2.2.2.2 hkl (.lit (.int .i64 1)) [] (plainElem_int Try.underlying3 (by decide)) fun w' g1 g2 => hK w' ⟨_, g1, fun y => ?_⟩ g2
  by_cases he : y = s
  · subst he
    rw [Maps.has_put_same hm (strKeyed.key hkl)]; simp
  · rw [Maps.has_put_other (fun e => he (by simpa using e)), h2 y]; simp [he]
/-- []byte(s) -/
theorem wpL_bytes_of (x : Operand) (s : List UInt8) (hc : o.guard = none ∧ o.op = .convert 9 25 x ∧ a.eval x = .string ⟨s.toArray⟩) (hs : s.length ≤ maxLen)
    (hK : ∀ c w1, Below w.heap.size w w1 → BytesAt (fun b => w.heap.size ≤ b) w1 (.slice (some ⟨w.heap.size, 0, none⟩) s.length c) s → wpList Try.prog ops Q rest (a.put o.dst (.slice (some ⟨w.heap.size, 0, none⟩) s.length c)) w1) :
    wpList Try.prog ops Q (o :: rest) a w := by
  have hrun := run_bytes_of_string (P := Try.prog) w 9 25 5 ⟨s.toArray⟩ Try.underlying9 Try.underlying25 Try.underlying5
  have hsz : (⟨s.toArray⟩ : ByteArray).size = s.length := by show s.toArray.size = _; simp
  rw [hsz] at hrun
  obtain ⟨cap, hcap⟩ : ∃ cap, cap = grownCap w s.length 0 5 := ⟨_, rfl⟩
  have h1 : s.length ≤ cap := by rw [hcap]; exact grownCap_ge _ _ _ _
  have h2 : cap ≤ maxLen := by rw [hcap]; exact grownCap_le_maxLen _ _ _ _ hs
  rw [← hcap] at hrun
  obtain ⟨C, hC⟩ : ∃ C, C = bytesRow ⟨s.toArray⟩ cap := ⟨_, rfl⟩
  have hCs : C.size = cap := by rw [hC]; simp [bytesRow, hsz]; omega
  rw [← hC, hCs] at hrun
  have hnew : (w.drew.alloc (.cells C 5 (cap, cap + 1))).heap[w.heap.size]? = some (.cells C 5 (cap, cap + 1)) := by
    show (w.heap.push _)[w.heap.size]? = _; simp
  have hb : Below w.heap.size w (w.drew.alloc (.cells C 5 (cap, cap + 1))) := by
    have := Bel.alloc (Bel.drew (Bel.refl w)) (.cells C 5 (cap, cap + 1))
    exact this
  refine wpList_plain hc.1 fun K' hK' => ?_
  unfold Oper.wp
  simp only [execOp, hc.2.1, hc.2.2, Sem.run_bind, hrun, Result.andThen_ok, Sem.run_pure]
  refine hK' _ _ (hK cap _ hb ⟨some ⟨w.heap.size, 0, none⟩, cap, rfl, h1, h2, (fun e => by cases e), fun _ => ⟨_, _, rfl, Nat.le_refl _, fun i y hi => ⟨[.int .u8 (y.toNat : Int)], rfl, rfl, fun j u hu => ?_⟩⟩, fun b o j ha hj => ?_⟩)
  · match j, hu with
    | 0, hu =>
      simp only [List.getElem?_cons_zero, Option.some.injEq] at hu
      subst hu
      rw [cell_of_row _ _ _ _ _ _ hnew, hC]
      obtain ⟨hi1, hi2⟩ := List.getElem?_eq_some_iff.1 hi
      subst hi2
      rw [bytesRow, Nat.zero_add, Nat.mul_one, Nat.add_zero, Array.getElem?_append_left (by simp; omega)]
      simp [hi1]
  · simp only [Option.some.injEq, Addr.mk.injEq, and_true] at ha
    obtain ⟨rfl, rfl⟩ := ha
    simp only [World.frozen?, hnew]
    simp
    omega
end
set_option maxRecDepth 100000 in
theorem sortNil_any (w : World) (lb : Array Value) :
    Calls Try.prog 87 #[.iface 22 (.slice none 0 0), .func (.func 88) #[] lb] w fun e w' => e = .returned (.tuple #[]) ∧ Below w.heap.size w w' := by
  have hS := Any.sort_Slice_tiny saSort 22 25 slT slE (by kernel_rfl) (by kernel_rfl) (by kernel_rfl) (by kernel_rfl) 23 slKind none 0 0 (by omega) 115 (by
    rw [show Lib.swapperK 0 slE 23 = 1 from by simp [Lib.swapperK]]
    kernel_rfl) (.func 88) #[] lb w
  change Calls Try.prog 87 _ _ _ at hS
  refine hS.mono ?_
  rintro e w' ⟨rfl, os, rfl⟩
  exact ⟨rfl, rfl, rfl, rfl, by simp, fun k hk => Sort.heap_grow_old _ _ hk⟩
end Go.Proofs.Ytndkkgkcbbmnpaa
namespace Go.Pg
open Go.RowKit
theorem rising_of (ts ss l : List (List UInt8)) (hp : ts.Perm ss) (hs : ts.Pairwise fun x y => ¬ y < x) (hnd : ss.Nodup) (hm : ∀ x, x ∈ ss ↔ x ∈ l) : ts.Pairwise (· < ·) ∧ ∀ x, x ∈ ts ↔ x ∈ l := by
  refine ⟨?_, fun x => (hp.mem_iff).trans (hm x)⟩
  have hnd' : ts.Nodup := hp.nodup_iff.2 hnd
  exact (hs.and hnd').imp fun {a b} h => by
    by_cases h1 : a < b
    · exact h1
    · exact absurd (List.le_antisymm (List.not_lt.1 h.1) (List.not_lt.1 h1)) h.2
end Go.Pg
namespace Go.Proofs.Ytndkkgkcbbmnpaa
open Go.RowKit Go.Pg
open Go.Proofs (encStr)

/-- rising texts, the same as those of l, in memory of their own -/
def SortD (w : World) (l : List (List UInt8)) (e : Ending) (w' : World) : Prop :=
  ∃ a n c ts, e = .returned (.slice a n c) ∧ RowsAt (fresh w) w' (.slice a n c) ts ∧ (ts.Pairwise (· < ·) ∧ ∀ x, x ∈ ts ↔ x ∈ l) ∧ Below w.heap.size w w'

set_option maxRecDepth 100000 in
set_option maxHeartbeats 8000000 in
theorem sorted_any (F : Nat → Prop) (w : World) (a : Option Addr) (n c : Nat) (l : List (List UInt8)) (h : RowsAt F w (.slice a n c) l) (hlen : n ≤ 1099511627776) (hx : ∀ x ∈ l, x.length ≤ 140737488351232) :
    Calls Try.prog 66 #[.slice a n c] w (SortD w l) := by
  have hn : n = l.length := by
    obtain ⟨a', c', hv, -⟩ := SliceAt.len h
    simp only [Value.slice.injEq] at hv
    exact hv.2.1
  obtain ⟨i0, hi, hz0, hz1, hz2⟩ := info_parts infoRow
  have hmm := @run_makeMap Try.prog
  have HN := Lib.hid hn
  have HX := Lib.hid hx
  have HH := Lib.hid h
  clear hn hx h
  go_enter Try.func66, Try.ntmps66
  go_wp2
  go_loopw [11] (fun i wr => ∃ k : Nat, k ≤ n ∧ i = .int .i64 k ∧ Hid (StrMap wr w.heap.size k (l.take k)) ∧ Hid (Below w.heap.size w wr)) (fun i _ => n - (intOf i).toNat)
  case atStart => exact ⟨0, Nat.zero_le _, rfl, Lib.hid (StrMap.made w), Lib.hid (Bel.alloc (Bel.refl w) _)⟩
  case round =>
    obtain ⟨k, hk, rfl, HM, HB⟩ := hrel
    have hN := HN.out
    by_cases hlt : k < n
    · rcases SliceAt.split HH.out with ⟨_, h0⟩ | ⟨b, o, rfl, -, -, -⟩
      · omega
      have hkl : k < l.length := by omega
      obtain ⟨u, c0, t0⟩ := RowsAt.cell (RowsAt.below HH.out HB.out) k hkl
      have htk : l.take (k + 1) = l.take k ++ [l[k]] := List.take_succ_eq_append_getElem hkl
      have hxl := HX.out l[k] (List.getElem_mem _)
      obtain ⟨x, hxx⟩ : ∃ x, x = l[k] := ⟨_, rfl⟩
      rw [← hxx] at htk hxl t0
      obtain ⟨au, cu, rfl, -, -, -⟩ := SliceAt.len t0
      have s1 := run_string_at (P := Try.prog) t0 25 5 9 Try.underlying25 Try.underlying5 Try.underlying9
      obtain ⟨m, hm⟩ : ∃ m, m = x.length := ⟨_, rfl⟩
      rw [← hm] at c0 s1
      have HTK := Lib.hid htk
      have HXL := Lib.hid hxl
      have hkz : (0 : Int) ≤ (k : Int) := by omega
      have hkn : (k : Int) < (n : Int) := by omega
      clear t0 htk hxl hxx hm hN
      go_wp2_with (at_mapUpdate; refine wpL_put_str (.tmp 15) (.tmp 17) (.const (.int .i64 1)) w.heap.size k (l.take k) x ⟨rfl, rfl, rfl, rfl, rfl⟩ ⟨HM.out, (show x.length ≤ maxLen by have := HXL.out; unfold maxLen; omega), (show k < maxLen by unfold maxLen; omega)⟩ ?_; intro w2 hm2 hg2)
      have HM2 : Hid (StrMap w2 w.heap.size (k + 1) (l.take (k + 1))) := Lib.hid (by rw [HTK.out]; exact hm2)
      have HB2 := Lib.hid (HB.out.grown hg2 HB.out.size (fun j hj => by cases hj; exact Nat.le_refl _))
      clear hm2 hg2
      go_roundw
      case rel => exact ⟨k + 1, by omega, num_eq (by omega), HM2, HB2⟩
      case measure => simp [intOf]; omega
    · obtain rfl : n = k := by omega
      obtain ⟨wo, rfl⟩ : ∃ W, W = wr := ⟨_, rfl⟩
      obtain ⟨D, hD1, hD2⟩ := HM.out
      have hD2' : ∀ x, Maps.has D (.string x) = decide (x ∈ l) := fun x => by rw [hD2 x, List.take_of_length_le (by omega)]
      have hDs := hD1.size_le
      have hBlt := hD1.lt
      obtain ⟨W1, hW1⟩ : ∃ W : World, W = wo.alloc (.cells #[.slice none 0 0] 22) := ⟨_, rfl⟩
      have hk1 : W1.heap[wo.heap.size]? = some (.cells #[.slice none 0 0] 22 (0, 0)) := by rw [hW1]; exact heap_alloc_new wo _
      have hs1 : W1.heap.size = wo.heap.size + 1 := by rw [hW1]; simp
      have hb1 : Below w.heap.size w W1 := by rw [hW1]; exact Bel.alloc HB.out _
      have hown1 : W1.ownsMap Try.prog 9 (plainElem Try.prog 3) w.heap.size n D := by rw [hW1]; exact hD1.alloc _
      have HD2 := Lib.hid hD2'
      have HDS := Lib.hid hDs
      have HBLT := Lib.hid hBlt
      have HW1 := Lib.hid hW1
      have HK1 := Lib.hid hk1
      have HS1 := Lib.hid hs1
      have HB1 := Lib.hid hb1
      have HOWN1 := Lib.hid hown1
      clear hD1 hD2 hD2' hDs hBlt hW1 hk1 hs1 hb1 hown1 hN hlt
      go_wp2_with ((try rw [← HW1.out]); at_range; refine wpList_range_own _ rfl _ 109 rfl 9 3 strKeyed Try.underlying109 _ w.heap.size n D rfl HOWN1.out ?next)
      case next =>
      intro w0 hrg0 hg0 hs0
      rw [HS1.out] at hrg0 ⊢
      have hw0 : w0.heap.size = wo.heap.size + 2 := by rw [hs0, HS1.out]
      have HRG0 := Lib.hid hrg0
      have HK0 := Lib.hid ((hg0.block wo.heap.size (by rw [HS1.out]; omega) (by simp)).trans HK1.out)
      have HB0 := Lib.hid (HB1.out.grown hg0 HB1.out.size (fun j hj => by cases hj))
      have HS0 := Lib.hid hw0
      clear hrg0 hg0 hs0 hw0
      go_wp2_with fail
      go_loopw [7] (fun _ wz => ∃ (left : Lit → Bool) (cnt : Nat) (ss : List (List UInt8)) (v2 : Value), Hid (wz.ranges Try.prog 9 (plainElem Try.prog 3) w.heap.size (wo.heap.size + 1) n D left cnt) ∧ Hid (Collected D left ss) ∧ Hid (ss.length + cnt ≤ Maps.size D) ∧
          Hid (wz.heap[wo.heap.size]? = some (.cells #[v2] 22 (0, 0))) ∧ Hid (OwnList rowR (fun b => w0.heap.size ≤ b) w0.heap.size wz 25 1 v2 ss) ∧ Hid (Below w.heap.size w wz) ∧ Hid (w0.heap.size ≤ wz.heap.size)) (fun _ wz => wz.rangeLeft w.heap.size (wo.heap.size + 1))
      case atStart => exact ⟨_, _, [], _, HRG0, Lib.hid (Collected.start D), Lib.hid (by simp), HK0, Lib.hid OwnList.nil, HB0, Lib.hid (Nat.le_refl _)⟩
      case round =>
        obtain ⟨left, cnt, ss, v2, HRG, HC, HCS, HK2, HO, HBZ, HSZ⟩ := hrel
        obtain ⟨av, cv, hv2, -, -, -⟩ := HO.out.len
        obtain ⟨q, hq⟩ : ∃ q, q = ss.length := ⟨_, rfl⟩
        rw [← hq] at hv2
        have HQ := Lib.hid hq
        clear hq
        subst hv2
        have hqb : q ≤ 1099511627776 := by have := HCS.out; have := HDS.out; have := HQ.out; omega
        have c6 := cells1 HK2.out
        have f6 := frozen_of_row wr wo.heap.size 0 _ _ HK2.out
        go_wp2_with (at_next; refine wpList_next_ranges _ rfl _ rfl 9 strKeyed (plainElem Try.prog 3) encStr (Value.int .i64) (fun key kl hk => by obtain ⟨x, hx, _⟩ := Maps.keyOf_str Try.underlying9 hk; exact ⟨x, hx⟩) (fun v y hv => by obtain ⟨c, rfl, _⟩ := plainElem_int_inv Try.underlying3 hv; exact ⟨c, rfl⟩) w.heap.size (wo.heap.size + 1) n D left cnt rfl HRG.out ?done ?more)
        case done =>
          intro hc0 hl0
          have hmem : ∀ x, x ∈ ss ↔ x ∈ l := fun x => by
            rw [HC.out.2 x, HD2.out x, hl0]; simp
          have hnd := HC.out.1
          have HMEM := Lib.hid hmem
          have HND := Lib.hid hnd
          clear hl0 hmem hnd hc0
          have hbox := HK2.out
          rcases Option.eq_none_or_eq_some av with rfl | ⟨ad, rfl⟩
          · have hq0 : q = 0 ∧ cv = 0 := by
              obtain ⟨a', c', hv, h1, h2, h3⟩ := HO.out.len
              simp only [Value.slice.injEq] at hv
              obtain ⟨rfl, h4, rfl⟩ := hv
              have := h3 rfl
              have := HQ.out
              omega
            obtain ⟨rfl, rfl⟩ := hq0
            have hss : ss = [] := List.eq_nil_of_length_eq_zero HQ.out.symm
            subst hss
            go_wp2_with fail
            refine (sortNil_any wr _).mono ?_
            rintro e w3 ⟨rfl, hb3⟩
            have c7 := cell_below hb3 c6
            have HB3 := Lib.hid (Bel.call HBZ.out hb3)
            clear hb3 c6 f6 hbox
            go_wp2_with fail
            go_ret
            exact ⟨none, 0, 0, [], rfl, SliceAt.nil _ _ _ _, ⟨List.Pairwise.nil, HMEM.out⟩, HB3.out⟩
          · have hform : ∃ g, ad = ⟨g, 0, none⟩ ∧ w0.heap.size ≤ g := by
              obtain ⟨F', -, -, xs, ⟨-, hh⟩, -⟩ := HO.out
              rcases hh with ⟨hh, -⟩ | ⟨g, cap, cur, hh, h5, -⟩
              · cases hh
              · simp only [Value.slice.injEq, Option.some.injEq] at hh
                exact ⟨g, hh.1, h5⟩
            obtain ⟨g, rfl, hg⟩ := hform
            have hne : wo.heap.size ≠ g := by have := HS0.out; omega
            have hsort := sort_any (fun b => w0.heap.size ≤ b) w0.heap.size wr g q cv wo.heap.size ss hbox hne HO.out (by have := HQ.out; omega)
            have HSORT := Lib.hid hsort
            clear hsort hbox
            go_wp2_with fail
            refine HSORT.out.mono ?_
            rintro e w3 ⟨rfl, ts, hp, hs, ho, hch⟩
            obtain ⟨hr1, hr2⟩ := rising_of ts ss l hp hs HND.out HMEM.out
            have hbx := (hch.block wo.heap.size (Array.getElem?_eq_some_iff.1 HK2.out).1 hne).trans HK2.out
            have c7 := cells1 hbx
            have hrows : RowsAt (fresh w) w3 (.slice (some ⟨g, 0, none⟩) q cv) ts := ho.at carriedRow (fun b hb _ => by have h1 : w0.heap.size ≤ b := hb; have h2 := HS0.out; have h3 := HB.out.size; show w.heap.size ≤ b; omega) (fun b hb _ => by have h2 := HS0.out; have h3 := HB.out.size; show w.heap.size ≤ b; omega) (by decide)
            have HROWS := Lib.hid hrows
            have HR1 := Lib.hid hr1
            have HR2 := Lib.hid hr2
            have HB3 : Hid (Below w.heap.size w w3) := Lib.hid (HBZ.out.trans (hch.toBelowAt HBZ.out.size (fun k hk e => by have h2 := HS0.out; have h3 := HB.out.size; omega)))
            clear hp hs ho hch hr1 hr2 hbx hrows c6 f6
            go_wp2_with fail
            go_ret
            exact ⟨_, _, _, ts, rfl, HROWS.out, ⟨HR1.out, HR2.out⟩, HB3.out⟩
        case more =>
          intro x ci kl yd yp w2 cnt2 hkey hlk hv hat hrg2 hlt2 hg2 hs2 hen
          obtain ⟨x', ex, rfl, hxm⟩ := Maps.keyOf_str Try.underlying9 hkey
          obtain rfl : x = x' := encStr_inj ex
          have hC2 := HC.out.step hlk hat
          have hown := HO.out.own
          have hblk2 : ∀ k, k < wr.heap.size → k ≠ wo.heap.size + 1 → w2.heap[k]? = wr.heap[k]? := fun k hk hn => hg2.block k hk (fun e => hn (by simpa using e))
          have hb2 : Below w.heap.size w w2 := HBZ.out.grown hg2 HBZ.out.size (fun j hj => by cases hj; have := HB.out.size; omega)
          have hk2 := (hblk2 wo.heap.size (Array.getElem?_eq_some_iff.1 HK2.out).1 (by omega)).trans HK2.out
          have hO2 := HO.out.carry carriedRow (W' := w2) (by rw [hs2]; exact Nat.le_refl _) (fun b hb hlt => hblk2 b hlt (by have := HS0.out; have h1 : w0.heap.size ≤ b := hb; omega)) (fun g hg => hblk2 g (hown g hg).2 (by have := (hown g hg).1; have := HS0.out; omega))
          have hsz2 : w0.heap.size ≤ w2.heap.size := by rw [hs2]; exact HSZ.out
          have hcl2 := hrg2.left_eq
          have hcl1 := HRG.out.left_eq
          have c62 := cells1 hk2
          have f62 := frozen_of_row w2 wo.heap.size 0 _ _ hk2
          have HC2 := Lib.hid hC2
          have HB2 := Lib.hid hb2
          have HK22 := Lib.hid hk2
          have HO2 := Lib.hid hO2
          have HSZ2 := Lib.hid hsz2
          have HRG2 := Lib.hid hrg2
          have HLT2 := Lib.hid hlt2
          have HXM := Lib.hid hxm
          have hen' : (Instr.entry (.pointer (some ⟨wo.heap.size + 1, 0, none⟩))).run Try.prog w2 = .ok (.tuple #[.string ⟨x.toArray⟩, .int .i64 ci]) w2 := hen
          clear hen hkey hlk hv hat hrg2 hlt2 hg2 hs2 ex hxm hC2 hblk2 hb2 hk2 hO2 hsz2 c6 f6 hcl2 hcl1
          go_wp2_with ((with_reducible refine wpL_bytes_of (.tmp 26) x ?_ HXM.out ?nextb); (exact ⟨rfl, rfl, rfl⟩))
          case nextb =>
          intro c1 w3 hb3 hby
          obtain ⟨m, hm⟩ : ∃ m, m = x.length := ⟨_, rfl⟩
          rw [← hm] at hby ⊢
          have hO3 := HO2.out.call carriedRow hb3
          have hsz3 := hb3.size
          have hown2 := HO2.out.own
          obtain ⟨R, hR1, hRo, hRs, hRn⟩ := hO3.push carriedRow (H := fun b => w2.heap.size ≤ b) (cs := [.slice (some ⟨w2.heap.size, 0, none⟩) m c1]) (x := x) ⟨_, rfl, hby⟩ rfl (by decide) (fun b _ hb => ⟨Nat.le_trans HSZ2.out hb, fun e => by have := (hown2 b e).2; omega⟩) 25
          have hle : (ss.length + [x].length) * 24 ≤ 140737488355328 := by have := HQ.out; simp; omega
          have hbase : w0.heap.size ≤ (w3.alloc (.cells [.slice (some ⟨w2.heap.size, 0, none⟩) m c1].toArray 25)).heap.size := by have := HSZ2.out; simp; omega
          have hk3 := (hb3.block wo.heap.size (Array.getElem?_eq_some_iff.1 HK22.out).1).trans HK22.out
          have c63 := cells1 hk3
          have f63 := frozen_of_row w3 wo.heap.size 0 _ _ hk3
          have hrg3 := HRG2.out.kept (row := none) (w' := w3) ⟨hb3.os, hb3.tape, hb3.output, hb3.size, fun k hk _ => hb3.block k hk⟩ (by simp) (by simp)
          have HRN := Lib.hid hRn
          have HRO := Lib.hid hRo
          have HRS := Lib.hid hRs
          have HR1 := Lib.hid hR1
          have HK3 := Lib.hid hk3
          have HB3 := Lib.hid (Bel.call HB2.out hb3)
          have HRG3 := Lib.hid hrg3
          have HLE := Lib.hid hle
          have HBASE := Lib.hid hbase
          have HSZ3 := Lib.hid hsz3
          clear hb3 hby hO3 hsz3 hRn hRo hRs hR1 hk3 hrg3 hm c62 f62 hen' hle hbase
          go_wp2_with (at_builtin; refine wpList_append_at rfl (.tmp 25) (.tmp 28) 22 rfl w0.heap.size 25 i0 (.slice none 0 0) 1 24 underlyingRows hi hz0 hz1 hz2 rfl (by decide) (by decide) HR1.out (.slice av q cv) ss rfl HRO.out _ [x] (fun _ => True) rfl HRS.out HLE.out HBASE.out ?nextc)
          case nextc =>
          intro v' w4 ho hg hm
          have hO4 := HRN.out _ _ ho hg hm
          obtain ⟨a4, c4, hv4, -, -, -⟩ := hO4.len
          obtain ⟨q4, hq4⟩ : ∃ q4, q4 = (ss ++ [x]).length := ⟨_, rfl⟩
          rw [← hq4] at hv4
          subst hv4
          have hblk4 : ∀ k, k < w3.heap.size → k < w0.heap.size → w4.heap[k]? = w3.heap[k]? := fun k hk hn => by
            rw [hg.block k (by simp; omega) (fun e => by have := (hown2 k e.symm).1; omega)]
            exact Below.heap_alloc _ _ _ hk
          have hs4 := hg.size
          simp only [World.size_alloc] at hs4
          have hkb := (Array.getElem?_eq_some_iff.1 HK3.out).1
          have hk4 := (hblk4 wo.heap.size hkb (by have := HS0.out; omega)).trans HK3.out
          have c64 := cells1 hk4
          have f64 := frozen_of_row w4 wo.heap.size 0 _ _ hk4
          have hb4 : Below w.heap.size w w4 := (Bel.alloc HB3.out _).grown hg (by have := HB3.out.size; simp; omega) (fun k hk => by have h1 := (hown2 k hk).1; have h2 := HS0.out; have h3 := HB.out.size; omega)
          have hrg4 := (HRG3.out.alloc (.cells [.slice (some ⟨w2.heap.size, 0, none⟩) m c1].toArray 25)).kept hg (fun e => by have h1 := (hown2 _ e.symm).1; have h2 := HS0.out; have h3 := HBLT.out; omega) (fun e => by have h1 := (hown2 _ e.symm).1; have h2 := HS0.out; omega)
          have hset := heap_setCell_same w4 wo.heap.size 0 _ _ (.slice a4 q4 c4) hk4
          have hO5 := hO4.carry carriedRow (W' := w4.setCell ⟨wo.heap.size, 0, none⟩ (.slice a4 q4 c4)) (by simp) (fun b hb _ => Below.heap_setCell _ _ _ _ (by show b ≠ wo.heap.size; have h1 : w0.heap.size ≤ b := hb; have h2 := HS0.out; omega)) (fun k hk => Below.heap_setCell _ _ _ _ (by show k ≠ wo.heap.size; have h1 := (hO4.own k hk).1; have h2 := HS0.out; omega))
          have hrg5 := hrg4.kept (w' := w4.setCell ⟨wo.heap.size, 0, none⟩ (.slice a4 q4 c4)) (row := some wo.heap.size) ⟨rfl, rfl, rfl, by simp, fun k hk hn => Below.heap_setCell _ _ _ _ (by show k ≠ wo.heap.size; exact fun e => hn (by rw [e]))⟩ (by simp; have := HBLT.out; omega) (by simp)
          have hb5 : Below w.heap.size w (w4.setCell ⟨wo.heap.size, 0, none⟩ (.slice a4 q4 c4)) := hb4.setCell (by show w.heap.size ≤ wo.heap.size; exact HB.out.size) _
          have HO5 := Lib.hid hO5
          have HRG5 := Lib.hid hrg5
          have HB5 := Lib.hid hb5
          have HSET := Lib.hid hset
          have HSZ5 : Hid (w0.heap.size ≤ (w4.setCell ⟨wo.heap.size, 0, none⟩ (.slice a4 q4 c4)).heap.size) := Lib.hid (by have := HSZ2.out; have := HSZ3.out; simp; omega)
          clear ho hg hm hO4 hblk4 hs4 hkb hk4 hb4 hrg4 hset hO5 hrg5 hb5 c63 f63 hq4
          go_wp2_with fail
          go_roundw
          case rel => exact ⟨_, cnt2, ss ++ [x], _, HRG5, HC2, Lib.hid (by have := HCS.out; have := HLT2.out; simp; omega), HSET, HO5, HB5, HSZ5⟩
          case measure => rw [HRG5.out.left_eq, HRG.out.left_eq]; exact HLT2.out
end Go.Proofs.Ytndkkgkcbbmnpaa
namespace Go.Pg
open Go.RowKit
/-- the place of the first text of a digest -/
def firstOf (l : List (List UInt8)) (d : List UInt8) : Option Nat := l.findIdx? fun x => decide (digestOf x = d)
/-- pre: the texts that have been met; the first one of the rest that is unlike the first one of its digest, and that one -/
def clashFrom : List (List UInt8) → List (List UInt8) → Option (List UInt8 × List UInt8)
  | _, [] => none
  | pre, x :: r =>
    match firstOf pre (digestOf x) with
    | none => clashFrom (pre ++ [x]) r
    | some j => if pre.getD j [] = x then clashFrom (pre ++ [x]) r else some (pre.getD j [], x)
def clash (l : List (List UInt8)) : Option (List UInt8 × List UInt8) := clashFrom [] l
theorem firstOf_snoc (l : List (List UInt8)) (x d : List UInt8) : firstOf (l ++ [x]) d = (firstOf l d).or (if digestOf x = d then some l.length else none) := by
  unfold firstOf
  rw [List.findIdx?_append]
  simp only [List.findIdx?_cons, List.findIdx?_nil]
  by_cases h : digestOf x = d <;> simp [h]
theorem firstOf_some (l : List (List UInt8)) (d : List UInt8) (j : Nat) (h : firstOf l d = some j) : ∃ hj : j < l.length, digestOf l[j] = d ∧ ∀ k, (hk : k < j) → digestOf (l[k]'(by omega)) ≠ d := by
  unfold firstOf at h
  rw [List.findIdx?_eq_some_iff_getElem] at h
  obtain ⟨h1, h2, h3⟩ := h
  exact ⟨h1, by simpa using h2, fun k hk => by simpa using h3 k hk⟩
theorem firstOf_none (l : List (List UInt8)) (d : List UInt8) : firstOf l d = none ↔ ∀ x ∈ l, digestOf x ≠ d := by
  unfold firstOf
  rw [List.findIdx?_eq_none_iff]
  simp
theorem clashFrom_next (l : List (List UInt8)) (k : Nat) (h : k < l.length) : clashFrom (l.take k) (l.drop k) =
    match firstOf (l.take k) (digestOf l[k]) with
    | none => clashFrom (l.take (k + 1)) (l.drop (k + 1))
    | some j => if l.getD j [] = l[k] then clashFrom (l.take (k + 1)) (l.drop (k + 1)) else some (l.getD j [], l[k]) := by
  rw [List.drop_eq_getElem_cons h, List.take_succ_eq_append_getElem h]
  simp only [clashFrom]
  cases hf : firstOf (l.take k) (digestOf l[k]) with
  | none => rfl
  | some j =>
    obtain ⟨hj, -⟩ := firstOf_some _ _ _ hf
    rw [List.length_take] at hj
    have : (l.take k).getD j [] = l.getD j [] := by
      rw [List.getD_eq_getElem?_getD, List.getD_eq_getElem?_getD, List.getElem?_take, if_pos (by omega)]
    simp only [this]
theorem clashFrom_end (l : List (List UInt8)) : clashFrom (l.take l.length) (l.drop l.length) = none := by
  rw [List.drop_length]; rfl

/-! ## Values themselves as what a map's elements read as -/
def heldR (v : Value) : Option (DataW Value × List MemPlace) := some (.held v, [])
end Go.Pg
namespace Go.Proofs.Ytndkkgkcbbmnpaa
open Go.RowKit Go.Pg
open Go.Maps (Keyed)

theorem laidOutX : laidOutB Try.prog = true := by kernel_rfl
theorem digKeyed : Keyed Try.prog 37 := Keyed.of_law (deep_law_laid laidOutX (m := 2) (by omega) (k := 37) (of_decide_eq_true (by kernel_rfl)) (by kernel_rfl) (by kernel_rfl))
theorem digKey (d : List UInt8) (hd : d.length = 32) : ∃ kl, keyOf Try.prog 37 (.agg (cellsOf d)) = some kl := by
  obtain ⟨m, hm⟩ : ∃ m, Try.prog.types.size + 1 = m + 2 := ⟨Try.prog.types.size - 1, by have : 1 ≤ Try.prog.types.size := of_decide_eq_true (by kernel_rfl); omega⟩
  have hu := underlyingDig
  have c32 : Try.prog.cellsOf 37 = 32 := by kernel_rfl
  have c1 : Try.prog.cellsOf 5 = 1 := by kernel_rfl
  have hk : Try.prog.keyType 37 = true := by kernel_rfl
  have hl : (cellsOf d).toList.length = 32 := by simp [cellsOf, hd]
  have hf : (Value.agg (cellsOf d)).formed Try.prog 37 = true := by simp [Value.formed, hu, c32, cellsOf_size, hd]
  have hone : ∀ i, i < 32 → ∃ x, Try.prog.keyLits (m + 1) 5 (((cellsOf d).toList.drop i).take 1) = some x := fun i hi => by
    obtain ⟨b, hb⟩ : ∃ b : UInt8, ((cellsOf d).toList.drop i).take 1 = [.int .u8 (b.toNat : Int)] := by
      refine ⟨d[i]'(by omega), ?_⟩
      have e : (cellsOf d).toList = d.map fun x => Value.int .u8 (x.toNat : Int) := by simp [cellsOf]
      rw [e, List.drop_eq_getElem_cons (by simp; omega)]
      simp
    rw [hb]
    refine ⟨[.int .u8 (b.toNat : Int)], ?_⟩
    have hw : (Lit.int .u8 (b.toNat : Int)).wf = true := by
      have := b.toNat_lt
      simp [Lit.wf, IntKind.min, IntKind.max, IntKind.signed, IntKind.bits]; omega
    simp [Program.keyLits, Try.underlying5, hw]
  have hmap : ∃ xs, (List.range 32).mapM (fun i => Try.prog.keyLits (m + 1) 5 (((cellsOf d).toList.drop (i * 1)).take 1)) = some xs := by
    have : ∀ l : List Nat, (∀ i ∈ l, i < 32) → ∃ xs, l.mapM (fun i => Try.prog.keyLits (m + 1) 5 (((cellsOf d).toList.drop (i * 1)).take 1)) = some xs := by
      intro l
      induction l with
      | nil => intro _; exact ⟨[], rfl⟩
      | cons i r ih =>
        intro h
        obtain ⟨x, hx⟩ := hone i (h i (List.mem_cons_self ..))
        obtain ⟨xs, hxs⟩ := ih fun j hj => h j (List.mem_cons_of_mem _ hj)
        refine ⟨x :: xs, ?_⟩
        rw [List.mapM_cons, Nat.mul_one, hx, hxs]
        rfl
    exact this _ fun i hi => List.mem_range.1 hi
  obtain ⟨xs, hxs⟩ := hmap
  refine ⟨.string (keyBytes xs.flatten), ?_⟩
  unfold keyOf
  rw [hu]
  simp only [hk, hf, Bool.and_self, if_true]
  rw [hm]
  have hkl : Try.prog.keyLits (m + 2) 37 (Value.agg (cellsOf d)).cells.toList = some xs.flatten := by
    show Try.prog.keyLits (m + 2) 37 (cellsOf d).toList = some xs.flatten
    unfold Program.keyLits
    rw [hu]
    simp only [c1, c32, hl, if_true, hxs, Option.map_some]
  rw [hkl]
  rfl
theorem digKey_ne {d d' : List UInt8} {k k' : Lit} (h : keyOf Try.prog 37 (.agg (cellsOf d)) = some k) (h' : keyOf Try.prog 37 (.agg (cellsOf d')) = some k') (hne : d' ≠ d) : k' ≠ k := by
  rintro rfl
  have := digKeyed.inj h h'
  simp only [Value.agg.injEq] at this
  refine hne ?_
  have h2 : ∀ a b : List UInt8, cellsOf a = cellsOf b → a = b := fun a b hab => by
    have h3 : a.map (fun x : UInt8 => Value.int .u8 (x.toNat : Int)) = b.map fun x : UInt8 => Value.int .u8 (x.toNat : Int) := by simpa [cellsOf] using hab
    refine (List.map_inj_right (fun x y e => ?_)).1 h3
    simp only [Value.int.injEq, true_and, Int.ofNat_inj] at e
    exact UInt8.toNat_inj.1 e
  exact (h2 _ _ this).symm

/-- block b is a map of digests that tells f -/
def Known (w : World) (b n : Nat) (f : List UInt8 → Option Value) : Prop :=
  ∃ D : DataW Value, w.ownsMap Try.prog 37 heldR b n D ∧ ∀ d kl, keyOf Try.prog 37 (.agg (cellsOf d)) = some kl → Maps.has D kl = (f d).isSome ∧ ∀ v z, f d = some v → D.atKey kl z = .held v
theorem Known.made (w : World) : Known (w.alloc (.map #[] 0)) w.heap.size 0 fun _ => none :=
  ⟨.map [], World.ownsMap_made _ _ _ _, fun d kl _ => ⟨rfl, fun v z h => by cases h⟩⟩
theorem Known.kept {w w' : World} {b n : Nat} {f : List UInt8 → Option Value} {row : Option Nat} (h : Known w b n f) (hg : w.grownBy w' row) (hne : some b ≠ row) : Known w' b n f :=
  let ⟨D, h1, h2⟩ := h; ⟨D, h1.kept hg hne, h2⟩
theorem Known.below {w w' : World} {b n : Nat} {f : List UInt8 → Option Value} (h : Known w b n f) (hb : Below w.heap.size w w') : Known w' b n f :=
  h.kept (row := none) ⟨hb.os, hb.tape, hb.output, hb.size, fun k hk _ => hb.block k hk⟩ (by simp)
theorem Known.ext {w : World} {b n : Nat} {f g : List UInt8 → Option Value} (h : Known w b n f) (he : ∀ d, d.length = 32 → f d = g d) : Known w b n g := by
  obtain ⟨D, h1, h2⟩ := h
  refine ⟨D, h1, fun d kl hk => ?_⟩
  have hd : d.length = 32 := by
    unfold keyOf at hk
    rw [underlyingDig] at hk
    simp only at hk
    split at hk
    · rename_i hc
      simp only [Bool.and_eq_true] at hc
      have h3 := hc.2
      have c32 : Try.prog.cellsOf 37 = 32 := by kernel_rfl
      simpa [Value.formed, underlyingDig, c32, cellsOf_size] using h3
    · cases hk
  rw [← he d hd]
  exact h2 d kl hk
section
variable {ops : Array Oper} {rest : List Oper} {o : Oper} {a : Act} {Q : Exit → Act → World → Prop} {w : World}
theorem wpL_lookup_known (m x : Operand) (b n : Nat) (f : List UInt8 → Option Value) (d : List UInt8)
    (hc : o.guard = none ∧ o.op = Op.lookup 83 m x true ∧ a.eval m = .map (some b) ∧ a.eval x = .agg (cellsOf d)) (h : Known w b n f ∧ d.length = 32)
    (hK : wpList Try.prog ops Q rest (a.put o.dst (.tuple #[(f d).getD (.slice none 0 0), .bool (f d).isSome])) w) : wpList Try.prog ops Q (o :: rest) a w := by
  obtain ⟨kl, hkl⟩ := digKey d h.2
  obtain ⟨D, h1, h2⟩ := h.1
  obtain ⟨g1, g2⟩ := h2 d kl hkl
  refine wpList_lookup_own_ok w hc.1 m x 83 hc.2.1 37 25 digKeyed Try.underlying83 heldR (z := .slice none 0 0) (by kernel_rfl) (.held (.slice none 0 0)) [] rfl b n D hc.2.2.1 h1 _ kl hc.2.2.2 hkl fun v ps hv => ?_
  rw [g1]
  cases hf : f d with
  | none =>
    rw [hf] at g1
    rw [Maps.atKey_of_not_has g1] at hv
    simp only [heldR, Option.some.injEq, Prod.mk.injEq, DataW.held.injEq] at hv
    rw [hv.1]
    rw [hf] at hK; exact hK
  | some u =>
    rw [g2 u _ hf] at hv
    simp only [heldR, Option.some.injEq, Prod.mk.injEq, DataW.held.injEq] at hv
    rw [hv.1]
    rw [hf] at hK; exact hK
theorem wpL_update_known (m x v : Operand) (b n : Nat) (f : List UInt8 → Option Value) (d : List UInt8) (val : Value)
    (hc : o.guard = none ∧ o.op = Op.mapUpdate 83 m x v ∧ a.eval m = .map (some b) ∧ a.eval x = .agg (cellsOf d) ∧ a.eval v = val) (h : Known w b n f ∧ d.length = 32 ∧ n < maxLen)
    (hK : ∀ w', Known w' b (n + 1) (fun y => if y = d then some val else f y) → w.grownBy w' (some b) → wpList Try.prog ops Q rest (a.put o.dst undef) w') : wpList Try.prog ops Q (o :: rest) a w := by
  obtain ⟨kl, hkl⟩ := digKey d h.2.1
  obtain ⟨D, h1, h2⟩ := h.1
  have hm := h1.isMap
  have hkk := digKeyed.key hkl
  refine wpList_mapUpdate_own w hc.1 m x v 83 hc.2.1 37 25 digKeyed Try.underlying83 heldR b n D hc.2.2.1 h1 h.2.2 _ val kl hc.2.2.2.1 hc.2.2.2.2 hkl (.held val) [] rfl fun w' g1 g2 => hK w' ⟨_, g1, fun y ky hy => ?_⟩ g2
  dsimp only
  by_cases he : y = d
  · subst he
    rw [hkl] at hy
    cases hy
    rw [if_pos rfl]
    exact ⟨by rw [Maps.has_put_same hm hkk]; rfl, fun v z hv => by cases hv; exact Maps.atKey_put_same hm hkk _ _⟩
  · have hne := digKey_ne hkl hy he
    rw [if_neg he]
    obtain ⟨g3, g4⟩ := h2 y ky hy
    exact ⟨by rw [Maps.has_put_other hne]; exact g3, fun v z hv => by rw [Maps.atKey_put_other hne]; exact g4 v z hv⟩
end

set_option maxRecDepth 100000 in
theorem bEqual_any (F G : Nat → Prop) (w : World) (u v : Value) (x y : List UInt8) (h : BytesAt F w u x) (k : BytesAt G w v y) :
    Calls Try.prog 62 #[u, v] w fun e w' => e = .returned (.bool (x == y)) ∧ w = w' := by
  obtain ⟨a, c, rfl, -, -, -⟩ := SliceAt.len h
  obtain ⟨a', c', rfl, -, -, -⟩ := SliceAt.len k
  have s1 := run_string_at (P := Try.prog) h 25 5 9 Try.underlying25 Try.underlying5 Try.underlying9
  have s2 := run_string_at (P := Try.prog) k 25 5 9 Try.underlying25 Try.underlying5 Try.underlying9
  obtain ⟨n, hn⟩ : ∃ n, n = x.length := ⟨_, rfl⟩
  obtain ⟨n', hn'⟩ : ∃ n, n = y.length := ⟨_, rfl⟩
  rw [← hn] at s1 ⊢
  rw [← hn'] at s2 ⊢
  by_cases hxy : x = y
  · subst hxy
    rw [beq_self_eq_true]
    clear hn hn' h k
    go_enter Try.func62, Try.ntmps62
    go_wp2
    go_ret
    exact ⟨rfl, rfl⟩
  · have hb1 : (x == y) = false := by simp [hxy]
    rw [hb1]
    clear hn hn' h k hxy
    go_enter Try.func62, Try.ntmps62
    go_wp2
    go_ret
    exact ⟨rfl, rfl⟩
end Go.Proofs.Ytndkkgkcbbmnpaa
