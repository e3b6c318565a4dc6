/-
  A list that the call gathers in a slice of its own, its elements with memory of their own: what an append of one more does.
  sort.Slice of a slice of byte strings, by their bytes: the closure; what the call leaves.
  sort.Slice of a slice of byte strings of the call's own: it owns them still, sorted.
  A set of strings, as the walk holds it; []byte of a string; sort.Slice of no slice.
  Cutting a slice of bytes: how what is cut reads.
  Reading items out of bytes, as plain functions: an error's number (0: none), what was read, and the bytes behind it.
  Contracts of (*nest.reader).fail, take.
  Contract of (*nest.reader).size.
  Contracts of nest.plain, nest.number, nest.body, nest.whole.
-/
import Derived.Test.YtndkkgkcbbmnpaaEcAA
import Derived.Lib.RowBridge
import Derived.Sort.LotA
import Derived.Maps.RangeWalk
import Derived.Sort.KeysCollected
import Derived.Laws.IdiomStrings
import Derived.Test.YtndkkgkcbbmnpaaProg
namespace Go.Pg
open Go.RowKit
section
variable {α : Type}
/-- A reading of an element's cells that other memory does not touch. -/
structure Carried (A : (Nat → Prop) → World → List Value → α → Prop) : Prop where
  carry : ∀ {F F' : Nat → Prop} {w w' : World} {cs : List Value} {x : α}, A F w cs x → (∀ b, b < w.heap.size → F b → F' b) → (∀ b, F b → b < w.heap.size → w'.heap[b]? = w.heap[b]?) → A F' w' cs x
  one : ∀ {F : Nat → Prop} {w : World} cs x, A F w cs x → ∀ u ∈ cs, u.oneCell' = true
theorem carriedRow : Carried rowR := ⟨fun h hF hb => h.carry hF hb, fun cs x h => rowR.one cs x h⟩
theorem carriedItem (d : Nat) : Carried (fun F w cs x => ItemAt F w d cs x) := ⟨fun h hF hb => h.carry hF hb, fun cs x h => ItemAt.one d cs x h⟩

/-- v is the call's own, its elements lie in blocks of G, none of them v's own block -/
def OwnList (A : (Nat → Prop) → World → List Value → α → Prop) (G : Nat → Prop) (n : Nat) (W : World) (e : TypeId) (sz : Nat) (v : Value) (l : List α) : Prop :=
  ∃ F : Nat → Prop, (∀ b, F b → G b ∧ b < W.heap.size) ∧ (∀ g, v.ownBlock = some g → ¬ F g) ∧ OwnAt W n e sz (A F W) v l
variable {A : (Nat → Prop) → World → List Value → α → Prop} {G : Nat → Prop} {n : Nat} {W W' : World} {e : TypeId} {sz : Nat} {v : Value} {l : List α}
theorem OwnList.nil : OwnList A G n W e sz (.slice none 0 0) [] :=
  ⟨fun _ => False, fun _ h => h.elim, fun _ _ h => h, OwnAt.nil _ _ _ _ _⟩
theorem OwnList.empty (g : Nat) (c : Nat) (hg : n ≤ g) (hc : c ≤ maxLen) (cs : Array Value) (h : W.heap[g]? = some (.cells cs e (0, 0))) (hs : cs.size = c * sz) : OwnList A G n W e sz (.slice (some ⟨g, 0, none⟩) 0 c) ([] : List α) :=
  ⟨fun _ => False, fun _ h => h.elim, fun _ _ h => h, [], ⟨by simp, .inr ⟨g, c, cs, rfl, hg, h, Nat.zero_le _, hc, hs, by simp⟩⟩, Rows.nil _ _⟩
theorem OwnList.own (h : OwnList A G n W e sz v l) : ∀ k, v.ownBlock = some k → n ≤ k ∧ k < W.heap.size :=
  let ⟨_, _, _, h3⟩ := h; h3.own
theorem OwnList.len (h : OwnList A G n W e sz v l) : ∃ a c, v = .slice a l.length c ∧ l.length ≤ c ∧ c ≤ maxLen ∧ (a = none → c = 0) :=
  let ⟨_, _, _, h3⟩ := h; h3.len
/-- behind a call that writes none of it -/
theorem OwnList.carry (hA : Carried A) (h : OwnList A G n W e sz v l) (hsz : W.heap.size ≤ W'.heap.size)
    (hG : ∀ b, G b → b < W.heap.size → W'.heap[b]? = W.heap[b]?) (ho : ∀ g, v.ownBlock = some g → W'.heap[g]? = W.heap[g]?) : OwnList A G n W' e sz v l := by
  obtain ⟨F, h1, h2, h3⟩ := h
  exact ⟨F, fun b hb => ⟨(h1 b hb).1, Nat.lt_of_lt_of_le (h1 b hb).2 hsz⟩, h2,
    (h3.carry fun g hg _ _ => ho g hg).mono fun cs x _ hx => hA.carry hx (fun _ _ x => x) (fun b hb hlt => hG b (h1 b hb).1 hlt)⟩
theorem OwnList.call (hA : Carried A) (h : OwnList A G n W e sz v l) (hb : Below W.heap.size W W') : OwnList A G n W' e sz v l :=
  h.carry hA hb.size (fun b _ hlt => hb.block b hlt) (fun g hg => hb.block g (h.own g hg).2)
theorem OwnList.at (hA : Carried A) (h : OwnList A G n W e sz v l) {G' : Nat → Prop} (hG : ∀ b, G b → b < W.heap.size → G' b) (hn : ∀ b, n ≤ b → b < W.heap.size → G' b) (hsz : 0 < sz) : SliceAt G' W sz (A G' W) v l := by
  obtain ⟨F, h1, h2, h3⟩ := h
  exact (h3.mono (R' := A G' W) fun cs x _ hx => hA.carry hx (fun b hlt hb => hG b (h1 b hb).1 hlt) (fun _ _ _ => rfl)).at (fun g _ hg hlt => hn g hg hlt) hsz
/-- One more: what the append wants, and what it gives. The new element's cells stand in a block laid for them. -/
theorem OwnList.push (hA : Carried A) (h : OwnList A G n W e sz v l) {H : Nat → Prop} {cs : List Value} {x : α} (hx : A H W cs x) (hcs : cs.length = sz) (_hsz : 0 < sz)
    (hH : ∀ b, b < W.heap.size → H b → G b ∧ v.ownBlock ≠ some b) (t : TypeId) :
    ∃ R : List Value → α → Prop, (∀ cs x, R cs x → ∀ u ∈ cs, u.oneCell' = true) ∧ OwnAt (W.alloc (.cells cs.toArray t)) n e sz R v l ∧
      SliceAt (fun _ => True) (W.alloc (.cells cs.toArray t)) sz R (.slice (some ⟨W.heap.size, 0, none⟩) 1 1) [x] ∧
      ∀ v' W2, OwnAt W2 n e sz R v' (l ++ [x]) → (W.alloc (.cells cs.toArray t)).grownBy W2 v.ownBlock → Moved (W.alloc (.cells cs.toArray t)) v v' → OwnList A G n W2 e sz v' (l ++ [x]) := by
  obtain ⟨F, h1, h2, h3⟩ := h
  refine ⟨A (fun b => F b ∨ (H b ∧ b < W.heap.size)) W, hA.one, ?_, ?_, ?_⟩
  · exact (h3.carry fun g _ _ hlt => Below.heap_alloc _ _ _ hlt).mono fun cs x _ hx => hA.carry hx (fun b _ hb => .inl hb) (fun _ _ _ => rfl)
  · refine ⟨some ⟨W.heap.size, 0, none⟩, 1, rfl, Nat.le_refl _, by decide, (fun h => by cases h), fun _ => ⟨_, _, rfl, trivial, fun i y hy => ?_⟩, fun b o j ha _ => by simp only [Option.some.injEq, Addr.mk.injEq, and_true] at ha; obtain ⟨rfl, rfl⟩ := ha; simp⟩
    match i, hy with
    | 0, hy =>
      simp only [List.getElem?_cons_zero, Option.some.injEq] at hy
      subst hy
      refine ⟨cs, hcs, hA.carry hx (fun b hlt hb => .inr ⟨hb, hlt⟩) (fun _ _ _ => rfl), fun j u hu => ?_⟩
      simp only [Nat.zero_mul, Nat.zero_add, World.cell?_alloc_new]
      simpa using hu
  · intro v' W2 ho hg hm
    have hs := hg.size
    simp only [World.size_alloc] at hs
    refine ⟨fun b => F b ∨ (H b ∧ b < W.heap.size), ?_, ?_, ?_⟩
    · rintro b (hb | hb)
      · exact ⟨(h1 b hb).1, by have := (h1 b hb).2; omega⟩
      · exact ⟨(hH b hb.2 hb.1).1, by omega⟩
    · intro g hg' hb
      rcases hm g hg' with hv | hv
      · rcases hb with hb | hb
        · exact h2 g hv hb
        · exact (hH g hb.2 hb.1).2 hv
      · simp only [World.size_alloc] at hv
        rcases hb with hb | hb
        · have := (h1 g hb).2; omega
        · omega
    · refine ho.mono fun cs y _ hy => hA.carry hy (fun _ _ x => x) fun b hb hlt => ?_
      rw [hg.block b (by simp; omega) (fun e => ?_), Below.heap_alloc _ _ _ hlt]
      rcases hb with hb | hb
      · exact h2 b e.symm hb
      · exact (hH b hb.2 hb.1).2 e.symm
/-- a row of elements that has just been laid -/
theorem rows_alloc (hA : Carried A) {F F' : Nat → Prop} {xs : List Value} (h : Rows sz (A F W) xs l) (hl : l.length ≤ maxLen) (hF : ∀ b, b < W.heap.size → F b → F' b) (hn : F' W.heap.size) (t : TypeId) :
    SliceAt F' (W.alloc (.cells xs.toArray t)) sz (A F' (W.alloc (.cells xs.toArray t))) (.slice (some ⟨W.heap.size, 0, none⟩) l.length l.length) l := by
  refine ⟨some ⟨W.heap.size, 0, none⟩, l.length, rfl, Nat.le_refl _, hl, (fun h => by cases h), fun _ => ⟨_, _, rfl, hn, fun i x hx => ?_⟩, fun b o j ha _ => by simp only [Option.some.injEq, Addr.mk.injEq, and_true] at ha; obtain ⟨rfl, rfl⟩ := ha; simp⟩
  obtain ⟨cs, h1, h2, h3⟩ := h.2 i x hx
  refine ⟨cs, h1, hA.carry h2 hF (fun b _ hlt => Below.heap_alloc _ _ _ hlt), fun j u hu => ?_⟩
  have := h3 j u hu
  rw [Nat.zero_add, World.cell?_alloc_new]
  simpa using this
end
end Go.Pg
namespace Go.Pg
open Go.RowKit
theorem lt_cmp : ∀ x y : List UInt8, decide (Lib.compareBytes x y < 0) = decide (x < y)
  | [], [] => by simp [Lib.compareBytes]
  | [], _ :: _ => by simp [Lib.compareBytes]
  | _ :: _, [] => by simp [Lib.compareBytes]
  | a :: r, b :: q => by
    have ih := lt_cmp r q
    simp only [Lib.compareBytes, List.cons_lt_cons_iff]
    by_cases h1 : a < b
    · simp [h1]
    · by_cases h2 : b < a
      · have h3 : a ≠ b := fun e => by subst e; exact h1 h2
        simp [h1, h2, h3]
      · have h3 : a = b := by
          have h4 : a.toNat = b.toNat := by
            have g1 : ¬ a.toNat < b.toNat := fun h => h1 (UInt8.lt_iff_toNat_lt.2 h)
            have g2 : ¬ b.toNat < a.toNat := fun h => h2 (UInt8.lt_iff_toNat_lt.2 h)
            omega
          exact UInt8.toNat_inj.1 h4
        subst h3
        simp only [h1, if_false, false_or, true_and]
        exact ih
end Go.Pg
namespace Go.Proofs.Ytndkkgkcbbmnpaa
open Go.RowKit Go.Pg Go.Shelf Go.Lib Go.Sort

set_option maxRecDepth 100000 in
set_option maxHeartbeats 2000000 in
theorem less_any (F : Nat → Prop) (blk n c Bs : Nat) (W : World) (V : Nat → Value) (G : Nat → List UInt8) (hs : W.cell? ⟨Bs, 0, none⟩ = some (.slice (some ⟨blk, 0, none⟩) n c))
    (hc : ∀ t, t < n → W.cell? ⟨blk, 0 + t, none⟩ = some (V t) ∧ BytesAt F W (V t) (G t)) (i j : Nat) (hi : i < n) (hj : j < n) :
    Calls Try.prog 88 #[.int .i64 i, .int .i64 j, .pointer (some ⟨Bs, 0, none⟩)] W fun e w' => e = .returned (.bool (decide (G i < G j))) ∧ ∃ q, w' = W.drewN q := by
  obtain ⟨ci, ti⟩ := hc i hi
  obtain ⟨cj, tj⟩ := hc j hj
  rw [Nat.zero_add] at ci cj
  obtain ⟨x, hx⟩ : ∃ x, x = G i := ⟨_, rfl⟩
  obtain ⟨y, hy⟩ : ∃ y, y = G j := ⟨_, rfl⟩
  obtain ⟨u, hu⟩ : ∃ u, u = V i := ⟨_, rfl⟩
  obtain ⟨v, hv⟩ : ∃ v, v = V j := ⟨_, rfl⟩
  rw [← hx, ← hy, ← lt_cmp]
  rw [← hu] at ci
  rw [← hv] at cj
  rw [← hu, ← hx] at ti
  rw [← hv, ← hy] at tj
  obtain ⟨q, hq⟩ : ∃ q, q = Lib.compareBytes x y := ⟨_, rfl⟩
  rw [← hq]
  have hi' : (i : Int) < (n : Int) := by omega
  have hj' : (j : Int) < (n : Int) := by omega
  have hi0 : (0 : Int) ≤ (i : Int) := by omega
  have hj0 : (0 : Int) ≤ (j : Int) := by omega
  have HQ := Lib.hid hq
  clear hc hx hy hu hv hq
  go_enter Try.func88, Try.ntmps88
  go_wp2
  go_quiet (((go_at_call 68; exact Calls.quiet_of_same ((compare_any F F _ u v x y (ti.draws _) (tj.draws _)).mono fun _ _ ⟨p, q⟩ => ⟨p, q.symm⟩))))
  rw [← HQ.out]
  go_wp2
  go_ret
  exact ⟨rfl, nq, rfl⟩
end Go.Proofs.Ytndkkgkcbbmnpaa
namespace Go.Pg
open Go.RowKit
/-- what a call has written: one row of its caller's; and it may have drawn -/
theorem heap_sortedN {w : World} {g n : Nat} {os : Array Obj} {cur : Array Value} {e : TypeId} {fr : Nat × Nat} (enc : Nat → Value) (d : Array Nat) (hb : w.heap[g]? = some (.cells cur e fr)) :
    (Sort.grow (Sort.putRow enc (Sort.ahead w n) g 0 d) os).heap[g]? = some (.cells (Sort.putCells enc 0 d cur) e fr) := by
  have hg : g < w.heap.size := (Array.getElem?_eq_some_iff.1 hb).1
  rw [Sort.heap_grow_old _ _ (by simpa using hg)]
  simp [Sort.putRow, Sort.mapBlock, Sort.ahead, Array.getElem?_modify, hb, Sort.onCells]
theorem heap_sortedO {w : World} {g n : Nat} {os : Array Obj} (enc : Nat → Value) (d : Array Nat) (k : Nat) (hk : k < w.heap.size) (hne : k ≠ g) :
    (Sort.grow (Sort.putRow enc (Sort.ahead w n) g 0 d) os).heap[k]? = w.heap[k]? := by
  rw [Sort.heap_grow_old _ _ (by simpa using hk)]
  have : g ≠ k := fun e => hne e.symm
  simp [Sort.putRow, Sort.mapBlock, Sort.ahead, Array.getElem?_modify, this]
theorem take_putCellsN (enc : Nat → Value) (cur : Array Value) (d : Array Nat) (h : d.size ≤ cur.size) : (Sort.putCells enc 0 d cur).toList.take d.size = d.toList.map enc := by
  apply List.ext_getElem?
  intro j
  by_cases hj : j < d.size
  · rw [List.getElem?_take_of_lt hj, Array.getElem?_toList]
    simp [Sort.putCells, hj, show j < cur.size by omega]
  · rw [List.getElem?_take_eq_none (by omega), List.getElem?_eq_none (by simp; omega)]
end Go.Pg
namespace Go.Proofs.Ytndkkgkcbbmnpaa
open Go.RowKit Go.Pg

noncomputable def slT : TypeInfo := (Try.prog.info? 22).get (by kernel_rfl)
noncomputable def slE : TypeInfo := (Try.prog.info? 25).get (by kernel_rfl)
theorem slKind (w : World) : (Extern.Rtype.kind 25).run Try.prog w = .ok 23 w := by kernel_rfl

/-- a slice of the call's own, sorted -/
def Sorted (G : Nat → Prop) (N : Nat) (w : World) (g n c : Nat) (ss : List (List UInt8)) (e : Ending) (w' : World) : Prop :=
  e = .returned (.tuple #[]) ∧ ∃ ts : List (List UInt8), ts.Perm ss ∧ ts.Pairwise (fun x y => ¬ y < x) ∧ OwnList rowR G N w' 25 1 (.slice (some ⟨g, 0, none⟩) n c) ts ∧ Chg (fun k => k = g) w w'

set_option maxRecDepth 100000 in
set_option maxHeartbeats 4000000 in
theorem sort_any (G : Nat → Prop) (N : Nat) (w : World) (g n c Bx : Nat) (ss : List (List UInt8)) (hb : w.heap[Bx]? = some (.cells #[.slice (some ⟨g, 0, none⟩) n c] 22 (0, 0))) (hne : Bx ≠ g)
    (ho : OwnList rowR G N w 25 1 (.slice (some ⟨g, 0, none⟩) n c) ss) (hss : ss.length ≤ 1099511627776) :
    Calls Try.prog 87 #[.iface 22 (.slice (some ⟨g, 0, none⟩) n c), .func (.func 88) #[] #[.pointer (some ⟨Bx, 0, none⟩)]] w (Sorted G N w g n c ss) := by
  obtain ⟨F, h1, h2, xs, ⟨hxl, hown⟩, hrows⟩ := ho
  have hF : ¬ F g := h2 g rfl
  rcases hown with ⟨hnil, -⟩ | ⟨g', cap, cur, hv, hN, hg, hnc, hcm, hcs, htake⟩
  · cases hnil
  simp only [Value.slice.injEq, Option.some.injEq, Addr.mk.injEq, and_true] at hv
  obtain ⟨rfl, rfl, rfl⟩ := hv
  rw [Nat.mul_one] at hxl hcs htake
  obtain ⟨n, hn⟩ : ∃ n, n = ss.length := ⟨_, rfl⟩
  rw [← hn] at hxl hnc htake hb ⊢
  have hglt := (Array.getElem?_eq_some_iff.1 hg).1
  have hblt := (Array.getElem?_eq_some_iff.1 hb).1
  obtain ⟨enc, henc⟩ : ∃ f : Nat → Value, f = fun i => xs.getD i (.slice none 0 0) := ⟨_, rfl⟩
  obtain ⟨Gc, hGc⟩ : ∃ f : Nat → List UInt8, f = fun i => ss.getD i [] := ⟨_, rfl⟩
  have hread : ∀ i, BytesAt F w (enc i) (Gc i) := fun i => by
    rw [henc, hGc]
    dsimp only
    by_cases hi : i < n
    · obtain ⟨cs, k1, ⟨u, rfl, k2⟩, k3⟩ := hrows.2 i ss[i] (by simp)
      have := k3 0 u rfl
      rw [Nat.mul_one, Nat.add_zero] at this
      rw [List.getD_eq_getElem?_getD, this, List.getD_eq_getElem?_getD, List.getElem?_eq_getElem (by omega)]
      exact k2
    · rw [List.getD_eq_getElem?_getD, List.getElem?_eq_none (by omega), List.getD_eq_getElem?_getD, List.getElem?_eq_none (by omega)]
      exact BytesAt.nil _ _
  have hone : ∀ i, (enc i).oneCell' = true := fun i => by
    obtain ⟨a, c, hv, -⟩ := SliceAt.len (hread i)
    rw [hv]; rfl
  have hrd : ∀ (W : World), (∀ k, k < w.heap.size → k ≠ g → W.heap[k]? = w.heap[k]?) → ∀ i, BytesAt F W (enc i) (Gc i) := fun W hW i => BytesAt.carry (hread i) (fun _ _ x => x) (fun b hb hlt => hW b hlt (fun e => hF (e ▸ hb)))
  by_cases h2n : 2 ≤ n
  · obtain ⟨d, hd⟩ : ∃ d : Array Nat, d = Array.range n := ⟨_, rfl⟩
    have hds : d.size = n := by rw [hd]; simp
    have hdg : ∀ j, j < n → d[j]! = j := fun j hj => by rw [hd, getElem!_pos _ j (by simpa using hj)]; simp
    have hH : Sort.Holds enc w g 0 d := fun j hj => by
      rw [hds] at hj
      refine ⟨?_, by simp [World.frozen?, hg]⟩
      rw [hdg j hj, cell_of_row _ _ _ _ _ _ hg, Nat.zero_add]
      have e1 : (cur.toList.take n)[j]? = xs[j]? := by rw [htake]
      rw [List.getElem?_take_of_lt hj, Array.getElem?_toList] at e1
      rw [e1, henc]
      dsimp only
      rw [List.getD_eq_getElem?_getD, List.getElem?_eq_getElem (by omega)]
      rfl
    have hless : LessReads Try.prog 88 #[.pointer (some ⟨Bx, 0, none⟩)] enc (fun i j => decide (Gc i < Gc j)) g 0 d.size w := by
      intro m os dk hs i j hi hj
      have e : sortWorld enc w g 0 m dk os = Sort.grow (Sort.putRow enc (Sort.ahead w m) g 0 dk) os := rfl
      have hall : ∀ k, k < w.heap.size → k ≠ g → (sortWorld enc w g 0 m dk os).heap[k]? = w.heap[k]? := fun k hk hn => by rw [e]; exact heap_sortedO enc dk k hk hn
      refine less_any F g n c Bx _ (fun t => enc dk[t]!) (fun t => Gc dk[t]!) ?_ (fun t ht => ⟨?_, hrd _ hall _⟩) i j (by omega) (by omega)
      · rw [cell_of_row _ _ _ _ _ _ ((hall Bx hblt hne).trans hb)]; rfl
      · rw [e, cell_of_row _ _ _ _ _ _ (heap_sortedN enc dk hg), Nat.zero_add]
        have htc : t < cur.size := by omega
        have hts : t < dk.size := by omega
        simp [Sort.putCells, htc, hts]
    have hO : Sort.SWO fun i j => decide (Gc i < Gc j) := ⟨fun x => Sort.swo_ltStr.irrefl (Gc x), fun x y z => Sort.swo_ltStr.trans (Gc x) (Gc y) (Gc z), fun x y z => Sort.swo_ltStr.ntrans (Gc x) (Gc y) (Gc z)⟩
    have hK : Lib.swapperK d.size slE 23 = 9 := by
      have a : slE.hasPointers = true := by kernel_rfl
      have b : slE.bytes = 24 := by kernel_rfl
      have c0 : (d.size == 0) = false := by rw [hds]; simp; omega
      have c1 : (d.size == 1) = false := by rw [hds]; simp; omega
      simp [Lib.swapperK, a, b, c0, c1]
    have hS := Any.sort_Slice_sorted saSort 22 25 slT slE (by kernel_rfl) (by kernel_rfl) (by kernel_rfl) (by kernel_rfl) 23 slKind (by kernel_rfl) (fun _ => by kernel_rfl) enc hone (fun i j => decide (Gc i < Gc j)) hO 88 _
      (enters_of Try.func88 (by kernel_rfl) rfl) g 0 c d (by omega) (by omega) 123 (by rw [hK]; kernel_rfl) false
      (fun args W => run_callFunc_extern Try.func123 (by kernel_rfl) (by kernel_rfl) (by kernel_rfl) (e := Extern.ReflectliteSwapper.swap false) (by kernel_rfl) args W) w hless hH hglt
    rw [hds] at hS
    change Calls Try.prog 87 _ _ _ at hS
    refine hS.mono ?_
    rintro e w' ⟨rfl, d', nd, os, hP, hSo, rfl⟩
    obtain ⟨hsz, -, hperm⟩ := hP
    have e1 : d'.extract 0 n = d' := by rw [show n = d'.size by omega]; exact Array.extract_size
    have e2 : d.extract 0 n = d := by rw [← hds]; exact Array.extract_size
    rw [e1, e2] at hperm
    have hmap : d.toList.map Gc = ss := by
      rw [hd, Array.toList_range]
      apply List.ext_getElem?
      intro j
      rw [List.getElem?_map, hGc]
      by_cases hj : j < n
      · rw [List.getElem?_range hj, List.getElem?_eq_getElem (by omega)]
        simp only [Option.map_some]
        rw [List.getD_eq_getElem?_getD, List.getElem?_eq_getElem (by omega)]; rfl
      · rw [List.getElem?_eq_none (by simp; omega), List.getElem?_eq_none (by omega)]; rfl
    have hall : ∀ k, k < w.heap.size → k ≠ g → (Sort.grow (Sort.putRow enc (Sort.ahead w nd) g 0 d') os).heap[k]? = w.heap[k]? := fun k hk hn => heap_sortedO enc d' k hk hn
    have hgs := heap_sortedN (n := nd) (os := os) enc d' hg
    refine ⟨rfl, d'.toList.map Gc, ?_, ?_, ⟨F, fun b hb => ⟨(h1 b hb).1, by have := (h1 b hb).2; simp; omega⟩, h2, d'.toList.map enc, ⟨by simp, .inr ⟨g, c, _, by simp [hsz, hds], hN, hgs, by simp; omega, hcm, by simp [Sort.putCells, hcs], ?_⟩⟩, ?_⟩, ?_⟩
    · have := hperm.map Gc
      rw [hmap] at this
      exact this
    · rw [List.pairwise_map, List.pairwise_iff_getElem]
      intro i j hi hj hij
      have := hSo i j (Nat.zero_le _) hij (by simp at hj; omega)
      simp only [Array.length_toList] at hi hj
      rw [getElem!_pos d' i hi, getElem!_pos d' j hj] at this
      simpa using this
    · rw [Nat.mul_one, List.length_map, Array.length_toList]
      exact take_putCellsN enc cur d' (by omega)
    · refine ⟨by simp, fun i y hi => ?_⟩
      rw [List.getElem?_map] at hi
      cases hq : d'.toList[i]? with
      | none => rw [hq] at hi; cases hi
      | some k =>
        rw [hq] at hi
        simp only [Option.map_some, Option.some.injEq] at hi
        subst hi
        refine ⟨[enc k], rfl, ⟨enc k, rfl, hrd _ hall k⟩, fun j u hu => ?_⟩
        match j, hu with
        | 0, hu =>
          simp only [List.getElem?_cons_zero, Option.some.injEq] at hu
          subst hu
          rw [Nat.mul_one, Nat.add_zero, List.getElem?_map, hq]; rfl
    · exact ⟨rfl, rfl, rfl, by simp, fun k hk hn => hall k hk hn⟩
  · have hK : Lib.swapperK n slE 23 = n + 1 := by
      rcases Nat.eq_zero_or_pos n with h | h
      · subst h; simp [Lib.swapperK]
      · obtain rfl : n = 1 := by omega
        simp [Lib.swapperK]
    have hS := Any.sort_Slice_tiny saSort 22 25 slT slE (by kernel_rfl) (by kernel_rfl) (by kernel_rfl) (by kernel_rfl) 23 slKind (some ⟨g, 0, none⟩) n c (by omega) (115 + n) (by
      rw [hK]
      rcases Nat.eq_zero_or_pos n with h | h
      · subst h; kernel_rfl
      · obtain rfl : n = 1 := by omega
        kernel_rfl) (.func 88) #[] #[.pointer (some ⟨Bx, 0, none⟩)] w
    change Calls Try.prog 87 _ _ _ at hS
    refine hS.mono ?_
    rintro e w' ⟨rfl, os, rfl⟩
    have hall : ∀ k, k < w.heap.size → (Sort.grow w os).heap[k]? = w.heap[k]? := fun k hk => Sort.heap_grow_old _ _ hk
    refine ⟨rfl, ss, List.Perm.refl _, ?_, ⟨F, fun b hb => ⟨(h1 b hb).1, by have := (h1 b hb).2; simp; omega⟩, h2, xs, ⟨by simpa [← hn] using hxl, .inr ⟨g, c, cur, by rw [hn], hN, (hall g hglt).trans hg, by omega, hcm, by simpa using hcs, by rw [Nat.mul_one, ← hn]; exact htake⟩⟩, ?_⟩, ⟨rfl, rfl, rfl, by simp, fun k hk _ => hall k hk⟩⟩
    · match ss, hn with
      | [], _ => exact List.Pairwise.nil
      | [x], _ => simp
      | x :: y :: r, hn => simp at hn; omega
    · exact hrows.mono fun cs x _ hx => by
        obtain ⟨u, rfl, k2⟩ := hx
        exact ⟨u, rfl, BytesAt.carry k2 (fun _ _ x => x) (fun b _ hlt => hall b hlt)⟩
end Go.Proofs.Ytndkkgkcbbmnpaa
namespace Go.Proofs.Ytndkkgkcbbmnpaa
open Go.RowKit Go.Pg
open Go.Maps (Keyed)

theorem strKeyed : Keyed Try.prog 9 := Maps.string_keyed Try.underlying9
theorem strKey (x : List UInt8) (hx : x.length ≤ maxLen) : keyOf Try.prog 9 (.string ⟨x.toArray⟩) = some (.string x) := by
  have := Go.WideMaps.keyOf_string_mk (P := Try.prog) Try.underlying9 (s := ⟨x.toArray⟩) (by show x.toArray.size ≤ maxLen; simpa using hx)
  simpa using this
/-- block b is a set of strings -/
def StrMap (w : World) (b n : Nat) (l : List (List UInt8)) : Prop := ∃ D : DataW Unit, w.ownsMap Try.prog 9 (plainElem Try.prog 3) b n D ∧ ∀ x, Maps.has D (.string x) = decide (x ∈ l)
theorem StrMap.made (w : World) : StrMap (w.alloc (.map #[] 0)) w.heap.size 0 [] := ⟨.map [], World.ownsMap_made _ _ _ _, fun x => by simp [Maps.has]⟩
section
variable {ops : Array Oper} {rest : List Oper} {o : Oper} {a : Act} {Q : Exit → Act → World → Prop} {w : World}
theorem wpL_put_str (m x v : Operand) (b n : Nat) (l : List (List UInt8)) (s : List UInt8)
    (hc : o.guard = none ∧ o.op = Op.mapUpdate 109 m x v ∧ a.eval m = .map (some b) ∧ a.eval x = .string ⟨s.toArray⟩ ∧ a.eval v = .int .i64 1) (h : StrMap w b n l ∧ s.length ≤ maxLen ∧ n < maxLen)
    (hK : ∀ w', StrMap w' b (n + 1) (l ++ [s]) → w.grownBy w' (some b) → wpList Try.prog ops Q rest (a.put o.dst undef) w') : wpList Try.prog ops Q (o :: rest) a w := by
  have hkl := strKey s h.2.1
  obtain ⟨D, h1, h2⟩ := h.1
  have hm := h1.isMap
  refine wpList_mapUpdate_own w hc.1 m x v 109 hc.2.1 9 3 strKeyed Try.underlying109 _ b n D hc.2.2.1 h1 h.2.2 _ _ (.string s) hc.2.2.2.1 hc.2.2.2.2 hkl (.lit (.int .i64 1)) [] (plainElem_int Try.underlying3 (by decide)) fun w' g1 g2 => hK w' ⟨_, g1, fun y => ?_⟩ g2
  by_cases he : y = s
  · subst he
    rw [Maps.has_put_same hm (strKeyed.key hkl)]; simp
  · rw [Maps.has_put_other (fun e => he (by simpa using e)), h2 y]; simp [he]
/-- []byte(s) -/
theorem wpL_bytes_of (x : Operand) (s : List UInt8) (hc : o.guard = none ∧ o.op = .convert 9 25 x ∧ a.eval x = .string ⟨s.toArray⟩) (hs : s.length ≤ maxLen)
    (hK : ∀ c w1, Below w.heap.size w w1 → BytesAt (fun b => w.heap.size ≤ b) w1 (.slice (some ⟨w.heap.size, 0, none⟩) s.length c) s → wpList Try.prog ops Q rest (a.put o.dst (.slice (some ⟨w.heap.size, 0, none⟩) s.length c)) w1) :
    wpList Try.prog ops Q (o :: rest) a w := by
  have hrun := run_bytes_of_string (P := Try.prog) w 9 25 5 ⟨s.toArray⟩ Try.underlying9 Try.underlying25 Try.underlying5
  have hsz : (⟨s.toArray⟩ : ByteArray).size = s.length := by show s.toArray.size = _; simp
  rw [hsz] at hrun
  obtain ⟨cap, hcap⟩ : ∃ cap, cap = grownCap w s.length 0 5 := ⟨_, rfl⟩
  have h1 : s.length ≤ cap := by rw [hcap]; exact grownCap_ge _ _ _ _
  have h2 : cap ≤ maxLen := by rw [hcap]; exact grownCap_le_maxLen _ _ _ _ hs
  rw [← hcap] at hrun
  obtain ⟨C, hC⟩ : ∃ C, C = bytesRow ⟨s.toArray⟩ cap := ⟨_, rfl⟩
  have hCs : C.size = cap := by rw [hC]; simp [bytesRow, hsz]; omega
  rw [← hC, hCs] at hrun
  have hnew : (w.drew.alloc (.cells C 5 (cap, cap + 1))).heap[w.heap.size]? = some (.cells C 5 (cap, cap + 1)) := by
    show (w.heap.push _)[w.heap.size]? = _; simp
  have hb : Below w.heap.size w (w.drew.alloc (.cells C 5 (cap, cap + 1))) := by
    have := Bel.alloc (Bel.drew (Bel.refl w)) (.cells C 5 (cap, cap + 1))
    exact this
  refine wpList_plain hc.1 fun K' hK' => ?_
  unfold Oper.wp
  simp only [execOp, hc.2.1, hc.2.2, Sem.run_bind, hrun, Result.andThen_ok, Sem.run_pure]
  refine hK' _ _ (hK cap _ hb ⟨some ⟨w.heap.size, 0, none⟩, cap, rfl, h1, h2, (fun e => by cases e), fun _ => ⟨_, _, rfl, Nat.le_refl _, fun i y hi => ⟨[.int .u8 (y.toNat : Int)], rfl, rfl, fun j u hu => ?_⟩⟩, fun b o j ha hj => ?_⟩)
  · match j, hu with
    | 0, hu =>
      simp only [List.getElem?_cons_zero, Option.some.injEq] at hu
      subst hu
      rw [cell_of_row _ _ _ _ _ _ hnew, hC]
      obtain ⟨hi1, hi2⟩ := List.getElem?_eq_some_iff.1 hi
      subst hi2
      rw [bytesRow, Nat.zero_add, Nat.mul_one, Nat.add_zero, Array.getElem?_append_left (by simp; omega)]
      simp [hi1]
  · simp only [Option.some.injEq, Addr.mk.injEq, and_true] at ha
    obtain ⟨rfl, rfl⟩ := ha
    simp only [World.frozen?, hnew]
    simp
    omega
end
set_option maxRecDepth 100000 in
theorem sortNil_any (w : World) (lb : Array Value) :
    Calls Try.prog 87 #[.iface 22 (.slice none 0 0), .func (.func 88) #[] lb] w fun e w' => e = .returned (.tuple #[]) ∧ Below w.heap.size w w' := by
  have hS := Any.sort_Slice_tiny saSort 22 25 slT slE (by kernel_rfl) (by kernel_rfl) (by kernel_rfl) (by kernel_rfl) 23 slKind none 0 0 (by omega) 115 (by
    rw [show Lib.swapperK 0 slE 23 = 1 from by simp [Lib.swapperK]]
    kernel_rfl) (.func 88) #[] lb w
  change Calls Try.prog 87 _ _ _ at hS
  refine hS.mono ?_
  rintro e w' ⟨rfl, os, rfl⟩
  exact ⟨rfl, rfl, rfl, rfl, by simp, fun k hk => Sort.heap_grow_old _ _ hk⟩
end Go.Proofs.Ytndkkgkcbbmnpaa
namespace Go.Pg
open Go.RowKit
theorem Chg.atb {lb i : Nat} {a w : World} (h : Chg (fun k => k = lb) a w) (u : Value) : Chg (fun k => k = lb) a (w.setCell ⟨lb, i, none⟩ u) := h.setCell (.inr rfl) u
/-- b[:k] -/
theorem BytesAt.upto {F : Nat → Prop} {w : World} {a : Option Addr} {n c : Nat} {bs : List UInt8} (h : BytesAt F w (.slice a n c) bs) (k : Nat) (hk : k ≤ n) : BytesAt F w (.slice a k c) (bs.take k) := by
  obtain ⟨a', c', hv, h1, h2, h3, h4, h5⟩ := h
  simp only [Value.slice.injEq] at hv
  obtain ⟨rfl, rfl, rfl⟩ := hv
  have hl : (bs.take k).length = k := by simp; omega
  refine ⟨a, c, by rw [hl], by omega, h2, h3, fun hp => ?_, fun b o j ha hj => h5 b o j ha (by rw [hl] at hj; omega)⟩
  obtain ⟨b, o, ha, hF, hc⟩ := h4 (by omega)
  refine ⟨b, o, ha, hF, fun i x hx => hc i x ?_⟩
  rw [List.getElem?_take] at hx
  split at hx
  · exact hx
  · cases hx
/-- b[k:] -/
theorem BytesAt.since {F : Nat → Prop} {w : World} {a a2 : Option Addr} {n c : Nat} {bs : List UInt8} (h : BytesAt F w (.slice a n c) bs) (k : Nat) (hk : k ≤ n) (ha2 : (if c = k then a else a.map (·.add k)) = a2) :
    BytesAt F w (.slice a2 (n - k) (c - k)) (bs.drop k) := by
  obtain ⟨a', c', hv, h1, h2, h3, h4, h5⟩ := h
  simp only [Value.slice.injEq] at hv
  obtain ⟨rfl, rfl, rfl⟩ := hv
  have hl : (bs.drop k).length = bs.length - k := by simp
  refine ⟨a2, c - k, by rw [hl], by omega, by omega, fun hn => ?_, fun hp => ?_, fun b o j ha hj => ?_⟩
  · subst hn
    split at ha2
    · omega
    · simp at ha2; have := h3 ha2; omega
  · rw [hl] at hp
    obtain ⟨b, o, rfl, hF, hc⟩ := h4 (by omega)
    have hck : ¬ c = k := by omega
    rw [if_neg hck] at ha2
    have e : (⟨b, o, none⟩ : Addr).add k = ⟨b, o + k, none⟩ := by unfold Addr.add; split <;> simp_all
    simp only [Option.map_some, e] at ha2
    subst ha2
    refine ⟨b, o + k, rfl, hF, fun i x hx => ?_⟩
    obtain ⟨cs, g1, g2, g3⟩ := hc (k + i) x (by rw [List.getElem?_drop] at hx; exact hx)
    exact ⟨cs, g1, g2, fun j u hu => by have := g3 j u hu; rwa [show o + k + i * 1 + j = o + (k + i) * 1 + j by omega]⟩
  · rw [hl] at hj
    obtain ⟨b', o', rfl, -, -⟩ := h4 (by omega)
    have hck : ¬ c = k := by omega
    have e : (⟨b', o', none⟩ : Addr).add k = ⟨b', o' + k, none⟩ := by unfold Addr.add; split <;> simp_all
    rw [if_neg hck, Option.map_some, e, ha] at ha2
    simp only [Option.some.injEq, Addr.mk.injEq, and_true] at ha2
    obtain ⟨rfl, rfl⟩ := ha2
    have := h5 b' o' (k + j) rfl (by omega)
    rwa [show o' + k + j = o' + (k + j) by omega]
end Go.Pg
namespace Go.Pg
/-- what bytes say as a number -/
def beNum (l : List UInt8) : Nat := l.foldl (fun n c => n * 256 + c.toNat) 0
theorem beNum_snoc (l : List UInt8) (c : UInt8) : beNum (l ++ [c]) = beNum l * 256 + c.toNat := by simp [beNum]
theorem foldl_lt (l : List UInt8) : ∀ a : Nat, l.foldl (fun n c => n * 256 + c.toNat) a < (a + 1) * 256 ^ l.length := by
  induction l with
  | nil => intro a; simp
  | cons c l ih =>
    intro a
    have h1 := ih (a * 256 + c.toNat)
    have h2 := c.toNat_lt
    simp only [List.foldl_cons, List.length_cons, Nat.pow_succ]
    have h3 : (a * 256 + c.toNat + 1) * 256 ^ l.length ≤ ((a + 1) * 256) * 256 ^ l.length := Nat.mul_le_mul_right _ (by omega)
    have h4 : (a + 1) * (256 ^ l.length * 256) = ((a + 1) * 256) * 256 ^ l.length := by rw [Nat.mul_comm (256 ^ l.length), Nat.mul_assoc]
    omega
theorem beNum_lt (l : List UInt8) : beNum l < 256 ^ l.length := by
  have := foldl_lt l 0
  simpa [beNum] using this
/-- a body's size, by what its first byte has above that of an empty one -/
def readSize (n : Nat) (bs : List UInt8) : Nat × Nat × List UInt8 :=
  if n ≤ 55 then (0, n, bs)
  else if 58 < n then (23, 0, bs)
  else if bs.length < n - 55 then (22, 0, bs)
  else if (bs.headD 0) = 0 ∨ beNum (bs.take (n - 55)) ≤ 55 then (23, 0, bs.drop (n - 55))
  else (0, beNum (bs.take (n - 55)), bs.drop (n - 55))
theorem readSize_le (m : Nat) (t : List UInt8) : (readSize m t).2.1 ≤ 16777215 ∧ (readSize m t).2.2.length ≤ t.length := by
  unfold readSize
  split
  · exact ⟨by simp; omega, Nat.le_refl _⟩
  · split
    · exact ⟨by simp, Nat.le_refl _⟩
    · split
      · exact ⟨by simp, Nat.le_refl _⟩
      · split
        · exact ⟨by simp, by simp⟩
        · have h1 := beNum_lt (t.take (m - 55))
          have h2 : (t.take (m - 55)).length ≤ 3 := by rw [List.length_take]; omega
          have h3 : 256 ^ (t.take (m - 55)).length ≤ 256 ^ 3 := Nat.pow_le_pow_right (by omega) h2
          exact ⟨by simp only; omega, by simp⟩
/-- all items of a list's body -/
def rdAll (rd : List UInt8 → Nat × It × List UInt8) : Nat → List UInt8 → Nat × List It
  | 0, _ => (0, [])
  | k + 1, bs => if bs = [] then (0, []) else if (rd bs).1 ≠ 0 then ((rd bs).1, []) else ((rdAll rd k (rd bs).2.2).1, (rd bs).2.1 :: (rdAll rd k (rd bs).2.2).2)
/-- behind a text's size -/
def rdText (r : Nat × Nat × List UInt8) : Nat × It × List UInt8 :=
  if r.1 ≠ 0 then (r.1, .text [], [])
  else if r.2.2.length < r.2.1 then (22, .text [], [])
  else if r.2.1 = 1 ∧ (r.2.2.headD 0).toNat < 128 then (23, .text [], [])
  else (0, .text (r.2.2.take r.2.1), r.2.2.drop r.2.1)
/-- behind a list's size -/
def rdList (rd : List UInt8 → Nat × It × List UInt8) (r : Nat × Nat × List UInt8) : Nat × It × List UInt8 :=
  if r.1 ≠ 0 then (r.1, .text [], [])
  else if r.2.2.length < r.2.1 then (22, .text [], [])
  else if (rdAll rd r.2.1 (r.2.2.take r.2.1)).1 ≠ 0 then ((rdAll rd r.2.1 (r.2.2.take r.2.1)).1, .text [], [])
  else (0, .list (rdAll rd r.2.1 (r.2.2.take r.2.1)).2, r.2.2.drop r.2.1)
/-- the next item, of which so many lists may still be in one another -/
def rdItem : Nat → List UInt8 → Nat × It × List UInt8
  | _, [] => (22, .text [], [])
  | f, c :: t =>
    if c.toNat < 128 then (0, .text [c], t)
    else if c.toNat < 192 then rdText (readSize (c.toNat - 128) t)
    else match f with
      | 0 => (21, .text [], [])
      | f + 1 => rdList (rdItem f) (readSize (c.toNat - 192) t)
/-- bytes that are one item's -/
def rdWhole (bs : List UInt8) : Nat × It :=
  if (rdItem 8 bs).1 ≠ 0 then ((rdItem 8 bs).1, .text []) else if (rdItem 8 bs).2.2 ≠ [] then (24, .text []) else (0, (rdItem 8 bs).2.1)
end Go.Pg
namespace Go.Proofs.Ytndkkgkcbbmnpaa
open Go.RowKit Go.Pg

theorem blk_set {w : World} {g i : Nat} {cs : Array Value} {t : TypeId} {v : Value} (hg : w.heap[g]? = some (.cells cs t (0, 0))) :
    (w.setCell ⟨g, i, none⟩ v).heap[g]? = some (.cells (cs.setIfInBounds i v) t (0, 0)) := heap_setCell_same w g i cs t v hg

/-- the first fault is noted; an empty item is told -/
def Failed (w : World) (rb : Nat) (v : Value) (n : Nat) (e : Ending) (w' : World) : Prop :=
  e = .returned (.agg #[.bool false, .slice none 0 0, .slice none 0 0]) ∧ w'.heap[rb]? = some (.cells #[v, .int .i64 n] 117 (0, 0)) ∧ Chg (fun k => k = rb) w w'
set_option maxHeartbeats 400000 in
theorem fail_any (w : World) (rb : Nat) (a : Option Addr) (n c : Nat) (code : Nat) (hk : w.heap[rb]? = some (.cells #[.slice a n c, .int .i64 0] 117 (0, 0))) :
    Calls Try.prog 108 #[.pointer (some ⟨rb, 0, none⟩), .int .i64 code] w (Failed w rb (.slice a n c) code) := by
  have hlt := (Array.getElem?_eq_some_iff.1 hk).1
  obtain ⟨q0, q1⟩ := cells2 hk
  have f1 := frozen_of_row w rb 1 _ _ hk
  have hne : rb ≠ w.heap.size := by omega
  have HK := Lib.hid hk
  clear hk
  go_enter Try.func108, Try.ntmps108
  go_wp2
  go_returns
  exact ⟨rfl, (Below.heap_alloc _ _ _ (by simpa using hlt)).trans (blk_set HK.out), ((Chg.refl (fun k => k = rb) w).atb (i := 1) _).alloc _⟩

/-- the next k bytes, or none -/
def Took (F : Nat → Prop) (w : World) (rb : Nat) (bs : List UInt8) (k : Nat) (e : Ending) (w' : World) : Prop :=
  ∃ a1 c1 a2 n2 c2, e = .returned (.tuple #[.slice a1 k c1, .bool true]) ∧ BytesAt F w' (.slice a1 k c1) (bs.take k) ∧ BytesAt F w' (.slice a2 n2 c2) (bs.drop k) ∧
    w'.heap[rb]? = some (.cells #[.slice a2 n2 c2, .int .i64 0] 117 (0, 0)) ∧ Chg (fun k => k = rb) w w'
set_option maxHeartbeats 400000 in
theorem take_ok (F : Nat → Prop) (w : World) (rb : Nat) (a : Option Addr) (n c k : Nat) (bs : List UInt8) (h : BytesAt F w (.slice a n c) bs) (hk : w.heap[rb]? = some (.cells #[.slice a n c, .int .i64 0] 117 (0, 0))) (hF : ¬ F rb)
    (hkn : k ≤ n) (_hn : n ≤ 1152921504606846976) :
    Calls Try.prog 107 #[.pointer (some ⟨rb, 0, none⟩), .int .i64 k] w (Took F w rb bs k) := by
  have hlt := (Array.getElem?_eq_some_iff.1 hk).1
  obtain ⟨q0, q1⟩ := cells2 hk
  have f0 := frozen_of_row w rb 0 _ _ hk
  have HK := Lib.hid hk
  have hc : n ≤ c := by
    obtain ⟨a', c', hv, h1, -⟩ := h
    simp only [Value.slice.injEq] at hv
    omega
  obtain ⟨a2, ha2⟩ : ∃ a2, (if c = k then a else a.map (·.add k)) = a2 := ⟨_, rfl⟩
  have HU := Lib.hid (BytesAt.upto h k hkn)
  have HS := Lib.hid (BytesAt.since h k hkn ha2)
  clear hk h
  go_enter Try.func107, Try.ntmps107
  go_wp2
  go_ret2
  have hcar : ∀ b, F b → b < w.heap.size → (w.setCell ⟨rb, 0, none⟩ (.slice a2 (n - k) (c - k))).heap[b]? = w.heap[b]? := fun b hb _ => Below.heap_setCell _ _ _ _ (fun e => hF (by rw [← show b = rb from e]; exact hb))
  exact ⟨a, c, a2, n - k, c - k, rfl, BytesAt.carry HU.out (fun _ _ x => x) hcar, BytesAt.carry HS.out (fun _ _ x => x) hcar, blk_set HK.out, (Chg.refl (fun k => k = rb) w).atb (i := 0) _⟩

set_option maxHeartbeats 400000 in
theorem take_no (w : World) (rb : Nat) (a : Option Addr) (n c : Nat) (k : Int) (hk : w.heap[rb]? = some (.cells #[.slice a n c, .int .i64 0] 117 (0, 0))) (hkn : (n : Int) < k) :
    Calls Try.prog 107 #[.pointer (some ⟨rb, 0, none⟩), .int .i64 k] w fun e w' => e = .returned (.tuple #[.slice none 0 0, .bool false]) ∧
      w'.heap[rb]? = some (.cells #[.slice a n c, .int .i64 (22 : Nat)] 117 (0, 0)) ∧ Chg (fun k => k = rb) w w' := by
  obtain ⟨q0, q1⟩ := cells2 hk
  have HK := Lib.hid hk
  clear hk
  go_enter Try.func107, Try.ntmps107
  go_wp2_with fail
  refine (fail_any _ rb a n c 22 HK.out).mono ?_
  rintro e w1 ⟨rfl, h1, h2⟩
  have H1 := Lib.hid h1
  have H2 := Lib.hid h2
  clear h1 h2
  go_wp2
  go_ret2
  exact ⟨rfl, H1.out, H2.out⟩
end Go.Proofs.Ytndkkgkcbbmnpaa
namespace Go.Pg
open Go.RowKit
theorem bits_or_i64_nat (a b : Nat) (ha : a < 4611686018427387904) (hb : b < 4611686018427387904) : bits .or .i64 (a : Int) (b : Int) = ((a ||| b : Nat) : Int) := by
  have hx : a ||| b < 2 ^ 62 := Nat.or_lt_two_pow (by omega) (by omega)
  have h1 : (BitVec.ofInt 64 (a : Int)).toNat = a := by
    rw [BitVec.ofInt_natCast, BitVec.toNat_ofNat]; exact Nat.mod_eq_of_lt (by omega)
  have h2 : (BitVec.ofInt 64 (b : Int)).toNat = b := by
    rw [BitVec.ofInt_natCast, BitVec.toNat_ofNat]; exact Nat.mod_eq_of_lt (by omega)
  show IntKind.i64.wrap ((BitVec.ofInt 64 (a : Int) ||| BitVec.ofInt 64 (b : Int)).toNat : Int) = _
  rw [BitVec.toNat_or, h1, h2, IntWalk.i64_in]
  omega
theorem or_byte' (p : Nat) (x : UInt8) (hp : p < 16777216) : bits .or .i64 ((p : Int) * 256) (x.toNat : Int) = ((p * 256 + x.toNat : Nat) : Int) := by
  have hx := x.toNat_lt
  have e : ((p : Int) * 256) = ((p * 256 : Nat) : Int) := by omega
  rw [e, bits_or_i64_nat _ _ (by omega) (by omega)]
  have := Nat.two_pow_add_eq_or_of_lt (i := 8) (b := x.toNat) (by omega) p
  rw [show p * 256 = 2 ^ 8 * p by omega, ← this]
theorem or_byte (p : Nat) (x : UInt8) (hp : p < 16777216) : bits .or .i64 ((p : Int) * 256) (wrap64 (x.toNat : Int)) = ((p * 256 + x.toNat : Nat) : Int) := by
  have hx := x.toNat_lt
  rw [IntWalk.wrap64_in _ (by omega)]
  exact or_byte' p x hp
end Go.Pg
namespace Go.Proofs.Ytndkkgkcbbmnpaa
open Go.RowKit Go.Pg

/-- a size was read, or a fault noted -/
def SizeC (F : Nat → Prop) (w : World) (rb : Nat) (r : Nat × Nat × List UInt8) (e : Ending) (w' : World) : Prop :=
  (r.1 = 0 → e = .returned (.tuple #[.int .i64 r.2.1, .bool true])) ∧ (r.1 ≠ 0 → e = .returned (.tuple #[.int .i64 0, .bool false])) ∧
    ∃ a2 n2 c2, (r.1 = 0 → BytesAt F w' (.slice a2 n2 c2) r.2.2) ∧ w'.heap[rb]? = some (.cells #[.slice a2 n2 c2, .int .i64 r.1] 117 (0, 0)) ∧ Chg (fun k => k = rb) w w'

set_option maxRecDepth 100000 in
set_option maxHeartbeats 1000000 in
theorem size_any (F : Nat → Prop) (w : World) (rb : Nat) (a : Option Addr) (n c : Nat) (m : Nat) (bs : List UInt8) (h : BytesAt F w (.slice a n c) bs) (hk : w.heap[rb]? = some (.cells #[.slice a n c, .int .i64 0] 117 (0, 0))) (hF : ¬ F rb)
    (hn : n ≤ 1152921504606846976) (hm : m ≤ 255) :
    Calls Try.prog 110 #[.pointer (some ⟨rb, 0, none⟩), .int .i64 m] w (SizeC F w rb (readSize m bs)) := by
  have hnb : n = bs.length := by
    obtain ⟨a', c', hv, h1, -⟩ := h
    simp only [Value.slice.injEq] at hv
    exact hv.2.1
  have HNB := Lib.hid hnb
  clear hnb
  by_cases h55 : m ≤ 55
  · have hr : readSize m bs = (0, m, bs) := by unfold readSize; rw [if_pos h55]
    have HR := Lib.hid hr
    clear hr
    go_enter Try.func110, Try.ntmps110
    go_wp2
    go_ret2
    unfold SizeC
    rw [HR.out]
    exact ⟨fun _ => rfl, fun h => absurd rfl h, a, n, c, fun _ => h, hk, Chg.refl _ _⟩
  · by_cases h58 : 58 < m
    · have hr : readSize m bs = (23, 0, bs) := by unfold readSize; rw [if_neg h55, if_pos h58]
      have HR := Lib.hid hr
      clear hr
      have HK := Lib.hid hk
      clear hk
      go_enter Try.func110, Try.ntmps110
      go_wp2_with fail
      refine (fail_any _ rb a n c 23 HK.out).mono ?_
      rintro e w1 ⟨rfl, h1, h2⟩
      have H1 := Lib.hid h1
      have H2 := Lib.hid h2
      clear h1 h2
      go_wp2
      go_ret2
      unfold SizeC
      rw [HR.out]
      exact ⟨(fun h => by cases h), fun _ => rfl, a, n, c, (fun h => by cases h), H1.out, H2.out⟩
    · obtain ⟨k, hkm⟩ : ∃ k : Nat, m = k + 55 := ⟨m - 55, by omega⟩
      subst hkm
      have hkk : ((k + 55 : Nat) : Int) - 55 = (k : Int) := by omega
      by_cases hsh : n < k
      · have hr : readSize (k + 55) bs = (22, 0, bs) := by
          unfold readSize; rw [if_neg h55, if_neg h58, if_pos (by have := HNB.out; omega)]
        have HR := Lib.hid hr
        clear hr
        have HK := Lib.hid hk
        clear hk
        go_enter Try.func110, Try.ntmps110
        go_wp2_with fail
        refine (take_no _ rb a n c _ HK.out (by omega)).mono ?_
        rintro e w1 ⟨rfl, h1, h2⟩
        have H1 := Lib.hid h1
        have H2 := Lib.hid h2
        clear h1 h2
        go_wp2
        go_ret2
        unfold SizeC
        rw [HR.out]
        exact ⟨(fun h => by cases h), fun _ => rfl, a, n, c, (fun h => by cases h), H1.out, H2.out⟩
      · have HK := Lib.hid hk
        have HH := Lib.hid h
        clear hk h
        go_enter Try.func110, Try.ntmps110
        go_wp2_with fail
        refine (take_ok F _ rb a n c k bs HH.out HK.out hF (by omega) hn).mono ?_
        rintro e w1 ⟨a1, c1, a2, n2, c2, rfl, hu, hs, hk1, hch⟩
        have HU := Lib.hid hu
        have HS := Lib.hid hs
        have HK1 := Lib.hid hk1
        have HCH := Lib.hid hch
        clear hu hs hk1 hch
        have hk3 : k ≤ 3 := by omega
        have hk1 : 1 ≤ k := by omega
        have hkl : (bs.take k).length = k := by rw [List.length_take]; have := HNB.out; omega
        obtain ⟨l, hl⟩ : ∃ l, l = bs.take k := ⟨_, rfl⟩
        rw [← hl] at HU hkl
        have HL := Lib.hid hl
        have HKL := Lib.hid hkl
        clear hl hkl
        rcases SliceAt.split HU.out with ⟨_, h0⟩ | ⟨b, o, rfl, -, -, -⟩
        · omega
        go_wp2_with fail
        go_loop [1, 9, 28] (fun q x i => ∃ j p : Nat, j ≤ k ∧ i = .int .i64 j ∧ q = .int .i64 p ∧ p ≤ 16777215 ∧ Hid (p = beNum (l.take j))) (fun _ _ i => k - (intOf i).toNat)
        case atStart => exact ⟨0, 0, Nat.zero_le _, rfl, rfl, by omega, by show _ = _; simp [beNum]⟩
        case round =>
          obtain ⟨j, p, hj, rfl, rfl, hp, HP⟩ := hrel
          by_cases hlt : j < k
          · have hjl : j < l.length := by have := HKL.out; omega
            have hc := BytesAt.cell HU.out j hjl
            obtain ⟨x, hx⟩ : ∃ x, x = l[j] := ⟨_, rfl⟩
            rw [← hx] at hc
            have hpb : p < 256 ^ j := by
              have h1 := beNum_lt (l.take j)
              have h2 : (l.take j).length = j := by rw [List.length_take]; omega
              have := HP.out
              rw [h2] at h1; omega
            have hor := Lib.hid (And.intro (or_byte p x (by omega)) (or_byte' p x (by omega)))
            have hpx : p * 256 + x.toNat ≤ 16777215 := by
              have h1 := x.toNat_lt
              have h2 : p + 1 ≤ 256 ^ j := hpb
              have h3 : 256 ^ j ≤ 256 ^ 2 := Nat.pow_le_pow_right (by omega) (by omega)
              omega
            have hst : beNum (l.take (j + 1)) = p * 256 + x.toNat := by
              rw [List.take_succ_eq_append_getElem hjl, beNum_snoc, ← HP.out, hx]
            have HST := Lib.hid hst
            clear hx hst hpb
            go_wp2
            go_round
            case rel => exact ⟨j + 1, p * 256 + x.toNat, by omega, num_eq (by omega), num_eq (by first | exact hor.out.1 | exact hor.out.2), hpx, HST.out.symm⟩
            case measure => simp [intOf]; omega
          · obtain rfl : j = k := by omega
            have hp' := HP.out
            rw [List.take_of_length_le (by have := HKL.out; omega)] at hp'
            have hl0 : 0 < l.length := by have := HKL.out; omega
            have hc := BytesAt.cell HU.out 0 hl0
            simp only [Nat.add_zero] at hc
            obtain ⟨x, hx⟩ : ∃ x, x = l[0] := ⟨_, rfl⟩
            rw [← hx] at hc
            have hhead : bs.headD 0 = x := by
              rw [hx]
              have := HL.out
              cases bs with
              | nil => simp at this; subst this; simp at hl0
              | cons y r =>
                obtain ⟨j', rfl⟩ : ∃ j', j = j' + 1 := ⟨j - 1, by omega⟩
                simp at this; subst this; rfl
            have hr : readSize (j + 55) bs = if x = 0 ∨ p ≤ 55 then (23, 0, bs.drop j) else (0, p, bs.drop j) := by
              unfold readSize
              rw [if_neg h55, if_neg h58, if_neg (by have := HNB.out; omega), Nat.add_sub_cancel, ← HL.out, ← hp', hhead]
            have HR := Lib.hid hr
            have hsc : x = 0 ∨ x ≠ 0 := by by_cases h : x = 0; exact .inl h; exact .inr h
            clear hp' hx hhead hr hl0
            by_cases hx0 : x.toNat = 0
            · have hxz : x = 0 := UInt8.toNat_inj.1 (by simpa using hx0)
              have hx1 : ((x.toNat : Int) == 0) = true := by simp; omega
              have HR2 : Hid (readSize (j + 55) bs = (23, 0, bs.drop j)) := by show _ = _; rw [HR.out, if_pos (.inl hxz)]
              clear hsc hx0 hxz
              go_wp2_with fail
              refine (fail_any _ rb a2 n2 c2 23 HK1.out).mono ?_
              rintro e w2 ⟨rfl, h1, h2⟩
              have H1 := Lib.hid h1
              have H2 := Lib.hid h2
              clear h1 h2
              go_wp2_with fail
              go_ret2
              unfold SizeC
              rw [HR2.out]
              exact ⟨(fun h => by cases h), fun _ => rfl, a2, n2, c2, (fun h => by cases h), H1.out, (HCH.out).trans H2.out (fun _ _ x => x)⟩
            · have hx1 : ((x.toNat : Int) == 0) = false := by simp; omega
              have hxz : x ≠ 0 := fun e => hx0 (by rw [e]; rfl)
              by_cases hp55 : (p : Int) ≤ 55
              · have HR2 : Hid (readSize (j + 55) bs = (23, 0, bs.drop j)) := by show _ = _; rw [HR.out, if_pos (.inr (by omega))]
                clear hsc hx0 hxz
                go_wp2_with fail
                refine (fail_any _ rb a2 n2 c2 23 HK1.out).mono ?_
                rintro e w2 ⟨rfl, h1, h2⟩
                have H1 := Lib.hid h1
                have H2 := Lib.hid h2
                clear h1 h2
                go_wp2_with fail
                go_ret2
                unfold SizeC
                rw [HR2.out]
                exact ⟨(fun h => by cases h), fun _ => rfl, a2, n2, c2, (fun h => by cases h), H1.out, (HCH.out).trans H2.out (fun _ _ x => x)⟩
              · have HR2 : Hid (readSize (j + 55) bs = (0, p, bs.drop j)) := by show _ = _; rw [HR.out, if_neg (by rintro (h | h); exact hxz h; omega)]
                clear hsc hx0 hxz
                go_wp2_with fail
                go_ret2
                unfold SizeC
                rw [HR2.out]
                exact ⟨fun _ => rfl, fun h => absurd rfl h, a2, n2, c2, fun _ => HS.out, HK1.out, HCH.out⟩
end Go.Proofs.Ytndkkgkcbbmnpaa
namespace Go.Proofs.Ytndkkgkcbbmnpaa
open Go.RowKit Go.Pg

set_option maxHeartbeats 400000 in
theorem number_any (n : Nat) (w : World) (hn : n ≤ 1152921504606846976) :
    Calls Try.prog 92 #[.int .i64 n] w fun e w' => e = .returned (.int .i64 (number n)) ∧ w = w' := by
  have hnum := number_le 8 n (by omega)
  have HN := Lib.hid hnum
  clear hnum
  go_enter Try.func92, Try.ntmps92
  go_wp2
  go_loop [0, 3] (fun a i => ∃ m k : Nat, m ≤ n ∧ a = .int .i64 m ∧ i = .int .i64 k ∧ Hid (number n = k + number m)) (fun a _ => (intOf a).toNat)
  case atStart => exact ⟨n, 0, Nat.le_refl _, rfl, rfl, by show _ = _; omega⟩
  case round =>
    obtain ⟨m, k, hm, rfl, rfl, HE⟩ := hrel
    have hk : k ≤ 8 := by have := HN.out; have := HE.out; omega
    by_cases h0 : 0 < m
    · go_wp2
      go_round
      case rel => exact ⟨m / 256, k + 1, by omega, by go_num, by go_num, by have := HE.out; show _ = _; rw [this, number_pos h0]; omega⟩
      case measure => simp [intOf]; omega
    · obtain rfl : m = 0 := by omega
      go_wp2
      go_ret
      have h1 := HE.out
      rw [number_zero] at h1
      exact ⟨by rw [h1]; rfl, rfl⟩

set_option maxHeartbeats 400000 in
theorem plain_list (v1 v2 : Value) (w : World) :
    Calls Try.prog 91 #[.agg #[.bool true, v1, v2]] w fun e w' => e = .returned (.bool false) ∧ Below w.heap.size w w' := by
  go_enter Try.func91, Try.ntmps91
  go_wp2
  go_ret
  exact ⟨rfl, (Below.refl _ _).alloc (Nat.le_refl _) _⟩
set_option maxHeartbeats 400000 in
theorem plain_long (a : Option Addr) (n c : Nat) (v2 : Value) (w : World) (hn : ((n : Int) == 1) = false) :
    Calls Try.prog 91 #[.agg #[.bool false, .slice a n c, v2]] w fun e w' => e = .returned (.bool false) ∧ Below w.heap.size w w' := by
  go_enter Try.func91, Try.ntmps91
  go_wp2
  go_ret
  exact ⟨rfl, (Below.refl _ _).alloc (Nat.le_refl _) _⟩
set_option maxHeartbeats 400000 in
theorem plain_one (b o c : Nat) (x : UInt8) (v2 : Value) (w : World) (hc : w.cell? ⟨b, o, none⟩ = some (.int .u8 (x.toNat : Int))) (hb : b < w.heap.size) :
    Calls Try.prog 91 #[.agg #[.bool false, .slice (some ⟨b, o, none⟩) 1 c, v2]] w fun e w' => e = .returned (.bool (decide (x.toNat < 128))) ∧ Below w.heap.size w w' := by
  go_enter Try.func91, Try.ntmps91
  go_wp2
  go_ret
  exact ⟨ret_bool (by rw [Bool.eq_iff_iff]; simp; omega), (Below.refl _ _).alloc (Nat.le_refl _) _⟩
theorem plain_any {F : Nat → Prop} {w : World} {d : Nat} {l : Bool} {v1 v2 : Value} {x : It} (h : ItemAt F w d [.bool l, v1, v2] x) :
    Calls Try.prog 91 #[.agg #[.bool l, v1, v2]] w fun e w' => e = .returned (.bool x.plain) ∧ Below w.heap.size w w' := by
  cases d with
  | zero => exact h.elim
  | succ d =>
    obtain ⟨u1, u2, h1, h2, h3⟩ := h
    simp only [List.cons.injEq, Value.bool.injEq, and_true] at h1
    obtain ⟨rfl, rfl, rfl⟩ := h1
    cases x with
    | list l => exact plain_list _ _ _
    | text b =>
      obtain ⟨a, c, rfl, hlc, hcm, hac⟩ := SliceAt.len h2
      simp only [It.plain, It.bytes, It.isList] at h2 ⊢
      by_cases hb : b.length = 1
      · match b, hb with
        | [x], _ =>
          rcases SliceAt.cases h2 with ⟨h, _⟩ | ⟨bb, o, c', hv, _, _, _, _⟩
          · cases h
          · simp only [Value.slice.injEq] at hv
            obtain ⟨rfl, _, rfl⟩ := hv
            have hc := BytesAt.cell h2 0 (by simp)
            have := plain_one bb o c x v2 w (by simpa using hc) (cell_lt hc)
            simpa [plainB] using this
      · have h0 : plainB b = false := by simp [plainB, hb]
        rw [h0]
        exact plain_long _ _ _ _ _ (by simp; omega)

def BodyC (d : Nat) : Prop := ∀ (F : Nat → Prop) (w : World) (x : It) (l : Bool) (v1 v2 : Value), ItemAt F w d [.bool l, v1, v2] x → x.body ≤ 1152921504606846976 →
  Calls Try.prog 70 #[.agg #[.bool l, v1, v2]] w fun e w' => e = .returned (.int .i64 x.body) ∧ Below w.heap.size w w'
def WholeC (d : Nat) : Prop := ∀ (F : Nat → Prop) (w : World) (x : It) (l : Bool) (v1 v2 : Value), ItemAt F w d [.bool l, v1, v2] x → x.whole ≤ 1152921504606846976 →
  Calls Try.prog 90 #[.agg #[.bool l, v1, v2]] w fun e w' => e = .returned (.int .i64 x.whole) ∧ Below w.heap.size w w'

set_option maxHeartbeats 400000 in
theorem body_none (l : Bool) (a a2 : Option Addr) (n c c2 : Nat) (w : World) :
    Calls Try.prog 70 #[.agg #[.bool l, .slice a n c, .slice a2 0 c2]] w fun e w' => e = .returned (.int .i64 n) ∧ Below w.heap.size w w' := by
  go_enter Try.func70, Try.ntmps70
  go_wp2
  go_rounds 1
  go_ret
  exact ⟨rfl, (Below.refl _ _).alloc (Nat.le_refl _) _⟩

set_option maxHeartbeats 400000 in
theorem body_some {d : Nat} (hw : WholeC d) (F : Nat → Prop) (w : World) (l : Bool) (a : Option Addr) (b o n c c2 : Nat) (is : List It)
    (his : ItemsAt F w d (.slice (some ⟨b, o, none⟩) is.length c2) is) (hn : n + It.wholes is ≤ 1152921504606846976) (hl63 : is.length ≤ 1152921504606846976) :
    Calls Try.prog 70 #[.agg #[.bool l, .slice a n c, .slice (some ⟨b, o, none⟩) is.length c2]] w fun e w' => e = .returned (.int .i64 (n + It.wholes is : Nat)) ∧ Below w.heap.size w w' := by
  have HW := Lib.hid hw
  clear hw
  obtain ⟨n2, hn2⟩ : ∃ n2, n2 = is.length := ⟨_, rfl⟩
  rw [← hn2] at his hl63 ⊢
  have HN := Lib.hid hn2
  clear hn2
  go_enter Try.func70, Try.ntmps70
  go_wp2
  go_loopw [3, 5, 12] (fun s y i wr => ∃ k m : Nat, k ≤ n2 ∧ i = .int .i64 k ∧ s = .int .i64 m ∧ Hid (m = n + It.wholes (is.take k)) ∧ Below w.heap.size w wr) (fun _ _ i _ => n2 - (intOf i).toNat)
  case atStart => exact ⟨0, n, Nat.zero_le _, rfl, rfl, by show _ = _; simp [It.wholes], (Below.refl _ _).alloc (Nat.le_refl _) _⟩
  case round =>
    obtain ⟨k, m, hk, rfl, rfl, HM, hb⟩ := hrel
    have hN := HN.out
    by_cases hlt : k < n2
    · have hki : k < is.length := by omega
      have his' := ItemsAt.below his hb
      obtain ⟨a1, n1, c1, a2, n2', c2', q0, q1, q2, hit⟩ := ItemsAt.cell his' k hki
      obtain ⟨x, hx⟩ : ∃ x, x = is[k] := ⟨_, rfl⟩
      have hsum : m + x.whole ≤ 1152921504606846976 := by
        have h1 := It.wholes_take_succ is k hki
        have h2 := It.wholes_take_le is (k + 1)
        have h3 := HM.out
        rw [hx]; omega
      have HS : Hid (m + x.whole = n + It.wholes (is.take (k + 1))) := by
        have h1 := It.wholes_take_succ is k hki
        have h3 := HM.out
        show _ = _
        rw [hx]; omega
      rw [← hx] at q0 hit
      have hpos := It.whole_pos x
      clear hx his' hN his HM
      have hle : x.whole ≤ 1152921504606846976 := by omega
      go_wp2_with fail
      refine (HW.out F _ x _ _ _ ?_ hle).mono ?_
      · exact hit.below ((Below.refl _ _).alloc (Nat.le_refl _) _)
      rintro e w1 ⟨rfl, hb1⟩
      go_wp2_with fail
      go_roundw
      case rel =>
        exact ⟨k + 1, m + x.whole, by omega, num_eq (by omega), num_eq (by omega), HS, (hb.alloc hb.size _).trans (hb1.mono (by have := hb.size; simp; omega))⟩
      case measure => simp [intOf]; omega
    · obtain rfl : k = n2 := by omega
      go_wp2
      go_ret
      have h3 := HM.out
      rw [List.take_of_length_le (by omega)] at h3
      exact ⟨ret_int (by rw [h3]), hb⟩

theorem body_step {d : Nat} (hw : WholeC d) : BodyC (d + 1) := by
  intro F w x l v1 v2 h hx
  obtain ⟨u1, u2, h1, h2, h3⟩ := h
  simp only [List.cons.injEq, Value.bool.injEq, and_true] at h1
  obtain ⟨rfl, rfl, rfl⟩ := h1
  obtain ⟨a, c, rfl, _⟩ := SliceAt.len h2
  rcases SliceAt.cases h3 with ⟨he, a2, c2, rfl, _⟩ | ⟨b, o, c2, rfl, hl, _, _, _⟩
  · have e : x.body = x.bytes.length := by rw [It.body_eq, he]; simp [It.wholes]
    rw [e]
    exact body_none _ _ _ _ _ _ _
  · rw [It.body_eq] at hx ⊢
    have hlen : x.items.length ≤ It.wholes x.items := by
      generalize x.items = l
      induction l with
      | nil => simp
      | cons y r ih => have := It.whole_pos y; simp only [List.length_cons, It.wholes]; omega
    exact body_some hw F w _ _ _ _ _ _ _ _ h3 hx (by omega)

set_option maxHeartbeats 400000 in
theorem whole_step {d : Nat} (hb : BodyC d) : WholeC d := by
  intro F w x l v1 v2 h hx
  obtain ⟨rfl, a1, n1, c1, a2, n2, c2, rfl, rfl, -, -⟩ := ItemAt.form h
  have hwe := It.whole_eq x
  by_cases hpl : x.plain = true
  · rw [if_pos hpl] at hwe
    rw [hwe]
    clear hwe hx hb
    go_enter Try.func90, Try.ntmps90
    go_wp2_with fail
    refine (plain_any (F := F) (d := d) (x := x) ?_).mono ?_
    · exact h.below ((Below.refl _ _).alloc (Nat.le_refl _) _)
    rintro e w1 ⟨rfl, hb1⟩
    go_wp2_with fail
    go_ret
    exact ⟨rfl, ((Below.refl _ _).alloc (Nat.le_refl _) _).trans (hb1.mono (by simp))⟩
  · rw [if_neg hpl] at hwe
    have hpl' : x.plain = false := by simpa using hpl
    rw [hwe]
    have hbw := It.body_le_whole x
    have HB := Lib.hid hb
    have HE := Lib.hid hwe
    clear hb hwe hpl
    obtain ⟨n, hn⟩ : ∃ n, n = x.body := ⟨_, rfl⟩
    have HN := Lib.hid hn
    have hle : n ≤ 1152921504606846976 := by omega
    rw [← hn]
    clear hn hbw
    by_cases h55 : n ≤ 55
    all_goals
      go_enter Try.func90, Try.ntmps90
      go_wp2_with fail
      refine (plain_any (F := F) (d := d) (x := x) ?_).mono ?_
      · exact h.below ((Below.refl _ _).alloc (Nat.le_refl _) _)
      rintro e w1 ⟨rfl, hb1⟩
      obtain ⟨hc, hf⟩ := bcell hb1
      go_wp2_with fail
      refine (HB.out F _ x _ _ _ ?_ ?_).mono ?_
      · exact ItemAt.below (h.below ((Below.refl _ _).alloc (Nat.le_refl _) _)) hb1
      · rw [← HN.out]; exact hle
      rintro e w2 ⟨rfl, hb2⟩
      rw [← HN.out]
      have hbel := Bel.call (Bel.call (Bel.alloc (Bel.refl w) _) hb1) hb2
      clear hb1 hb2 HE h HB hc hf
      go_wp2_with fail
      first
        | (go_ret; exact ⟨ret_int (by unfold sz; rw [if_pos h55]; omega), hbel⟩)
        | (refine (number_any n _ hle).mono ?_
           rintro e w3 ⟨rfl, rfl⟩
           have hnum := number_le 8 n (by omega)
           go_wp2_with fail
           go_ret
           exact ⟨ret_int (by unfold sz; rw [if_neg h55]; omega), hbel⟩)
theorem sizes (d : Nat) : BodyC d ∧ WholeC d := by
  induction d with
  | zero => exact ⟨fun _ _ _ _ _ _ h => h.elim, fun _ _ _ _ _ _ h => h.elim⟩
  | succ d ih => have hb := body_step ih.2; exact ⟨hb, whole_step hb⟩
theorem body_any (d : Nat) : BodyC d := (sizes d).1
theorem whole_any (d : Nat) : WholeC d := (sizes d).2

end Go.Proofs.Ytndkkgkcbbmnpaa
