/-
  A list that the call gathers in a slice of its own, its elements with memory of their own: what an append of one more does.
  Contract of witness.texts.
  Contracts of words.Key, words.number, words.Bytes, words.Read.
  Digests as plain functions: words as whole numbers from 0 to below 2^64, states of four words, texts mixed in 32 bytes at a time.
  Contracts of (*nest.reader).fail, take.
  Contract of (*nest.reader).size.
  Contract of (*nest.reader).item, where that of list is known.
-/
import Derived.Test.YtndkkgkcbbmnpaaQgAB
import Derived.Test.YtndkkgkcbbmnpaaProg
namespace Go.Pg
open Go.RowKit
section
variable {α : Type}
/-- A reading of an element's cells that other memory does not touch. -/
structure Carried (A : (Nat → Prop) → World → List Value → α → Prop) : Prop where
  carry : ∀ {F F' : Nat → Prop} {w w' : World} {cs : List Value} {x : α}, A F w cs x → (∀ b, b < w.heap.size → F b → F' b) → (∀ b, F b → b < w.heap.size → w'.heap[b]? = w.heap[b]?) → A F' w' cs x
  one : ∀ {F : Nat → Prop} {w : World} cs x, A F w cs x → ∀ u ∈ cs, u.oneCell' = true
theorem carriedRow : Carried rowR := ⟨fun h hF hb => h.carry hF hb, fun cs x h => rowR.one cs x h⟩
theorem carriedItem (d : Nat) : Carried (fun F w cs x => ItemAt F w d cs x) := ⟨fun h hF hb => h.carry hF hb, fun cs x h => ItemAt.one d cs x h⟩

/-- v is the call's own, its elements lie in blocks of G, none of them v's own block -/
def OwnList (A : (Nat → Prop) → World → List Value → α → Prop) (G : Nat → Prop) (n : Nat) (W : World) (e : TypeId) (sz : Nat) (v : Value) (l : List α) : Prop :=
  ∃ F : Nat → Prop, (∀ b, F b → G b ∧ b < W.heap.size) ∧ (∀ g, v.ownBlock = some g → ¬ F g) ∧ OwnAt W n e sz (A F W) v l
variable {A : (Nat → Prop) → World → List Value → α → Prop} {G : Nat → Prop} {n : Nat} {W W' : World} {e : TypeId} {sz : Nat} {v : Value} {l : List α}
theorem OwnList.nil : OwnList A G n W e sz (.slice none 0 0) [] :=
  ⟨fun _ => False, fun _ h => h.elim, fun _ _ h => h, OwnAt.nil _ _ _ _ _⟩
theorem OwnList.empty (g : Nat) (c : Nat) (hg : n ≤ g) (hc : c ≤ maxLen) (cs : Array Value) (h : W.heap[g]? = some (.cells cs e (0, 0))) (hs : cs.size = c * sz) : OwnList A G n W e sz (.slice (some ⟨g, 0, none⟩) 0 c) ([] : List α) :=
  ⟨fun _ => False, fun _ h => h.elim, fun _ _ h => h, [], ⟨by simp, .inr ⟨g, c, cs, rfl, hg, h, Nat.zero_le _, hc, hs, by simp⟩⟩, Rows.nil _ _⟩
theorem OwnList.own (h : OwnList A G n W e sz v l) : ∀ k, v.ownBlock = some k → n ≤ k ∧ k < W.heap.size :=
  let ⟨_, _, _, h3⟩ := h; h3.own
theorem OwnList.len (h : OwnList A G n W e sz v l) : ∃ a c, v = .slice a l.length c ∧ l.length ≤ c ∧ c ≤ maxLen ∧ (a = none → c = 0) :=
  let ⟨_, _, _, h3⟩ := h; h3.len
/-- behind a call that writes none of it -/
theorem OwnList.carry (hA : Carried A) (h : OwnList A G n W e sz v l) (hsz : W.heap.size ≤ W'.heap.size)
    (hG : ∀ b, G b → b < W.heap.size → W'.heap[b]? = W.heap[b]?) (ho : ∀ g, v.ownBlock = some g → W'.heap[g]? = W.heap[g]?) : OwnList A G n W' e sz v l := by
  obtain ⟨F, h1, h2, h3⟩ := h
  exact ⟨F, fun b hb => ⟨(h1 b hb).1, Nat.lt_of_lt_of_le (h1 b hb).2 hsz⟩, h2,
    (h3.carry fun g hg _ _ => ho g hg).mono fun cs x _ hx => hA.carry hx (fun _ _ x => x) (fun b hb hlt => hG b (h1 b hb).1 hlt)⟩
theorem OwnList.call (hA : Carried A) (h : OwnList A G n W e sz v l) (hb : Below W.heap.size W W') : OwnList A G n W' e sz v l :=
  h.carry hA hb.size (fun b _ hlt => hb.block b hlt) (fun g hg => hb.block g (h.own g hg).2)
theorem OwnList.at (hA : Carried A) (h : OwnList A G n W e sz v l) {G' : Nat → Prop} (hG : ∀ b, G b → b < W.heap.size → G' b) (hn : ∀ b, n ≤ b → b < W.heap.size → G' b) (hsz : 0 < sz) : SliceAt G' W sz (A G' W) v l := by
  obtain ⟨F, h1, h2, h3⟩ := h
  exact (h3.mono (R' := A G' W) fun cs x _ hx => hA.carry hx (fun b hlt hb => hG b (h1 b hb).1 hlt) (fun _ _ _ => rfl)).at (fun g _ hg hlt => hn g hg hlt) hsz
/-- One more: what the append wants, and what it gives. The new element's cells stand in a block laid for them. -/
theorem OwnList.push (hA : Carried A) (h : OwnList A G n W e sz v l) {H : Nat → Prop} {cs : List Value} {x : α} (hx : A H W cs x) (hcs : cs.length = sz) (_hsz : 0 < sz)
    (hH : ∀ b, b < W.heap.size → H b → G b ∧ v.ownBlock ≠ some b) (t : TypeId) :
    ∃ R : List Value → α → Prop, (∀ cs x, R cs x → ∀ u ∈ cs, u.oneCell' = true) ∧ OwnAt (W.alloc (.cells cs.toArray t)) n e sz R v l ∧
      SliceAt (fun _ => True) (W.alloc (.cells cs.toArray t)) sz R (.slice (some ⟨W.heap.size, 0, none⟩) 1 1) [x] ∧
      ∀ v' W2, OwnAt W2 n e sz R v' (l ++ [x]) → (W.alloc (.cells cs.toArray t)).grownBy W2 v.ownBlock → Moved (W.alloc (.cells cs.toArray t)) v v' → OwnList A G n W2 e sz v' (l ++ [x]) := by
  obtain ⟨F, h1, h2, h3⟩ := h
  refine ⟨A (fun b => F b ∨ (H b ∧ b < W.heap.size)) W, hA.one, ?_, ?_, ?_⟩
  · exact (h3.carry fun g _ _ hlt => Below.heap_alloc _ _ _ hlt).mono fun cs x _ hx => hA.carry hx (fun b _ hb => .inl hb) (fun _ _ _ => rfl)
  · refine ⟨some ⟨W.heap.size, 0, none⟩, 1, rfl, Nat.le_refl _, by decide, (fun h => by cases h), fun _ => ⟨_, _, rfl, trivial, fun i y hy => ?_⟩, fun b o j ha _ => by simp only [Option.some.injEq, Addr.mk.injEq, and_true] at ha; obtain ⟨rfl, rfl⟩ := ha; simp⟩
    match i, hy with
    | 0, hy =>
      simp only [List.getElem?_cons_zero, Option.some.injEq] at hy
      subst hy
      refine ⟨cs, hcs, hA.carry hx (fun b hlt hb => .inr ⟨hb, hlt⟩) (fun _ _ _ => rfl), fun j u hu => ?_⟩
      simp only [Nat.zero_mul, Nat.zero_add, World.cell?_alloc_new]
      simpa using hu
  · intro v' W2 ho hg hm
    have hs := hg.size
    simp only [World.size_alloc] at hs
    refine ⟨fun b => F b ∨ (H b ∧ b < W.heap.size), ?_, ?_, ?_⟩
    · rintro b (hb | hb)
      · exact ⟨(h1 b hb).1, by have := (h1 b hb).2; omega⟩
      · exact ⟨(hH b hb.2 hb.1).1, by omega⟩
    · intro g hg' hb
      rcases hm g hg' with hv | hv
      · rcases hb with hb | hb
        · exact h2 g hv hb
        · exact (hH g hb.2 hb.1).2 hv
      · simp only [World.size_alloc] at hv
        rcases hb with hb | hb
        · have := (h1 g hb).2; omega
        · omega
    · refine ho.mono fun cs y _ hy => hA.carry hy (fun _ _ x => x) fun b hb hlt => ?_
      rw [hg.block b (by simp; omega) (fun e => ?_), Below.heap_alloc _ _ _ hlt]
      rcases hb with hb | hb
      · exact h2 b e.symm hb
      · exact (hH b hb.2 hb.1).2 e.symm
/-- a row of elements that has just been laid -/
theorem rows_alloc (hA : Carried A) {F F' : Nat → Prop} {xs : List Value} (h : Rows sz (A F W) xs l) (hl : l.length ≤ maxLen) (hF : ∀ b, b < W.heap.size → F b → F' b) (hn : F' W.heap.size) (t : TypeId) :
    SliceAt F' (W.alloc (.cells xs.toArray t)) sz (A F' (W.alloc (.cells xs.toArray t))) (.slice (some ⟨W.heap.size, 0, none⟩) l.length l.length) l := by
  refine ⟨some ⟨W.heap.size, 0, none⟩, l.length, rfl, Nat.le_refl _, hl, (fun h => by cases h), fun _ => ⟨_, _, rfl, hn, fun i x hx => ?_⟩, fun b o j ha _ => by simp only [Option.some.injEq, Addr.mk.injEq, and_true] at ha; obtain ⟨rfl, rfl⟩ := ha; simp⟩
  obtain ⟨cs, h1, h2, h3⟩ := h.2 i x hx
  refine ⟨cs, h1, hA.carry h2 hF (fun b _ hlt => Below.heap_alloc _ _ _ hlt), fun j u hu => ?_⟩
  have := h3 j u hu
  rw [Nat.zero_add, World.cell?_alloc_new]
  simpa using this
end
end Go.Pg
namespace Go.Pg
open Go.RowKit
/-- texts as an item -/
def textsI (l : List (List UInt8)) : It := .list (l.map .text)
theorem blk_setCell {w : World} {g i : Nat} {cs : Array Value} {t : TypeId} {v : Value} (hg : w.heap[g]? = some (.cells cs t (0, 0))) :
    (w.setCell ⟨g, i, none⟩ v).heap[g]? = some (.cells (cs.setIfInBounds i v) t (0, 0)) := heap_setCell_same w g i cs t v hg
end Go.Pg
namespace Go.Proofs.Ytndkkgkcbbmnpaa
open Go.RowKit Go.Pg

set_option maxRecDepth 100000 in
set_option maxHeartbeats 1000000 in
theorem texts_any (F : Nat → Prop) (w : World) (v : Value) (l : List (List UInt8)) (h : RowsAt F w v l) (hl : l.length ≤ 1099511627776) (hlen : ∀ x ∈ l, x.length ≤ 140737488351232) :
    Calls Try.prog 43 #[v] w fun e w' => ∃ v2, e = .returned (.agg #[.bool true, .slice none 0 0, v2]) ∧ ItemAt (fun b => w.heap.size ≤ b) w' 2 [.bool true, .slice none 0 0, v2] (textsI l) ∧ Below w.heap.size w w' := by
  obtain ⟨a, c, rfl, -, -, -⟩ := SliceAt.len h
  obtain ⟨i0, hi, hz0, hz1, hz2⟩ := info_parts infoItem
  obtain ⟨n, hn⟩ : ∃ n, n = l.length := ⟨_, rfl⟩
  rw [← hn] at h hl ⊢
  have HN := Lib.hid hn
  have HLEN := Lib.hid hlen
  clear hn hlen
  go_enter Try.func43, Try.ntmps43
  go_wp2
  go_loopw [3, 5, 8] (fun s b i wr => ∃ k : Nat, k ≤ n ∧ i = .int .i64 k ∧ Hid (OwnList (fun F w cs x => ItemAt F w 1 cs x) (fun b => w.heap.size < b) (w.heap.size + 1) wr 65 3 s ((l.take k).map .text)) ∧
      Hid (Below w.heap.size w wr ∧ wr.heap[w.heap.size]? = some (.cells #[.bool false, .slice none 0 0, .slice none 0 0] 65 (0, 0)))) (fun _ _ i _ => n - (intOf i).toNat)
  case atStart => exact ⟨0, Nat.zero_le _, rfl, OwnList.nil, Bel.alloc (Bel.refl w) _, heap_alloc_new w _⟩
  case round =>
    obtain ⟨k, hk, rfl, HO, HB⟩ := hrel
    have hN := HN.out
    by_cases hlt : k < n
    · rcases SliceAt.split h with ⟨_, h0⟩ | ⟨b, o, rfl, -, -, -⟩
      · omega
      have hwr := RowsAt.below h HB.out.1
      obtain ⟨u, c1, t1⟩ := RowsAt.cell hwr k (by omega)
      have hxl := HLEN.out _ (List.getElem_mem (show k < l.length by omega))
      have htk : (l.take (k + 1)).map It.text = (l.take k).map It.text ++ [It.text (l[k]'(by omega))] := by
        rw [List.take_succ_eq_append_getElem (show k < l.length by omega), List.map_append]; rfl
      obtain ⟨x, hx⟩ : ∃ x, x = l[k]'(by omega) := ⟨_, rfl⟩
      rw [← hx] at t1 hxl htk
      have HT := Lib.hid htk
      obtain ⟨L, hL⟩ : ∃ L, L = (l.take k).map It.text := ⟨_, rfl⟩
      rw [← hL] at HO HT
      have hLl : L.length = k := by rw [hL]; simp; omega
      have HLL := Lib.hid hLl
      clear hwr hx htk hL hLl hN
      go_wp2_with fail
      refine (text_any F wr u x t1 hxl).mono ?_
      rintro e w1 ⟨v1, rfl, hit, hb1⟩
      obtain ⟨-, a1, m1, d1, a2, m2, d2, e1, e2, -, -⟩ := ItemAt.form hit
      simp only [Value.slice.injEq] at e2
      obtain ⟨rfl, rfl, rfl⟩ := e2
      subst e1
      have HB1 : Hid (Below w.heap.size w w1 ∧ w1.heap[w.heap.size]? = some (.cells #[.bool false, .slice none 0 0, .slice none 0 0] 65 (0, 0))) :=
        ⟨Bel.call HB.out.1 hb1, by rw [hb1.block _ (Array.getElem?_eq_some_iff.1 HB.out.2).1]; exact HB.out.2⟩
      have hO1 := (HO.out).call (carriedItem 1) hb1
      have hsw := (Array.getElem?_eq_some_iff.1 HB.out.2).1
      have hs1 := hb1.size
      have howr := (HO.out).own
      obtain ⟨R, hR1, hRo, hRs, hRn⟩ := hO1.push (carriedItem 1) hit rfl (by decide) (fun b _ hb => ⟨by omega, fun e => by have := (howr b e).2; omega⟩) 65
      have hle : (L.length + [It.text x].length) * 56 ≤ 140737488355328 := by rw [HLL.out]; simp; omega
      have hbase : w.heap.size + 1 ≤ (w1.alloc (.cells [.bool false, .slice a1 m1 d1, .slice none 0 0].toArray 65)).heap.size := by simp; omega
      have HRN := Lib.hid hRn
      have HRO := Lib.hid hRo
      have HRS := Lib.hid hRs
      have HR1 := Lib.hid hR1
      clear hRn hO1 hb1 hit howr hRo hRs hR1 hs1 hsw t1 c1
      go_wp2_with (at_builtin; refine wpList_append_at rfl (.tmp 12) (.tmp 15) 63 rfl (w.heap.size + 1) 65 i0 (.agg #[.bool false, .slice none 0 0, .slice none 0 0]) 3 56 underlyingItems hi hz0 hz1 hz2 rfl (by decide) (by decide) HR1.out _ L rfl HRO.out _ [It.text x] (fun _ => True) rfl HRS.out hle hbase ?_; intro v' w2 ho hg hm)
      have HOn := Lib.hid (HRN.out _ _ ho hg hm)
      have hown := (HRO.out).own
      have HB2 : Hid (Below w.heap.size w w2 ∧ w2.heap[w.heap.size]? = some (.cells #[.bool false, .slice none 0 0, .slice none 0 0] 65 (0, 0))) := by
        have hb1 := HB1.out.1
        have hbx := HB1.out.2
        have hlt' := (Array.getElem?_eq_some_iff.1 hbx).1
        refine ⟨(Bel.alloc hb1 _).grown hg (by simp; omega) (fun k hk => by have := (hown k hk).1; omega), ?_⟩
        rw [hg.block _ (by simp; omega) (fun e => by have := (hown _ e.symm).1; omega), Below.heap_alloc _ _ _ hlt']
        exact hbx
      clear ho hg hm hown
      go_roundw
      case rel => exact ⟨k + 1, by omega, num_eq (by omega), by rw [HT.out]; exact HOn.out, HB2.out⟩
      case measure => simp [intOf]; omega
    · obtain rfl : k = n := by omega
      have hO := HO.out
      rw [List.take_of_length_le (by omega)] at hO
      have hits := hO.at (carriedItem 1) (G' := fun b => w.heap.size < b) (fun _ h _ => h) (fun b h _ => by omega) (by decide)
      have hll : (l.map It.text).length ≤ 1099511627776 := by simp; omega
      have hsw := (Array.getElem?_eq_some_iff.1 HB.out.2).1
      clear hO hN
      go_wp2_with fail
      refine (list_any _ wr _ 1 _ hits hll).mono ?_
      rintro e w1 ⟨v2, rfl, hit, hb1⟩
      obtain ⟨-, a1, m1, d1, a2, m2, d2, e1, e2, -, -⟩ := ItemAt.form hit
      simp only [Value.slice.injEq] at e1
      obtain ⟨rfl, rfl, rfl⟩ := e1
      subst e2
      have hkk : w1.heap[w.heap.size]? = some (.cells #[.bool false, .slice none 0 0, .slice none 0 0] 65 (0, 0)) := by rw [hb1.block _ hsw]; exact HB.out.2
      obtain ⟨q0, q1, q2⟩ := cells3 hkk
      have f0 := frozen_of_row w1 w.heap.size 0 _ _ hkk
      have f1 := frozen_of_row w1 w.heap.size 1 _ _ hkk
      have f2 := frozen_of_row w1 w.heap.size 2 _ _ hkk
      have HK := Lib.hid hkk
      have HB1 := Lib.hid hb1
      clear hkk hb1
      go_wp2_with fail
      obtain ⟨W, hW⟩ : ∃ W, W = ((w1.setCell ⟨w.heap.size, 0, none⟩ (.bool true)).setCell ⟨w.heap.size, 1, none⟩ (.slice none 0 0)).setCell ⟨w.heap.size, 2, none⟩ (.slice a2 m2 d2) := ⟨_, rfl⟩
      have hWk : W.heap[w.heap.size]? = some (.cells #[.bool true, .slice none 0 0, .slice a2 m2 d2] 65 (0, 0)) := by
        rw [hW]; exact blk_setCell (blk_setCell (blk_setCell HK.out))
      rw [← hW]
      obtain ⟨r0, r1, r2⟩ := cells3 hWk
      refine bodyPost_ret (v := .agg #[.bool true, .slice none 0 0, .slice a2 m2 d2]) (by simp [results, Try.results43, go_sem, r0, r1, r2]) rfl ?_
      have hbel : Below w.heap.size w W := by
        rw [hW]
        exact (((Bel.call HB.out.1 HB1.out).setCell (Nat.le_refl _) _).setCell (Nat.le_refl _) _).setCell (Nat.le_refl _) _
      refine ⟨_, rfl, ?_, hbel⟩
      refine hit.carry (fun b _ hb => by rcases hb with hb | hb <;> omega) (fun b hb hlt' => ?_)
      have hne : b ≠ w.heap.size := by rcases hb with hb | hb <;> omega
      rw [hW, Below.heap_setCell _ _ _ _ hne, Below.heap_setCell _ _ _ _ hne, Below.heap_setCell _ _ _ _ hne]

end Go.Proofs.Ytndkkgkcbbmnpaa
namespace Go.Pg
open Go.RowKit
/-- the cells of bytes -/
def cellsOf (l : List UInt8) : Array Value := (l.map fun x => Value.int .u8 (x.toNat : Int)).toArray
theorem cellsOf_size (l : List UInt8) : (cellsOf l).size = l.length := by simp [cellsOf]
theorem cellsOf_get (l : List UInt8) (i : Nat) (h : i < l.length) : (cellsOf l)[i]? = some (.int .u8 ((l[i]).toNat : Int)) := by simp [cellsOf, h]
theorem cellsOf_set (l : List UInt8) (i : Nat) (x : UInt8) : (cellsOf l).setIfInBounds i (.int .u8 (x.toNat : Int)) = cellsOf (l.set i x) := by
  apply Array.ext'
  simp [cellsOf, List.map_set]
/-- a row of bytes that is filled from its head on -/
def filling (l : List UInt8) (k : Nat) : List UInt8 := l.take k ++ List.replicate (l.length - k) 0
theorem filling_length (l : List UInt8) (k : Nat) : (filling l k).length = l.length := by simp [filling]; omega
theorem filling_zero (l : List UInt8) : filling l 0 = List.replicate l.length 0 := by simp [filling]
theorem filling_all (l : List UInt8) : filling l l.length = l := by simp [filling]
theorem filling_step (l : List UInt8) (k : Nat) (h : k < l.length) : (filling l k).set k l[k] = filling l (k + 1) := by
  unfold filling
  rw [List.set_append_right _ _ (by simp; omega), List.length_take, Nat.min_eq_left (by omega), Nat.sub_self]
  rw [show l.length - k = (l.length - (k + 1)) + 1 by omega, List.replicate_succ, List.set_cons_zero, List.take_succ_eq_append_getElem h, List.append_assoc]
  rfl
/-- a block of bytes reads as bytes -/
theorem OwnAt.ofBlk {w : World} {base g : Nat} {e : TypeId} {l : List UInt8} (hg : base ≤ g) (h : w.heap[g]? = some (.cells (cellsOf l) e (0, 0))) (hm : l.length ≤ maxLen) : OwnAt w base e 1 byteR (.slice (some ⟨g, 0, none⟩) l.length l.length) l := by
  refine ⟨(cellsOf l).toList, ⟨by simp [cellsOf], .inr ⟨g, l.length, cellsOf l, rfl, hg, h, Nat.le_refl _, hm, by simp [cellsOf], by rw [Nat.mul_one, List.take_of_length_le (by simp [cellsOf])]⟩⟩, by simp [cellsOf], fun i x hx => ?_⟩
  refine ⟨[.int .u8 (x.toNat : Int)], rfl, rfl, fun j u hu => ?_⟩
  match j, hu with
  | 0, hu => simp at hu; subst hu; simp [cellsOf, hx]
theorem beBytes8_get (n k : Nat) (h : k < 8) : (beBytes 8 n)[k]'(by rw [beBytes_length]; exact h) = UInt8.ofNat (n / 256 ^ (7 - k) % 256) := by
  have := beBytes_get 8 n k h
  rw [List.getElem?_eq_getElem (by rw [beBytes_length]; exact h)] at this
  exact Option.some.inj this
theorem key_cell (n k : Nat) (h : k < 8) : (.int .u8 ((n : Int) / 2 ^ (56 - 8 * k) % 256) : Value) = .int .u8 (((beBytes 8 n)[k]'(by rw [beBytes_length]; exact h)).toNat : Int) := by
  rw [beBytes8_get n k h, show 56 - 8 * k = 8 * (7 - k) by omega, shift_byte, UInt8.toNat_ofNat', Nat.mod_eq_of_lt (Nat.mod_lt _ (by omega))]
theorem beBytes_zero (k : Nat) : beBytes k 0 = List.replicate k 0 := by
  induction k with
  | zero => rfl
  | succ k ih => simp only [beBytes, Nat.zero_div, ih, Nat.zero_mod]; rw [List.replicate_succ']; rfl
/-- a word in as few bytes as may be -/
def wordB (n : Nat) : List UInt8 := beBytes (number n) n
theorem strip_be (k : Nat) : ∀ n, n < 256 ^ k → (beBytes k n).dropWhile (· == 0) = wordB n := by
  unfold wordB
  induction k with
  | zero => intro n h; have : n = 0 := by simpa using h
            subst this; rw [number_zero]; rfl
  | succ k ih =>
    intro n h
    have hd : n / 256 < 256 ^ k := by rw [Nat.pow_succ] at h; exact Nat.div_lt_of_lt_mul (by omega)
    by_cases h0 : n = 0
    · subst h0; rw [beBytes_zero, number_zero]; simp [beBytes]
    · simp only [beBytes]
      rw [List.dropWhile_append, ih _ hd, number_pos (n := n) (by omega)]
      by_cases h1 : n / 256 = 0
      · rw [h1, number_zero]
        have h2 : (UInt8.ofNat (n % 256) == 0) = false := by
          have h3 : UInt8.ofNat (n % 256) ≠ 0 := fun e => by
            have := congrArg UInt8.toNat e
            rw [UInt8.toNat_ofNat'] at this
            simp at this; omega
          simpa using h3
        simp [beBytes, h2]
      · have h2 : (beBytes (number (n / 256)) (n / 256)).isEmpty = false := by
          rw [List.isEmpty_eq_false_iff]
          intro e
          have := congrArg List.length e
          rw [beBytes_length, number_pos (n := n / 256) (by omega)] at this
          simp at this
        rw [h2]
        simp [beBytes]
theorem wordB_strip (n : Nat) (h : (n : Int) < 18446744073709551616) : (beBytes 8 n).dropWhile (· == 0) = wordB n := strip_be 8 n (by omega)
theorem wordB_length (n : Nat) : (wordB n).length = number n := beBytes_length _ _
theorem wordB_le (n : Nat) (h : (n : Int) < 18446744073709551616) : (wordB n).length ≤ 8 := by rw [wordB_length]; exact number_le 8 n (by omega)
theorem number_snoc (bs : List UInt8) (k : Nat) (h : k < bs.length) : beNum (bs.take (k + 1)) = beNum (bs.take k) * 256 + (bs[k]).toNat := by rw [List.take_succ_eq_append_getElem h, beNum_snoc]
theorem beNum_small (bs : List UInt8) (k : Nat) (h : k ≤ 7) : beNum (bs.take k) < 256 ^ 7 :=
  Nat.lt_of_lt_of_le (beNum_lt _) (Nat.pow_le_pow_right (by omega) (by simp; omega))
theorem or_u64 (p : Nat) (x : UInt8) (hp : p < 256 ^ 7) : bits .or .u64 (IntKind.u64.wrap ((p : Int) * 256)) (IntKind.u64.wrap (x.toNat : Int)) = ((p * 256 + x.toNat : Nat) : Int) := by
  have hx := x.toNat_lt
  rw [IntWalk.u64_in _ (by omega), IntWalk.u64_in _ (by omega), show ((p : Int) * 256) = ((p * 256 : Nat) : Int) by omega, bits_or_u64_nat _ _ (by omega) (by omega)]
  have := Nat.two_pow_add_eq_or_of_lt (i := 8) (b := x.toNat) (by omega) p
  rw [show p * 256 = 2 ^ 8 * p by omega, ← this]
end Go.Pg
namespace Go.Proofs.Ytndkkgkcbbmnpaa
open Go.RowKit Go.Pg

theorem makeBytes (n : Nat) (h : n ≤ 140737488351232) (w : World) : (Instr.makeSlice 25 (.int .i64 n) (.int .i64 n)).run Try.prog w = .ok (.slice (some ⟨w.heap.size, 0, none⟩) n n) (w.alloc (.cells (cellsOf (List.replicate n 0)) 5)) := by
  obtain ⟨i0, hi, hz0, hz1, hz2⟩ := info_parts infoU8
  have := run_make (P := Try.prog) w 25 5 i0 (.int .u8 0) underlying25 hi hz0 .i64 .i64 n n (by omega) (by omega) (by rw [hz2]; omega) (by omega)
  rw [this, hz1, Int.toNat_natCast, Nat.mul_one]
  have e : madeCells (Value.int IntKind.u8 0).cells n = cellsOf (List.replicate n 0) := by
    apply Array.ext'
    simp only [madeCells, cellsOf, Value.cells, Array.toList_map, Array.toList_range, List.map_replicate]
    apply List.ext_getElem (by simp)
    intro i h1 h2
    simp [Nat.mod_one]
  rw [e]
theorem makeBytes8 (w : World) : (Instr.makeSlice 25 (.int .i64 8) (.int .i64 8)).run Try.prog w = .ok (.slice (some ⟨w.heap.size, 0, none⟩) 8 8) (w.alloc (.cells (cellsOf (List.replicate 8 0)) 5)) := makeBytes 8 (by omega) w
set_option maxRecDepth 100000 in
set_option maxHeartbeats 1000000 in
theorem key_any (n : Nat) (w : World) (hn : (n : Int) < 18446744073709551616) :
    Calls Try.prog 97 #[.int .u64 n] w (Fresh w 5 1 byteR (beBytes 8 n)) := by
  have hmk := makeBytes8
  have hn0 : (0 : Int) ≤ (n : Int) := by omega
  go_enter Try.func97, Try.ntmps97
  go_wp2
  go_loopw [6] (fun i wr => ∃ k : Nat, k ≤ 8 ∧ i = .int .i64 k ∧ Hid (Below w.heap.size w wr) ∧ wr.heap[w.heap.size]? = some (.cells (cellsOf (filling (beBytes 8 n) k)) 5 (0, 0))) (fun i _ => 8 - (intOf i).toNat)
  case atStart => exact ⟨0, by omega, rfl, Bel.alloc (Bel.refl w) _, by rw [filling_zero, beBytes_length]; exact heap_alloc_new w _⟩
  case round =>
    obtain ⟨k, hk, rfl, HB, hblk⟩ := hrel
    by_cases hlt : k < 8
    · have hc : wr.cell? ⟨w.heap.size, k, none⟩ = some (.int .u8 (((filling (beBytes 8 n) k)[k]'(by rw [filling_length, beBytes_length]; exact hlt)).toNat : Int)) := by
        rw [cell_of_row _ _ _ _ _ _ hblk, cellsOf_get]
      have hf := frozen_of_row wr w.heap.size k _ _ hblk
      have HK := Lib.hid hblk
      have hk0 : (0 : Int) ≤ (k : Int) := by omega
      have hk1 : (k : Int) < 8 := by omega
      clear hblk
      go_wp2
      go_roundw
      case rel => exact ⟨k + 1, by omega, num_eq (by omega), HB.out.setCell (Nat.le_refl _) _, by rw [key_cell n k hlt, blk_setCell HK.out, cellsOf_set, filling_step _ _ (by rw [beBytes_length]; exact hlt)]⟩
      case measure => simp [intOf]; omega
    · obtain rfl : k = 8 := by omega
      have hb8 := filling_all (beBytes 8 n)
      rw [beBytes_length] at hb8
      rw [hb8] at hblk
      clear hb8
      go_wp2
      go_ret
      have := OwnAt.ofBlk (Nat.le_refl _) hblk (by rw [beBytes_length]; decide)
      rw [beBytes_length] at this
      exact ⟨_, rfl, this, HB⟩

set_option maxRecDepth 100000 in
set_option maxHeartbeats 1000000 in
theorem number_u64 (F : Nat → Prop) (w : World) (a : Option Addr) (n c : Nat) (bs : List UInt8) (h : BytesAt F w (.slice a n c) bs) (hn : n ≤ 8) :
    Calls Try.prog 98 #[.slice a n c] w fun e w' => e = .returned (.int .u64 (beNum bs)) ∧ w' = w := by
  have hnb := (SliceAt.len h)
  obtain ⟨a', c', hv, hnc, hcm, -⟩ := hnb
  simp only [Value.slice.injEq] at hv
  obtain ⟨rfl, hnl, rfl⟩ := hv
  have HN := Lib.hid hnl
  have H := Lib.hid h
  have hnc' : n ≤ c := by omega
  unfold maxLen at hcm
  clear hnl h hnc
  go_enter Try.func98, Try.ntmps98
  go_wp2
  go_loop [3, 7] (fun s i => ∃ k : Nat, k ≤ n ∧ i = .int .i64 k ∧ s = .int .u64 (beNum (bs.take k))) (fun _ i => n - (intOf i).toNat)
  case atStart => exact ⟨0, by omega, rfl, rfl⟩
  case round =>
    obtain ⟨k, hk, rfl, rfl⟩ := hrel
    by_cases hlt : k < n
    · rcases SliceAt.split H.out with ⟨_, h0⟩ | ⟨b, o, rfl, -, -, -⟩
      · omega
      have hc := BytesAt.cell H.out k (by have := HN.out; omega)
      obtain ⟨p, hp⟩ : ∃ p, p = beNum (bs.take k) := ⟨_, rfl⟩
      obtain ⟨x, hx⟩ : ∃ x, x = bs[k]'(by have := HN.out; omega) := ⟨_, rfl⟩
      rw [← hx] at hc
      rw [← hp]
      have HP := Lib.hid hp
      have HX := Lib.hid hx
      have hk0 : (0 : Int) ≤ (k : Int) := by omega
      have hk1 : (k : Int) < (n : Int) := by omega
      clear hp hx
      go_wp2
      go_round
      case rel => exact ⟨k + 1, by omega, num_eq (by omega), num_eq (by rw [number_snoc bs k (by have := HN.out; omega), ← HP.out, ← HX.out]; exact or_u64 p x (by rw [HP.out]; exact beNum_small bs k (by omega)))⟩
      case measure => simp [intOf]; omega
    · obtain rfl : n = k := by omega
      go_wp2
      go_ret
      exact ⟨ret_int (by rw [List.take_of_length_le (by have := HN.out; omega)]), rfl⟩

/-- bytes out of new memory -/
theorem lit_own (w : World) (e : TypeId) : OwnAt w w.heap.size e 1 byteR (.slice none 0 0) ([] : List UInt8) := OwnAt.nil _ _ _ _ _

set_option maxRecDepth 100000 in
set_option maxHeartbeats 1000000 in
theorem wbytes_any (n : Nat) (w : World) (hn : (n : Int) < 18446744073709551616) :
    Calls Try.prog 80 #[.int .u64 n] w (Fresh w 5 1 byteR (wordB n)) := by
  obtain ⟨i0, hi, hz0, hz1, hz2⟩ := info_parts infoU8
  have hst := wordB_strip n hn
  have HST := Lib.hid hst
  clear hst
  go_enter Try.func80, Try.ntmps80
  go_wp2_with fail
  refine (key_any n w hn).mono ?_
  rintro e w1 ⟨v1, rfl, ho, hb⟩
  have hat := ho.at (F := fun _ => True) (fun _ _ _ _ => trivial) (by decide)
  obtain ⟨a1, c1, rfl, h1, h2, -⟩ := ho.len
  rw [beBytes_length] at h1 hat ⊢
  have HB := Lib.hid hb
  have HA := Lib.hid hat
  clear hb hat ho
  go_wp2
  go_loop [3] (fun v => ∃ l a m c, v = .slice a m c ∧ m ≤ 8 ∧ c ≤ 2 ^ 63 - 1 ∧ m ≤ c ∧ Hid (m = l.length ∧ BytesAt (fun _ => True) w1 (.slice a m c) l ∧ l.dropWhile (· == 0) = wordB n)) (fun v => match v with | .slice _ m _ => m | _ => 0)
  case atStart => exact ⟨beBytes 8 n, a1, 8, c1, rfl, by omega, by unfold maxLen at h2; omega, by omega, by rw [beBytes_length], HA.out, HST.out⟩
  case round =>
    obtain ⟨l, a, m, c, rfl, hl8, hcm, hlc, H⟩ := hrel
    obtain ⟨hm, h3, h4⟩ := H.out
    by_cases hz : ∃ t, l = 0 :: t
    · obtain ⟨t, rfl⟩ := hz
      obtain ⟨k, rfl⟩ : ∃ k, m = k + 1 := ⟨t.length, by simpa using hm⟩
      have hk : k = t.length := by simpa using hm
      rcases SliceAt.split h3 with ⟨h0, _⟩ | ⟨b, o, rfl, -, -, -⟩
      · cases h0
      have hc := BytesAt.cell h3 0 (by simp)
      simp only [Nat.add_zero, List.getElem_cons_zero] at hc
      have hs := BytesAt.since h3 1 (by omega) (a2 := if c = 1 then some ⟨b, o, none⟩ else some ⟨b, o + 1, none⟩) (by simp [Addr.add])
      simp only [List.drop_succ_cons, List.drop_zero, Nat.add_sub_cancel] at hs
      have h5 : t.dropWhile (· == 0) = wordB n := by rw [← h4]; simp
      have HS : Hid (k = t.length ∧ BytesAt (fun _ => True) w1 (.slice (if c = 1 then some ⟨b, o, none⟩ else some ⟨b, o + 1, none⟩) k (c - 1)) t ∧ t.dropWhile (· == 0) = wordB n) := Lib.hid ⟨hk, hs, h5⟩
      clear h3 h4 H hs h5 hm hk
      go_wp2
      go_round
      case rel => exact ⟨t, _, _, _, rfl, by omega, by omega, by omega, HS⟩
      case measure => simp
    · have h5 : l = wordB n := by
        rw [← h4]
        cases l with
        | nil => rfl
        | cons x t =>
          have : (x == 0) = false := by simpa using fun e => hz ⟨t, by rw [e]⟩
          simp [this]
      have hpath : m = 0 ∨ (0 < m ∧ ∃ b o x, a = some ⟨b, o, none⟩ ∧ w1.cell? ⟨b, o, none⟩ = some (.int .u8 ((x : Nat) : Int)) ∧ 0 < x) := by
        rcases SliceAt.split h3 with ⟨h0, h1⟩ | ⟨b, o, rfl, -, hp, -⟩
        · exact .inl h1
        · cases l with
          | nil => simp at hm; exact .inl hm
          | cons x t =>
            have hc := BytesAt.cell h3 0 (by simp)
            simp only [Nat.add_zero, List.getElem_cons_zero] at hc
            refine .inr ⟨hp, b, o, x.toNat, rfl, hc, ?_⟩
            rcases Nat.eq_zero_or_pos x.toNat with h | h
            · exact absurd ⟨t, by rw [UInt8.toNat_inj.1 (show x.toNat = (0 : UInt8).toNat from h)]⟩ hz
            · exact h
      have hbase := HB.out.size
      have hle : (([] : List UInt8).length + l.length) * 1 ≤ 140737488355328 := by simp; omega
      subst h5
      have H3 := Lib.hid h3
      have HLE := Lib.hid hle
      clear h3 h4 H hz hm hle
      rcases hpath with rfl | ⟨hp, b, o, x, rfl, hc, hx⟩
      rotate_left
      have hx0 : ((x : Int) == 0) = false := by simp; omega
      all_goals
        go_wp2_with (at_builtin; refine wpList_append_at rfl (.const (.slice none 0 0)) (.tmp 17) 25 rfl w.heap.size 5 i0 (.int .u8 0) 1 1 underlying25 hi hz0 hz1 hz2 rfl (by decide) (by decide) byteR.one (.slice none 0 0) [] rfl (OwnAt.nil _ _ _ _ _) _ (wordB n) (fun _ => True) rfl H3.out HLE.out hbase ?_; intro v2 w2 ho hg hm)
        go_ret
        exact ⟨_, rfl, by simpa using ho, HB.out.grown hg hbase (fun k hk => by cases hk)⟩
end Go.Proofs.Ytndkkgkcbbmnpaa
namespace Go.Pg
open Go.RowKit
def addW (a b : Int) : Int := IntKind.u64.wrap (a + b)
def xorW (a b : Int) : Int := bits .xor .u64 a b
def rotW (x : Int) (n : Nat) : Int := bits .or .u64 (IntKind.u64.wrap (x * 2 ^ n)) (x / 2 ^ (64 - n))
structure S4 where
  a : Int
  b : Int
  c : Int
  d : Int
def S4.get (s : S4) : Nat → Int | 0 => s.a | 1 => s.b | 2 => s.c | _ => s.d
def S4.set (s : S4) : Nat → Int → S4
  | 0, v => { s with a := v } | 1, v => { s with b := v } | 2, v => { s with c := v } | _, v => { s with d := v }
def S4.cells (s : S4) : Array Value := #[.int .u64 s.a, .int .u64 s.b, .int .u64 s.c, .int .u64 s.d]
def S4.xor (s m : S4) : S4 := ⟨xorW s.a m.a, xorW s.b m.b, xorW s.c m.c, xorW s.d m.d⟩
/-- the first k words are those of t, the others those of s -/
def S4.part (k : Nat) (t s : S4) : S4 := ⟨if 0 < k then t.a else s.a, if 1 < k then t.b else s.b, if 2 < k then t.c else s.c, if 3 < k then t.d else s.d⟩
theorem S4.part_zero (t s : S4) : S4.part 0 t s = s := by simp [S4.part]
theorem S4.part_four (t s : S4) : S4.part 4 t s = t := by simp [S4.part]
theorem S4.part_get (t s : S4) (k : Nat) (h : k < 4) : (S4.part k t s).get k = s.get k := by
  rcases k with _ | _ | _ | _ | k
  all_goals first | rfl | omega
theorem S4.part_set (t s : S4) (k : Nat) (h : k < 4) : (S4.part k t s).set k (t.get k) = S4.part (k + 1) t s := by
  rcases k with _ | _ | _ | _ | k
  all_goals first | rfl | omega
theorem S4.xor_get (s m : S4) (k : Nat) (h : k < 4) : (s.xor m).get k = xorW (s.get k) (m.get k) := by
  rcases k with _ | _ | _ | _ | k
  all_goals first | rfl | omega
theorem S4.cells_get (s : S4) (k : Nat) (h : k < 4) : s.cells[k]? = some (.int .u64 (s.get k)) := by
  rcases k with _ | _ | _ | _ | k
  all_goals first | rfl | omega
theorem S4.cells_set (s : S4) (k : Nat) (h : k < 4) (v : Int) : s.cells.setIfInBounds k (.int .u64 v) = (s.set k v).cells := by
  rcases k with _ | _ | _ | _ | k
  all_goals first | rfl | omega
theorem S4.ext' {s t : S4} (h : ∀ k, k < 4 → s.get k = t.get k) : s = t := by
  have h0 := h 0 (by omega)
  have h1 := h 1 (by omega)
  have h2 := h 2 (by omega)
  have h3 := h 3 (by omega)
  obtain ⟨a, b, c, d⟩ := s
  obtain ⟨a', b', c', d'⟩ := t
  simp only [S4.get] at h0 h1 h2 h3
  subst h0 h1 h2 h3
  rfl
def S4.ok (s : S4) : Prop := ∀ k, k < 4 → 0 ≤ s.get k ∧ s.get k ≤ 18446744073709551615
def golden : Int := 11400714819323198485
/-- what is added in a round -/
def kay (r : Nat) : Int := (golden * (r + 1 : Nat)) % 18446744073709551616
theorem kay_zero : kay 0 = 11400714819323198485 := by decide
theorem kay_step (r : Nat) : IntKind.u64.wrap (kay r + 11400714819323198485) = kay (r + 1) := by
  rw [IntKind.wrap_u64]; unfold kay golden; omega
def round (m : S4) (r : Nat) (s : S4) : S4 :=
  let a1 := addW s.a (addW (addW s.b (m.get (r % 4))) (kay r))
  let d1 := rotW (xorW s.d a1) 32
  let c1 := addW s.c d1
  let b1 := rotW (xorW s.b c1) 24
  let a2 := addW a1 b1
  let d2 := rotW (xorW d1 a2) 16
  let c2 := addW c1 d2
  let b2 := rotW (xorW b1 c2) 63
  ⟨b2, c2, d2, a2⟩
def rounds (m s : S4) : Nat → S4
  | 0 => s
  | r + 1 => round m r (rounds m s r)
/-- a state behind four more words -/
def mixedS (s m : S4) : S4 := (rounds m (s.xor m) 8).xor s
/-- the four words of 32 bytes -/
def wordAt (l : List UInt8) (at_ : Nat) : Int := (beNum ((l.drop at_).take 8) : Nat)
def wordsOf (l : List UInt8) : S4 := ⟨wordAt l 0, wordAt l 8, wordAt l 16, wordAt l 24⟩
def begunS : S4 := ⟨kay 0, kay 1, kay 2, kay 3⟩
def absorb (s : S4) (l : List UInt8) : S4 := if 32 ≤ l.length then absorb (mixedS s (wordsOf l)) (l.drop 32) else s
termination_by l.length
decreasing_by simp; omega
/-- how many zeros -/
def zeros (n : Nat) : Nat := (55 + 32 - n % 32) % 32
def padOf (l : List UInt8) (n : Nat) : List UInt8 := l ++ [128] ++ List.replicate (zeros l.length) 0 ++ beBytes 8 n
def outS (s : S4) : List UInt8 := beBytes 8 s.a.toNat ++ beBytes 8 s.b.toNat ++ beBytes 8 s.c.toNat ++ beBytes 8 s.d.toNat
/-- the digest of a text -/
def digestOf (l : List UInt8) : List UInt8 := outS (absorb begunS (padOf l l.length))
theorem outS_length (s : S4) : (outS s).length = 32 := by simp [outS, beBytes_length]
theorem digestOf_length (l : List UInt8) : (digestOf l).length = 32 := outS_length _
theorem padOf_length (l : List UInt8) (n : Nat) : (padOf l n).length % 32 = 0 := by
  simp only [padOf, List.length_append, List.length_cons, List.length_nil, List.length_replicate, beBytes_length, zeros]; omega
theorem absorb_step (s : S4) (l : List UInt8) (h : 32 ≤ l.length) : absorb s l = absorb (mixedS s (wordsOf l)) (l.drop 32) := by rw [absorb, if_pos h]
theorem absorb_done (s : S4) (l : List UInt8) (h : l.length < 32) : absorb s l = s := by rw [absorb, if_neg (by omega)]
theorem wordsOf_append (l m : List UInt8) (h : 32 ≤ l.length) : wordsOf (l ++ m) = wordsOf l := by
  have : ∀ k, k + 8 ≤ 32 → wordAt (l ++ m) k = wordAt l k := fun k hk => by
    unfold wordAt
    rw [List.drop_append_of_le_length (by omega), List.take_append_of_le_length (by rw [List.length_drop]; omega)]
  unfold wordsOf
  rw [this 0 (by omega), this 8 (by omega), this 16 (by omega), this 24 (by omega)]
theorem wordsOf_take (l : List UInt8) : wordsOf (l.take 32) = wordsOf l := by
  have : ∀ k, k + 8 ≤ 32 → wordAt (l.take 32) k = wordAt l k := fun k hk => by
    unfold wordAt
    rw [List.drop_take, List.take_take, Nat.min_eq_left (by omega)]
  unfold wordsOf
  rw [this 0 (by omega), this 8 (by omega), this 16 (by omega), this 24 (by omega)]
/-- whole pieces ahead of more -/
theorem absorb_append (k : Nat) : ∀ (s : S4) (l m : List UInt8), l.length = 32 * k → absorb s (l ++ m) = absorb (absorb s l) m := by
  induction k with
  | zero => intro s l m h; have : l = [] := List.eq_nil_of_length_eq_zero (by omega)
            subst this; rw [absorb_done s [] (by simp)]; rfl
  | succ k ih =>
    intro s l m h
    rw [absorb_step s (l ++ m) (by simp; omega), absorb_step s l (by omega), wordsOf_append l m (by omega), List.drop_append_of_le_length (by omega)]
    exact ih _ _ _ (by rw [List.length_drop]; omega)
/-- the bytes that are left when whole pieces are mixed in -/
def restOf (l : List UInt8) : List UInt8 := l.drop (32 * (l.length / 32))
theorem absorb_rest (s : S4) (l : List UInt8) (n : Nat) : absorb s (padOf l n) = absorb (absorb s l) (padOf (restOf l) n) := by
  have h1 : padOf l n = l.take (32 * (l.length / 32)) ++ padOf (restOf l) n := by
    have hz : zeros l.length = zeros (restOf l).length := by
      unfold restOf zeros; rw [List.length_drop]; omega
    unfold padOf
    rw [hz]
    generalize zeros (restOf l).length = z
    conv => lhs; rw [← List.take_append_drop (32 * (l.length / 32)) l]
    unfold restOf
    simp only [List.append_assoc]
  have hl : (l.take (32 * (l.length / 32))).length = 32 * (l.length / 32) := by rw [List.length_take]; omega
  have h2 : absorb s l = absorb s (l.take (32 * (l.length / 32))) := by
    conv => lhs; rw [← List.take_append_drop (32 * (l.length / 32)) l]
    rw [absorb_append _ _ _ _ hl, absorb_done _ _ (by rw [List.length_drop]; omega)]
  rw [h1, absorb_append _ _ _ _ hl, h2]
end Go.Pg
namespace Go.Proofs.Ytndkkgkcbbmnpaa
open Go.RowKit Go.Pg

theorem blk_set {w : World} {g i : Nat} {cs : Array Value} {t : TypeId} {v : Value} (hg : w.heap[g]? = some (.cells cs t (0, 0))) :
    (w.setCell ⟨g, i, none⟩ v).heap[g]? = some (.cells (cs.setIfInBounds i v) t (0, 0)) := heap_setCell_same w g i cs t v hg

/-- the first fault is noted; an empty item is told -/
def Failed (w : World) (rb : Nat) (v : Value) (n : Nat) (e : Ending) (w' : World) : Prop :=
  e = .returned (.agg #[.bool false, .slice none 0 0, .slice none 0 0]) ∧ w'.heap[rb]? = some (.cells #[v, .int .i64 n] 117 (0, 0)) ∧ Chg (fun k => k = rb) w w'
set_option maxHeartbeats 400000 in
theorem fail_any (w : World) (rb : Nat) (a : Option Addr) (n c : Nat) (code : Nat) (hk : w.heap[rb]? = some (.cells #[.slice a n c, .int .i64 0] 117 (0, 0))) :
    Calls Try.prog 108 #[.pointer (some ⟨rb, 0, none⟩), .int .i64 code] w (Failed w rb (.slice a n c) code) := by
  have hlt := (Array.getElem?_eq_some_iff.1 hk).1
  obtain ⟨q0, q1⟩ := cells2 hk
  have f1 := frozen_of_row w rb 1 _ _ hk
  have hne : rb ≠ w.heap.size := by omega
  have HK := Lib.hid hk
  clear hk
  go_enter Try.func108, Try.ntmps108
  go_wp2
  go_returns
  exact ⟨rfl, (Below.heap_alloc _ _ _ (by simpa using hlt)).trans (blk_set HK.out), ((Chg.refl (fun k => k = rb) w).atb (i := 1) _).alloc _⟩

/-- the next k bytes, or none -/
def Took (F : Nat → Prop) (w : World) (rb : Nat) (bs : List UInt8) (k : Nat) (e : Ending) (w' : World) : Prop :=
  ∃ a1 c1 a2 n2 c2, e = .returned (.tuple #[.slice a1 k c1, .bool true]) ∧ BytesAt F w' (.slice a1 k c1) (bs.take k) ∧ BytesAt F w' (.slice a2 n2 c2) (bs.drop k) ∧
    w'.heap[rb]? = some (.cells #[.slice a2 n2 c2, .int .i64 0] 117 (0, 0)) ∧ Chg (fun k => k = rb) w w'
set_option maxHeartbeats 400000 in
theorem take_ok (F : Nat → Prop) (w : World) (rb : Nat) (a : Option Addr) (n c k : Nat) (bs : List UInt8) (h : BytesAt F w (.slice a n c) bs) (hk : w.heap[rb]? = some (.cells #[.slice a n c, .int .i64 0] 117 (0, 0))) (hF : ¬ F rb)
    (hkn : k ≤ n) (_hn : n ≤ 1152921504606846976) :
    Calls Try.prog 107 #[.pointer (some ⟨rb, 0, none⟩), .int .i64 k] w (Took F w rb bs k) := by
  have hlt := (Array.getElem?_eq_some_iff.1 hk).1
  obtain ⟨q0, q1⟩ := cells2 hk
  have f0 := frozen_of_row w rb 0 _ _ hk
  have HK := Lib.hid hk
  have hc : n ≤ c := by
    obtain ⟨a', c', hv, h1, -⟩ := h
    simp only [Value.slice.injEq] at hv
    omega
  obtain ⟨a2, ha2⟩ : ∃ a2, (if c = k then a else a.map (·.add k)) = a2 := ⟨_, rfl⟩
  have HU := Lib.hid (BytesAt.upto h k hkn)
  have HS := Lib.hid (BytesAt.since h k hkn ha2)
  clear hk h
  go_enter Try.func107, Try.ntmps107
  go_wp2
  go_ret2
  have hcar : ∀ b, F b → b < w.heap.size → (w.setCell ⟨rb, 0, none⟩ (.slice a2 (n - k) (c - k))).heap[b]? = w.heap[b]? := fun b hb _ => Below.heap_setCell _ _ _ _ (fun e => hF (by rw [← show b = rb from e]; exact hb))
  exact ⟨a, c, a2, n - k, c - k, rfl, BytesAt.carry HU.out (fun _ _ x => x) hcar, BytesAt.carry HS.out (fun _ _ x => x) hcar, blk_set HK.out, (Chg.refl (fun k => k = rb) w).atb (i := 0) _⟩

set_option maxHeartbeats 400000 in
theorem take_no (w : World) (rb : Nat) (a : Option Addr) (n c : Nat) (k : Int) (hk : w.heap[rb]? = some (.cells #[.slice a n c, .int .i64 0] 117 (0, 0))) (hkn : (n : Int) < k) :
    Calls Try.prog 107 #[.pointer (some ⟨rb, 0, none⟩), .int .i64 k] w fun e w' => e = .returned (.tuple #[.slice none 0 0, .bool false]) ∧
      w'.heap[rb]? = some (.cells #[.slice a n c, .int .i64 (22 : Nat)] 117 (0, 0)) ∧ Chg (fun k => k = rb) w w' := by
  obtain ⟨q0, q1⟩ := cells2 hk
  have HK := Lib.hid hk
  clear hk
  go_enter Try.func107, Try.ntmps107
  go_wp2_with fail
  refine (fail_any _ rb a n c 22 HK.out).mono ?_
  rintro e w1 ⟨rfl, h1, h2⟩
  have H1 := Lib.hid h1
  have H2 := Lib.hid h2
  clear h1 h2
  go_wp2
  go_ret2
  exact ⟨rfl, H1.out, H2.out⟩
end Go.Proofs.Ytndkkgkcbbmnpaa
namespace Go.Pg
open Go.RowKit
theorem bits_or_i64_nat (a b : Nat) (ha : a < 4611686018427387904) (hb : b < 4611686018427387904) : bits .or .i64 (a : Int) (b : Int) = ((a ||| b : Nat) : Int) := by
  have hx : a ||| b < 2 ^ 62 := Nat.or_lt_two_pow (by omega) (by omega)
  have h1 : (BitVec.ofInt 64 (a : Int)).toNat = a := by
    rw [BitVec.ofInt_natCast, BitVec.toNat_ofNat]; exact Nat.mod_eq_of_lt (by omega)
  have h2 : (BitVec.ofInt 64 (b : Int)).toNat = b := by
    rw [BitVec.ofInt_natCast, BitVec.toNat_ofNat]; exact Nat.mod_eq_of_lt (by omega)
  show IntKind.i64.wrap ((BitVec.ofInt 64 (a : Int) ||| BitVec.ofInt 64 (b : Int)).toNat : Int) = _
  rw [BitVec.toNat_or, h1, h2, IntWalk.i64_in]
  omega
theorem or_byte' (p : Nat) (x : UInt8) (hp : p < 16777216) : bits .or .i64 ((p : Int) * 256) (x.toNat : Int) = ((p * 256 + x.toNat : Nat) : Int) := by
  have hx := x.toNat_lt
  have e : ((p : Int) * 256) = ((p * 256 : Nat) : Int) := by omega
  rw [e, bits_or_i64_nat _ _ (by omega) (by omega)]
  have := Nat.two_pow_add_eq_or_of_lt (i := 8) (b := x.toNat) (by omega) p
  rw [show p * 256 = 2 ^ 8 * p by omega, ← this]
theorem or_byte (p : Nat) (x : UInt8) (hp : p < 16777216) : bits .or .i64 ((p : Int) * 256) (wrap64 (x.toNat : Int)) = ((p * 256 + x.toNat : Nat) : Int) := by
  have hx := x.toNat_lt
  rw [IntWalk.wrap64_in _ (by omega)]
  exact or_byte' p x hp
end Go.Pg
namespace Go.Proofs.Ytndkkgkcbbmnpaa
open Go.RowKit Go.Pg

/-- a size was read, or a fault noted -/
def SizeC (F : Nat → Prop) (w : World) (rb : Nat) (r : Nat × Nat × List UInt8) (e : Ending) (w' : World) : Prop :=
  (r.1 = 0 → e = .returned (.tuple #[.int .i64 r.2.1, .bool true])) ∧ (r.1 ≠ 0 → e = .returned (.tuple #[.int .i64 0, .bool false])) ∧
    ∃ a2 n2 c2, (r.1 = 0 → BytesAt F w' (.slice a2 n2 c2) r.2.2) ∧ w'.heap[rb]? = some (.cells #[.slice a2 n2 c2, .int .i64 r.1] 117 (0, 0)) ∧ Chg (fun k => k = rb) w w'

set_option maxRecDepth 100000 in
set_option maxHeartbeats 1000000 in
theorem size_any (F : Nat → Prop) (w : World) (rb : Nat) (a : Option Addr) (n c : Nat) (m : Nat) (bs : List UInt8) (h : BytesAt F w (.slice a n c) bs) (hk : w.heap[rb]? = some (.cells #[.slice a n c, .int .i64 0] 117 (0, 0))) (hF : ¬ F rb)
    (hn : n ≤ 1152921504606846976) (hm : m ≤ 255) :
    Calls Try.prog 110 #[.pointer (some ⟨rb, 0, none⟩), .int .i64 m] w (SizeC F w rb (readSize m bs)) := by
  have hnb : n = bs.length := by
    obtain ⟨a', c', hv, h1, -⟩ := h
    simp only [Value.slice.injEq] at hv
    exact hv.2.1
  have HNB := Lib.hid hnb
  clear hnb
  by_cases h55 : m ≤ 55
  · have hr : readSize m bs = (0, m, bs) := by unfold readSize; rw [if_pos h55]
    have HR := Lib.hid hr
    clear hr
    go_enter Try.func110, Try.ntmps110
    go_wp2
    go_ret2
    unfold SizeC
    rw [HR.out]
    exact ⟨fun _ => rfl, fun h => absurd rfl h, a, n, c, fun _ => h, hk, Chg.refl _ _⟩
  · by_cases h58 : 58 < m
    · have hr : readSize m bs = (23, 0, bs) := by unfold readSize; rw [if_neg h55, if_pos h58]
      have HR := Lib.hid hr
      clear hr
      have HK := Lib.hid hk
      clear hk
      go_enter Try.func110, Try.ntmps110
      go_wp2_with fail
      refine (fail_any _ rb a n c 23 HK.out).mono ?_
      rintro e w1 ⟨rfl, h1, h2⟩
      have H1 := Lib.hid h1
      have H2 := Lib.hid h2
      clear h1 h2
      go_wp2
      go_ret2
      unfold SizeC
      rw [HR.out]
      exact ⟨(fun h => by cases h), fun _ => rfl, a, n, c, (fun h => by cases h), H1.out, H2.out⟩
    · obtain ⟨k, hkm⟩ : ∃ k : Nat, m = k + 55 := ⟨m - 55, by omega⟩
      subst hkm
      have hkk : ((k + 55 : Nat) : Int) - 55 = (k : Int) := by omega
      by_cases hsh : n < k
      · have hr : readSize (k + 55) bs = (22, 0, bs) := by
          unfold readSize; rw [if_neg h55, if_neg h58, if_pos (by have := HNB.out; omega)]
        have HR := Lib.hid hr
        clear hr
        have HK := Lib.hid hk
        clear hk
        go_enter Try.func110, Try.ntmps110
        go_wp2_with fail
        refine (take_no _ rb a n c _ HK.out (by omega)).mono ?_
        rintro e w1 ⟨rfl, h1, h2⟩
        have H1 := Lib.hid h1
        have H2 := Lib.hid h2
        clear h1 h2
        go_wp2
        go_ret2
        unfold SizeC
        rw [HR.out]
        exact ⟨(fun h => by cases h), fun _ => rfl, a, n, c, (fun h => by cases h), H1.out, H2.out⟩
      · have HK := Lib.hid hk
        have HH := Lib.hid h
        clear hk h
        go_enter Try.func110, Try.ntmps110
        go_wp2_with fail
        refine (take_ok F _ rb a n c k bs HH.out HK.out hF (by omega) hn).mono ?_
        rintro e w1 ⟨a1, c1, a2, n2, c2, rfl, hu, hs, hk1, hch⟩
        have HU := Lib.hid hu
        have HS := Lib.hid hs
        have HK1 := Lib.hid hk1
        have HCH := Lib.hid hch
        clear hu hs hk1 hch
        have hk3 : k ≤ 3 := by omega
        have hk1 : 1 ≤ k := by omega
        have hkl : (bs.take k).length = k := by rw [List.length_take]; have := HNB.out; omega
        obtain ⟨l, hl⟩ : ∃ l, l = bs.take k := ⟨_, rfl⟩
        rw [← hl] at HU hkl
        have HL := Lib.hid hl
        have HKL := Lib.hid hkl
        clear hl hkl
        rcases SliceAt.split HU.out with ⟨_, h0⟩ | ⟨b, o, rfl, -, -, -⟩
        · omega
        go_wp2_with fail
        go_loop [1, 9, 28] (fun q x i => ∃ j p : Nat, j ≤ k ∧ i = .int .i64 j ∧ q = .int .i64 p ∧ p ≤ 16777215 ∧ Hid (p = beNum (l.take j))) (fun _ _ i => k - (intOf i).toNat)
        case atStart => exact ⟨0, 0, Nat.zero_le _, rfl, rfl, by omega, by show _ = _; simp [beNum]⟩
        case round =>
          obtain ⟨j, p, hj, rfl, rfl, hp, HP⟩ := hrel
          by_cases hlt : j < k
          · have hjl : j < l.length := by have := HKL.out; omega
            have hc := BytesAt.cell HU.out j hjl
            obtain ⟨x, hx⟩ : ∃ x, x = l[j] := ⟨_, rfl⟩
            rw [← hx] at hc
            have hpb : p < 256 ^ j := by
              have h1 := beNum_lt (l.take j)
              have h2 : (l.take j).length = j := by rw [List.length_take]; omega
              have := HP.out
              rw [h2] at h1; omega
            have hor := Lib.hid (And.intro (or_byte p x (by omega)) (or_byte' p x (by omega)))
            have hpx : p * 256 + x.toNat ≤ 16777215 := by
              have h1 := x.toNat_lt
              have h2 : p + 1 ≤ 256 ^ j := hpb
              have h3 : 256 ^ j ≤ 256 ^ 2 := Nat.pow_le_pow_right (by omega) (by omega)
              omega
            have hst : beNum (l.take (j + 1)) = p * 256 + x.toNat := by
              rw [List.take_succ_eq_append_getElem hjl, beNum_snoc, ← HP.out, hx]
            have HST := Lib.hid hst
            clear hx hst hpb
            go_wp2
            go_round
            case rel => exact ⟨j + 1, p * 256 + x.toNat, by omega, num_eq (by omega), num_eq (by first | exact hor.out.1 | exact hor.out.2), hpx, HST.out.symm⟩
            case measure => simp [intOf]; omega
          · obtain rfl : j = k := by omega
            have hp' := HP.out
            rw [List.take_of_length_le (by have := HKL.out; omega)] at hp'
            have hl0 : 0 < l.length := by have := HKL.out; omega
            have hc := BytesAt.cell HU.out 0 hl0
            simp only [Nat.add_zero] at hc
            obtain ⟨x, hx⟩ : ∃ x, x = l[0] := ⟨_, rfl⟩
            rw [← hx] at hc
            have hhead : bs.headD 0 = x := by
              rw [hx]
              have := HL.out
              cases bs with
              | nil => simp at this; subst this; simp at hl0
              | cons y r =>
                obtain ⟨j', rfl⟩ : ∃ j', j = j' + 1 := ⟨j - 1, by omega⟩
                simp at this; subst this; rfl
            have hr : readSize (j + 55) bs = if x = 0 ∨ p ≤ 55 then (23, 0, bs.drop j) else (0, p, bs.drop j) := by
              unfold readSize
              rw [if_neg h55, if_neg h58, if_neg (by have := HNB.out; omega), Nat.add_sub_cancel, ← HL.out, ← hp', hhead]
            have HR := Lib.hid hr
            have hsc : x = 0 ∨ x ≠ 0 := by by_cases h : x = 0; exact .inl h; exact .inr h
            clear hp' hx hhead hr hl0
            by_cases hx0 : x.toNat = 0
            · have hxz : x = 0 := UInt8.toNat_inj.1 (by simpa using hx0)
              have hx1 : ((x.toNat : Int) == 0) = true := by simp; omega
              have HR2 : Hid (readSize (j + 55) bs = (23, 0, bs.drop j)) := by show _ = _; rw [HR.out, if_pos (.inl hxz)]
              clear hsc hx0 hxz
              go_wp2_with fail
              refine (fail_any _ rb a2 n2 c2 23 HK1.out).mono ?_
              rintro e w2 ⟨rfl, h1, h2⟩
              have H1 := Lib.hid h1
              have H2 := Lib.hid h2
              clear h1 h2
              go_wp2_with fail
              go_ret2
              unfold SizeC
              rw [HR2.out]
              exact ⟨(fun h => by cases h), fun _ => rfl, a2, n2, c2, (fun h => by cases h), H1.out, (HCH.out).trans H2.out (fun _ _ x => x)⟩
            · have hx1 : ((x.toNat : Int) == 0) = false := by simp; omega
              have hxz : x ≠ 0 := fun e => hx0 (by rw [e]; rfl)
              by_cases hp55 : (p : Int) ≤ 55
              · have HR2 : Hid (readSize (j + 55) bs = (23, 0, bs.drop j)) := by show _ = _; rw [HR.out, if_pos (.inr (by omega))]
                clear hsc hx0 hxz
                go_wp2_with fail
                refine (fail_any _ rb a2 n2 c2 23 HK1.out).mono ?_
                rintro e w2 ⟨rfl, h1, h2⟩
                have H1 := Lib.hid h1
                have H2 := Lib.hid h2
                clear h1 h2
                go_wp2_with fail
                go_ret2
                unfold SizeC
                rw [HR2.out]
                exact ⟨(fun h => by cases h), fun _ => rfl, a2, n2, c2, (fun h => by cases h), H1.out, (HCH.out).trans H2.out (fun _ _ x => x)⟩
              · have HR2 : Hid (readSize (j + 55) bs = (0, p, bs.drop j)) := by show _ = _; rw [HR.out, if_neg (by rintro (h | h); exact hxz h; omega)]
                clear hsc hx0 hxz
                go_wp2_with fail
                go_ret2
                unfold SizeC
                rw [HR2.out]
                exact ⟨fun _ => rfl, fun h => absurd rfl h, a2, n2, c2, fun _ => HS.out, HK1.out, HCH.out⟩
end Go.Proofs.Ytndkkgkcbbmnpaa
namespace Go.Pg
open Go.RowKit
/-- three cells written into a box -/
structure Box3 (W1 W : World) (b : Nat) (v0 v1 v2 : Value) (t : TypeId) : Prop where
  at_ : W.heap[b]? = some (.cells #[v0, v1, v2] t (0, 0))
  other : ∀ k, k ≠ b → W.heap[k]? = W1.heap[k]?
  size : W.heap.size = W1.heap.size
  chg : Chg (fun k => k = b) W1 W
theorem box3 {W1 : World} {b : Nat} {x0 x1 x2 : Value} {t : TypeId} (hk : W1.heap[b]? = some (.cells #[x0, x1, x2] t (0, 0))) (v0 v1 v2 : Value) :
    Box3 W1 (((W1.setCell ⟨b, 0, none⟩ v0).setCell ⟨b, 1, none⟩ v1).setCell ⟨b, 2, none⟩ v2) b v0 v1 v2 t :=
  ⟨heap_setCell_same _ _ _ _ _ _ (heap_setCell_same _ _ _ _ _ _ (heap_setCell_same _ _ _ _ _ _ hk)),
   fun k hk => by rw [Below.heap_setCell _ _ _ _ hk, Below.heap_setCell _ _ _ _ hk, Below.heap_setCell _ _ _ _ hk], by simp, (((Chg.refl (fun k => k = b) W1).atb _).atb _).atb _⟩
theorem Box3.alloc {W1 W : World} {b : Nat} {v0 v1 v2 : Value} {t : TypeId} (h : Box3 W1 W b v0 v1 v2 t) (o : Obj) : Box3 (W1.alloc o) (W.alloc o) b v0 v1 v2 t := by
  have hlt := (Array.getElem?_eq_some_iff.1 h.at_).1
  refine ⟨by rw [Below.heap_alloc _ _ _ hlt]; exact h.at_, fun k hk => ?_, by simp [h.size], ⟨h.chg.os, h.chg.tape, h.chg.output, by simp [h.size], fun k hk hn => ?_⟩⟩
  all_goals
    show (W.heap.push o)[k]? = (W1.heap.push o)[k]?
    rw [Array.getElem?_push, Array.getElem?_push, h.size, h.other k (by assumption)]
end Go.Pg
namespace Go.Proofs.Ytndkkgkcbbmnpaa
open Go.RowKit Go.Pg

/-- an item was read, or a fault noted -/
def Itemd (F : Nat → Prop) (w : World) (rb D : Nat) (r : Nat × It × List UInt8) (e : Ending) (w' : World) : Prop :=
  ∃ l a1 n1 c1 a3 n3 c3 a2 n2 c2, e = .returned (.agg #[.bool l, .slice a1 n1 c1, .slice a3 n3 c3]) ∧
    (r.1 = 0 → ItemAt (fun b => w.heap.size ≤ b) w' D [.bool l, .slice a1 n1 c1, .slice a3 n3 c3] r.2.1 ∧ BytesAt F w' (.slice a2 n2 c2) r.2.2) ∧
    w'.heap[rb]? = some (.cells #[.slice a2 n2 c2, .int .i64 r.1] 117 (0, 0)) ∧ Chg (fun k => k = rb) w w'
def RItemC (f : Nat) : Prop := ∀ (F : Nat → Prop) (w : World) (rb : Nat) (a : Option Addr) (n c deep : Nat) (bs : List UInt8), BytesAt F w (.slice a n c) bs →
  w.heap[rb]? = some (.cells #[.slice a n c, .int .i64 0] 117 (0, 0)) → ¬ F rb → n ≤ 140737488351232 → deep + f = 8 →
  Calls Try.prog 95 #[.pointer (some ⟨rb, 0, none⟩), .int .i64 deep] w (Itemd F w rb (f + 1) (rdItem f bs))
def RListC (f : Nat) : Prop := ∀ (F : Nat → Prop) (w : World) (rb : Nat) (a : Option Addr) (n c deep m : Nat) (bs : List UInt8), BytesAt F w (.slice a n c) bs →
  w.heap[rb]? = some (.cells #[.slice a n c, .int .i64 0] 117 (0, 0)) → ¬ F rb → n ≤ 140737488351232 → deep + 1 + f = 8 → m ≤ 255 →
  Calls Try.prog 109 #[.pointer (some ⟨rb, 0, none⟩), .int .i64 m, .int .i64 deep] w (Itemd F w rb (f + 2) (rdList (rdItem f) (readSize m bs)))

theorem int_fail (w : World) (rb : Nat) (a : Option Addr) (n c : Nat) (k : Int) (code : Nat) (hkc : k = code) (hk : w.heap[rb]? = some (.cells #[.slice a n c, .int .i64 0] 117 (0, 0))) :
    Calls Try.prog 108 #[.pointer (some ⟨rb, 0, none⟩), .int .i64 k] w (Failed w rb (.slice a n c) code) := by
  subst hkc; exact fail_any w rb a n c code hk

set_option maxRecDepth 100000 in
set_option maxHeartbeats 1000000 in
theorem item_none (F : Nat → Prop) (f : Nat) (w : World) (rb : Nat) (a : Option Addr) (c deep : Nat)
    (hk : w.heap[rb]? = some (.cells #[.slice a 0 c, .int .i64 0] 117 (0, 0))) :
    Calls Try.prog 95 #[.pointer (some ⟨rb, 0, none⟩), .int .i64 deep] w (Itemd F w rb (f + 1) (rdItem f [])) := by
  have hlt := (Array.getElem?_eq_some_iff.1 hk).1
  have hr : rdItem f [] = (22, .text [], []) := by cases f <;> rfl
  have HR := Lib.hid hr
  have hk0 : (w.alloc (.cells #[.bool false, .slice none 0 0, .slice none 0 0] 65)).heap[rb]? = some (.cells #[.slice a 0 c, .int .i64 0] 117 (0, 0)) := by rw [Below.heap_alloc _ _ _ hlt]; exact hk
  have HK0 := Lib.hid hk0
  clear hr hk hk0
  go_enter Try.func95, Try.ntmps95
  go_wp2_with fail
  refine (take_no _ rb a 0 c 1 HK0.out (by omega)).mono ?_
  rintro e w1 ⟨rfl, h1, h2⟩
  have hb1 : w1.heap[w.heap.size]? = some (.cells #[.bool false, .slice none 0 0, .slice none 0 0] 65 (0, 0)) := by
    rw [h2.block _ (by simp) (by omega)]; exact heap_alloc_new w _
  obtain ⟨q0, q1, q2⟩ := cells3 hb1
  have f0 := frozen_of_row w1 w.heap.size 0 _ _ hb1
  have f1 := frozen_of_row w1 w.heap.size 1 _ _ hb1
  have f2 := frozen_of_row w1 w.heap.size 2 _ _ hb1
  have H1 := Lib.hid h1
  have H2 := Lib.hid h2
  have HB1 := Lib.hid hb1
  clear h1 h2 hb1
  go_wp2_with fail
  have hbx := box3 HB1.out (.bool false) (.slice none 0 0) (.slice none 0 0)
  obtain ⟨W, hW⟩ : ∃ W, W = ((w1.setCell ⟨w.heap.size, 0, none⟩ (.bool false)).setCell ⟨w.heap.size, 1, none⟩ (.slice none 0 0)).setCell ⟨w.heap.size, 2, none⟩ (.slice none 0 0) := ⟨_, rfl⟩
  rw [← hW] at hbx ⊢
  obtain ⟨r0, r1, r2⟩ := cells3 hbx.at_
  refine bodyPost_ret (v := .agg #[.bool false, .slice none 0 0, .slice none 0 0]) (by simp [results, Try.results95, go_sem, r0, r1, r2]) rfl ?_
  unfold Itemd
  rw [HR.out]
  refine ⟨false, none, 0, 0, none, 0, 0, a, 0, c, rfl, (fun h => by cases h), ?_, ?_⟩
  · rw [hbx.other _ (by omega)]; exact H1.out
  · exact (((Chg.refl (fun k => k = rb) w).alloc _).trans H2.out (fun _ _ x => x)).trans hbx.chg (fun i hi e => by omega)
end Go.Proofs.Ytndkkgkcbbmnpaa
