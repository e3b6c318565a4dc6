/-
  Contracts of nest.write (whole), slices.Clone at bytes and at items, nest.Text, nest.List.
  Contract of (*nest.looker).look: what is amiss with an item.
  Contract of nest.Encode.
  A list that the call gathers in a slice of its own, its elements with memory of their own: what an append of one more does.
  Contract of witness.texts.
  Contracts of bytes.Compare, witness.rises, pergolaref01.Ahead, pergolaref21.rises; []byte read as a string.
-/
import Derived.Test.YtndkkgkcbbmnpaaQbAB
import Derived.BigRegion
import Derived.Test.YtndkkgkcbbmnpaaProg
import Derived.Lib.BytesEntry
import Derived.Lib.Bytealg
import Derived.Laws.BytesArg
namespace Go.Proofs.Ytndkkgkcbbmnpaa
open Go.RowKit Go.Pg

theorem write_any (d : Nat) : WriteC d := by
  induction d with
  | zero => intro F w base x l v1 v2 v bs _ _ h; exact h.elim
  | succ d ih =>
    intro F w base x l v1 v2 v bs hb hF h hown hlen
    by_cases hp : x.plain = true
    · exact write_plain F w base x l v1 v2 v bs hb hF h hown hlen hp
    · exact write_long ih F w base x l v1 v2 v bs hb hF h hown hlen (by simpa using hp)

theorem cloneB_nil (w : World) :
    Calls Try.prog 79 #[.slice none 0 0] w fun e w' => e = .returned (.slice none 0 0) ∧ w = w' := by
  have heq := fun w a n c => Lib.run_eql_slice_nil (P := Try.prog) w 25 5 a n c 0 0 underlying25
  go_enter Try.func79, Try.ntmps79
  go_wp2
  go_ret
  exact ⟨rfl, rfl⟩

set_option maxHeartbeats 400000 in
theorem cloneB_some (F : Nat → Prop) (w : World) (a : Addr) (n c : Nat) (bs : List UInt8) (h : BytesAt F w (.slice (some a) n c) bs) (hlen : bs.length ≤ 140737488351232) :
    Calls Try.prog 79 #[.slice (some a) n c] w fun e w' => ∃ v', e = .returned v' ∧ OwnAt w' w.heap.size 5 1 byteR v' bs ∧ Below w.heap.size w w' := by
  obtain ⟨i0, hi, hz0, hz1, hz2⟩ := info_parts infoU8
  have hown : OwnAt (w.alloc (.cells #[] 5)) w.heap.size 5 1 byteR (.slice (some ⟨w.heap.size, 0, none⟩) 0 0) ([] : List UInt8) :=
    ⟨[], World.ownsRow_made w #[] 0 (Nat.le_refl _) (by decide) rfl, Rows.nil _ _⟩
  have hsrc : BytesAt F (w.alloc (.cells #[] 5)) (.slice (some a) n c) bs := BytesAt.below h (Bel.alloc (Bel.refl w) _)
  have hle : (([] : List UInt8).length + bs.length) * 1 ≤ 140737488355328 := by simp; omega
  have hb : w.heap.size ≤ (w.alloc (.cells #[] 5)).heap.size := by simp
  have heq := fun w a n c => Lib.run_eql_slice_nil (P := Try.prog) w 25 5 a n c 0 0 underlying25
  go_enter Try.func79, Try.ntmps79
  go_wp2_with (at_builtin; refine wpList_append_at rfl (.tmp 5) (.tmp 6) 25 rfl w.heap.size 5 i0 (.int .u8 0) 1 1 underlying25 hi hz0 hz1 hz2 rfl (by decide) (by decide) byteR.one _ [] rfl hown _ bs F rfl hsrc hle hb ?_; intro v' w2 ho hg hw)
  go_ret
  exact ⟨v', rfl, by simpa using ho, (Bel.alloc (Bel.refl w) _).grown hg hb (fun k hk => (hown.own k hk).1)⟩

theorem underlyingItems : Try.prog.underlying 63 = some (.slice 65) := Try.underlying63
theorem infoItem : (Try.prog.info? 65).map (fun i => (i.zero, i.size, i.bytes)) = some (some (.agg #[.bool false, .slice none 0 0, .slice none 0 0]), 3, 56) := by kernel_rfl

theorem cloneI_nil (w : World) :
    Calls Try.prog 72 #[.slice none 0 0] w fun e w' => e = .returned (.slice none 0 0) ∧ w = w' := by
  have heq := fun w a n c => Lib.run_eql_slice_nil (P := Try.prog) w 63 65 a n c 0 0 underlyingItems
  go_enter Try.func72, Try.ntmps72
  go_wp2
  go_ret
  exact ⟨rfl, rfl⟩

set_option maxHeartbeats 400000 in
theorem cloneI_some (F : Nat → Prop) (w : World) (a : Addr) (n c : Nat) (d : Nat) (l : List It) (h : ItemsAt F w d (.slice (some a) n c) l) (hlen : l.length ≤ 1099511627776) :
    Calls Try.prog 72 #[.slice (some a) n c] w fun e w' => ∃ v', e = .returned v' ∧ OwnAt w' w.heap.size 65 3 (ItemAt F w d) v' l ∧ Below w.heap.size w w' := by
  obtain ⟨i0, hi, hz0, hz1, hz2⟩ := info_parts infoItem
  have hown : OwnAt (w.alloc (.cells #[] 65)) w.heap.size 65 3 (ItemAt F w d) (.slice (some ⟨w.heap.size, 0, none⟩) 0 0) ([] : List It) :=
    ⟨[], World.ownsRow_made w #[] 0 (Nat.le_refl _) (by decide) rfl, Rows.nil _ _⟩
  have hsrc : SliceAt F (w.alloc (.cells #[] 65)) 3 (ItemAt F w d) (.slice (some a) n c) l :=
    SliceAt.carry h (by decide) (fun _ _ x => x) (fun b _ hlt => Below.heap_alloc _ _ _ hlt) (fun _ _ _ h => h)
  have hle : (([] : List It).length + l.length) * 56 ≤ 140737488355328 := by simp; omega
  have hb : w.heap.size ≤ (w.alloc (.cells #[] 65)).heap.size := by simp
  have heq := fun w a n c => Lib.run_eql_slice_nil (P := Try.prog) w 63 65 a n c 0 0 underlyingItems
  go_enter Try.func72, Try.ntmps72
  go_wp2_with (at_builtin; refine wpList_append_at rfl (.tmp 5) (.tmp 6) 63 rfl w.heap.size 65 i0 (.agg #[.bool false, .slice none 0 0, .slice none 0 0]) 3 56 underlyingItems hi hz0 hz1 hz2 rfl (by decide) (by decide) (ItemAt.one d) _ [] rfl hown _ l F rfl hsrc hle hb ?_; intro v' w2 ho hg hw)
  go_ret
  exact ⟨v', rfl, by simpa using ho, (Bel.alloc (Bel.refl w) _).grown hg hb (fun k hk => (hown.own k hk).1)⟩

/-- a slice in new memory -/
def Fresh {α : Type} (w : World) (e : TypeId) (sz : Nat) (R : List Value → α → Prop) (l : List α) (en : Ending) (w' : World) : Prop :=
  ∃ v', en = .returned v' ∧ OwnAt w' w.heap.size e sz R v' l ∧ Below w.heap.size w w'
theorem cloneB_any (F : Nat → Prop) (w : World) (v : Value) (bs : List UInt8) (h : BytesAt F w v bs) (hlen : bs.length ≤ 140737488351232) :
    Calls Try.prog 79 #[v] w (Fresh w 5 1 byteR bs) := by
  obtain ⟨a, c, rfl, h1, h2, h3⟩ := SliceAt.len h
  cases a with
  | none =>
    obtain rfl := h3 rfl
    obtain ⟨rfl⟩ : bs = [] := List.eq_nil_of_length_eq_zero (by omega)
    refine (cloneB_nil w).mono ?_
    rintro e w' ⟨rfl, rfl⟩
    exact ⟨_, rfl, OwnAt.nil _ _ _ _ _, Bel.refl _⟩
  | some a => exact cloneB_some F w a _ c bs h hlen
theorem cloneI_any (F : Nat → Prop) (w : World) (v : Value) (d : Nat) (l : List It) (h : ItemsAt F w d v l) (hlen : l.length ≤ 1099511627776) :
    Calls Try.prog 72 #[v] w (Fresh w 65 3 (ItemAt F w d) l) := by
  obtain ⟨a, c, rfl, h1, h2, h3⟩ := SliceAt.len h
  cases a with
  | none =>
    obtain rfl := h3 rfl
    obtain ⟨rfl⟩ : l = [] := List.eq_nil_of_length_eq_zero (by omega)
    refine (cloneI_nil w).mono ?_
    rintro e w' ⟨rfl, rfl⟩
    exact ⟨_, rfl, OwnAt.nil _ _ _ _ _, Bel.refl _⟩
  | some a => exact cloneI_some F w a _ c d l h hlen

set_option maxHeartbeats 400000 in
/-- nest.Text: an item in new memory -/
theorem text_any (F : Nat → Prop) (w : World) (v : Value) (bs : List UInt8) (h : BytesAt F w v bs) (hlen : bs.length ≤ 140737488351232) :
    Calls Try.prog 50 #[v] w fun e w' => ∃ v1, e = .returned (.agg #[.bool false, v1, .slice none 0 0]) ∧ ItemAt (fun b => w.heap.size ≤ b) w' 1 [.bool false, v1, .slice none 0 0] (.text bs) ∧ Below w.heap.size w w' := by
  obtain ⟨a, c, rfl, h1, h2, h3⟩ := SliceAt.len h
  go_enter Try.func50, Try.ntmps50
  go_wp2_with fail
  refine (cloneB_any F _ _ bs ?_ hlen).mono ?_
  · exact BytesAt.below h (Bel.alloc (Bel.refl w) _)
  rintro e w1 ⟨v1, rfl, ho, hb⟩
  obtain ⟨a1, c1, rfl, -, -, -⟩ := ho.len
  have hk := boxblock hb
  obtain ⟨q0, q1, q2⟩ := cells3 hk
  have f0 := boxfree hb 0
  have f1 := boxfree hb 1
  have f2 := boxfree hb 2
  have hb' := Lib.hid hb
  have hkk := Lib.hid hk
  clear hb hk
  go_wp2_with fail
  obtain ⟨W, hW⟩ : ∃ W, W = ((w1.setCell ⟨w.heap.size, 0, none⟩ (.bool false)).setCell ⟨w.heap.size, 1, none⟩ (.slice a1 bs.length c1)).setCell ⟨w.heap.size, 2, none⟩ (.slice none 0 0) := ⟨_, rfl⟩
  have hWk : W.heap[w.heap.size]? = some (.cells #[.bool false, .slice a1 bs.length c1, .slice none 0 0] 65 (0, 0)) := by
    rw [hW]; exact heap_setCell_same _ _ _ _ _ _ (heap_setCell_same _ _ _ _ _ _ (heap_setCell_same _ _ _ _ _ _ hkk.out))
  rw [← hW]
  obtain ⟨r0, r1, r2⟩ := cells3 hWk
  refine bodyPost_ret (v := .agg #[.bool false, .slice a1 bs.length c1, .slice none 0 0]) (by simp [results, Try.results50, go_sem, r0, r1, r2]) rfl ?_
  have hb := hb'.out
  have hbel : Below w.heap.size w W := by
    rw [hW]
    exact (((Bel.call (Bel.alloc (Bel.refl w) _) hb).setCell (Nat.le_refl _) _).setCell (Nat.le_refl _) _).setCell (Nat.le_refl _) _
  have hoW : OwnAt W (w.heap.size + 1) 5 1 byteR (.slice a1 bs.length c1) bs := by
    have ho' := ho
    simp only [World.size_alloc] at ho'
    refine ho'.carry fun g _ hg _ => ?_
    rw [hW, Below.heap_setCell _ _ _ _ (by show g ≠ w.heap.size; omega), Below.heap_setCell _ _ _ _ (by show g ≠ w.heap.size; omega), Below.heap_setCell _ _ _ _ (by show g ≠ w.heap.size; omega)]
  exact ⟨_, rfl, ⟨_, _, rfl, hoW.at (fun g _ hg _ => by omega) (by decide), SliceAt.nil _ _ _ _⟩, hbel⟩

set_option maxHeartbeats 400000 in
/-- nest.List: a list of the items that are given, in a row of its own -/
theorem list_any (F : Nat → Prop) (w : World) (v : Value) (d : Nat) (l : List It) (h : ItemsAt F w d v l) (hlen : l.length ≤ 1099511627776) :
    Calls Try.prog 42 #[v] w fun e w' => ∃ v2, e = .returned (.agg #[.bool true, .slice none 0 0, v2]) ∧ ItemAt (fun b => F b ∨ w.heap.size ≤ b) w' (d + 1) [.bool true, .slice none 0 0, v2] (.list l) ∧ Below w.heap.size w w' := by
  obtain ⟨a, c, rfl, h1, h2, h3⟩ := SliceAt.len h
  go_enter Try.func42, Try.ntmps42
  go_wp2_with fail
  refine (cloneI_any (fun b => F b ∧ b < w.heap.size) _ _ d l ?_ hlen).mono ?_
  · exact ItemsAt.carry h (fun b hb hF => ⟨hF, hb⟩) (fun b _ hlt => Below.heap_alloc _ _ _ hlt)
  rintro e w1 ⟨v1, rfl, ho, hb⟩
  obtain ⟨a1, c1, rfl, -, -, -⟩ := ho.len
  have hk := boxblock hb
  obtain ⟨q0, q1, q2⟩ := cells3 hk
  have f0 := boxfree hb 0
  have f1 := boxfree hb 1
  have f2 := boxfree hb 2
  have hb' := Lib.hid hb
  have hkk := Lib.hid hk
  have HO := Lib.hid ho
  clear hb hk ho
  go_wp2_with fail
  obtain ⟨W, hW⟩ : ∃ W, W = ((w1.setCell ⟨w.heap.size, 0, none⟩ (.bool true)).setCell ⟨w.heap.size, 1, none⟩ (.slice none 0 0)).setCell ⟨w.heap.size, 2, none⟩ (.slice a1 l.length c1) := ⟨_, rfl⟩
  have hWk : W.heap[w.heap.size]? = some (.cells #[.bool true, .slice none 0 0, .slice a1 l.length c1] 65 (0, 0)) := by
    rw [hW]; exact heap_setCell_same _ _ _ _ _ _ (heap_setCell_same _ _ _ _ _ _ (heap_setCell_same _ _ _ _ _ _ hkk.out))
  rw [← hW]
  obtain ⟨r0, r1, r2⟩ := cells3 hWk
  refine bodyPost_ret (v := .agg #[.bool true, .slice none 0 0, .slice a1 l.length c1]) (by simp [results, Try.results42, go_sem, r0, r1, r2]) rfl ?_
  have hb := hb'.out
  have hbel : Below w.heap.size w W := by
    rw [hW]
    exact (((Bel.call (Bel.alloc (Bel.refl w) _) hb).setCell (Nat.le_refl _) _).setCell (Nat.le_refl _) _).setCell (Nat.le_refl _) _
  have hoW : OwnAt W (w.heap.size + 1) 65 3 (ItemAt (fun b => F b ∧ b < w.heap.size) (w.alloc (.cells #[.bool false, .slice none 0 0, .slice none 0 0] 65)) d) (.slice a1 l.length c1) l := by
    have ho' := HO.out
    simp only [World.size_alloc] at ho'
    refine ho'.carry fun g _ hg _ => ?_
    rw [hW, Below.heap_setCell _ _ _ _ (by show g ≠ w.heap.size; omega), Below.heap_setCell _ _ _ _ (by show g ≠ w.heap.size; omega), Below.heap_setCell _ _ _ _ (by show g ≠ w.heap.size; omega)]
  refine ⟨_, rfl, ⟨_, _, rfl, SliceAt.nil _ _ _ _, ?_⟩, hbel⟩
  refine (hoW.mono (R' := ItemAt (fun b => F b ∨ w.heap.size ≤ b) W d) fun cs x hx hi => ?_).at (fun g _ hg _ => .inr (by omega)) (by decide)
  exact hi.carry (fun b _ hF => .inl hF.1) (fun b hF _ => by rw [hbel.block b hF.2, Below.heap_alloc _ _ _ hF.2])

end Go.Proofs.Ytndkkgkcbbmnpaa
namespace Go.Pg
theorem Chg.at1 {lb i : Nat} {a w : World} (h : Chg (fun k => k = lb) a w) (u : Value) : Chg (fun k => k = lb) a (w.setCell ⟨lb, i, none⟩ u) := h.setCell (.inr rfl) u
mutual
/-- what an item weighs behind what was weighed, and what is amiss -/
def It.look : It → Nat → Nat → Nat × Nat
  | .text b, _, wt => if 16777215 < wt + max b.length 1 then (wt + max b.length 1, 20) else (wt + max b.length 1, 0)
  | .list l, deep, wt => if deep = 8 then (wt, 21) else if deep = 0 then (if 16777215 < wt then (wt, 20) else It.looks l 1 wt) else
      (if 16777215 < wt + 1 then (wt + 1, 20) else It.looks l (deep + 1) (wt + 1))
def It.looks : List It → Nat → Nat → Nat × Nat
  | [], _, wt => (wt, 0)
  | x :: r, deep, wt => if (It.look x deep wt).2 = 0 then It.looks r deep (It.look x deep wt).1 else It.look x deep wt
end
mutual
theorem It.look_le : ∀ (x : It) (deep wt : Nat), (x.look deep wt).1 ≤ wt + x.whole
  | .text b, deep, wt => by
    have h1 := It.body_le_whole (.text b)
    have h2 := It.whole_pos (.text b)
    simp only [It.body] at h1
    simp only [It.look]; split <;> simp <;> omega
  | .list l, deep, wt => by
    have h1 := It.body_le_whole (.list l)
    have h2 := It.whole_pos (.list l)
    have h3 : It.wholes l + 1 ≤ (It.list l).whole := by
      simp only [It.whole]; exact sz_ge _
    simp only [It.look]
    split
    · simp
    · split
      · split
        · simp
        · have := It.looks_le l 1 wt; omega
      · split
        · simp; omega
        · have := It.looks_le l (deep + 1) (wt + 1); omega
theorem It.looks_le : ∀ (l : List It) (deep wt : Nat), (It.looks l deep wt).1 ≤ wt + It.wholes l
  | [], deep, wt => by simp [It.looks, It.wholes]
  | x :: r, deep, wt => by
    have h1 := It.look_le x deep wt
    have h2 := It.looks_le r deep (x.look deep wt).1
    simp only [It.looks, It.wholes]
    split <;> omega
end
/-- what is done first at a list -/
def lookHead (deep wt : Nat) : Nat × Nat :=
  if deep = 8 then (wt, 21) else if deep = 0 then (if 16777215 < wt then (wt, 20) else (wt, 0)) else if 16777215 < wt + 1 then (wt + 1, 20) else (wt + 1, 0)
def lookOn (l : List It) (deep : Nat) (r : Nat × Nat) : Nat × Nat := if r.2 = 0 then It.looks l deep r.1 else r
theorem look_list_eq (l : List It) (deep wt : Nat) : (It.list l).look deep wt = lookOn l (deep + 1) (lookHead deep wt) := by
  simp only [It.look, lookHead, lookOn]
  by_cases h8 : deep = 8
  · simp [h8]
  · by_cases h0 : deep = 0
    · subst h0; by_cases hb : 16777215 < wt <;> simp [hb]
    · by_cases hb : 16777215 < wt + 1 <;> simp [h8, h0, hb]
theorem lookOn_nil (deep : Nat) (r : Nat × Nat) : lookOn [] deep r = r := by
  obtain ⟨m, e⟩ := r
  simp only [lookOn, It.looks]
  split
  · rename_i h; subst h; rfl
  · rfl
theorem lookOn_cons (x : It) (l : List It) (deep m : Nat) : lookOn (x :: l) deep (m, 0) = lookOn l deep (x.look deep m) := by
  simp only [lookOn, It.looks, if_true]
theorem lookOn_bad (l : List It) (deep m e : Nat) (h : e ≠ 0) : lookOn l deep (m, e) = (m, e) := by
  unfold lookOn; rw [if_neg h]
end Go.Pg
namespace Go.Proofs.Ytndkkgkcbbmnpaa
open Go.RowKit Go.Pg

/-- behind a look: the looker's two cells; nothing else of what was there has turned -/
def Looked (w : World) (lb : Nat) (r : Nat × Nat) (e : Ending) (w' : World) : Prop :=
  e = .returned (.tuple #[]) ∧ w'.heap[lb]? = some (.cells #[.int .i64 r.1, .int .i64 r.2] 93 (0, 0)) ∧ Chg (fun k => k = lb) w w'
def LookC (d : Nat) : Prop := ∀ (F : Nat → Prop) (w : World) (lb : Nat) (x : It) (l : Bool) (v1 v2 : Value) (deep wt : Nat),
  ItemAt F w d [.bool l, v1, v2] x → w.heap[lb]? = some (.cells #[.int .i64 wt, .int .i64 0] 93 (0, 0)) → ¬ F lb → deep ≤ 8 → wt + x.whole ≤ 1125899906842624 →
  Calls Try.prog 69 #[.pointer (some ⟨lb, 0, none⟩), .agg #[.bool l, v1, v2], .int .i64 deep] w (Looked w lb (x.look deep wt))

set_option maxRecDepth 100000 in
set_option maxHeartbeats 400000 in
theorem look_text (_F : Nat → Prop) (w : World) (lb : Nat) (b : List UInt8) (a a2 : Option Addr) (c c2 : Nat) (deep wt : Nat)
    (hk : w.heap[lb]? = some (.cells #[.int .i64 wt, .int .i64 0] 93 (0, 0))) (_hd : deep ≤ 8) (hw : wt + (It.text b).whole ≤ 1125899906842624) :
    Calls Try.prog 69 #[.pointer (some ⟨lb, 0, none⟩), .agg #[.bool false, .slice a b.length c, .slice a2 0 c2], .int .i64 deep] w (Looked w lb ((It.text b).look deep wt)) := by
  have hlt := (Array.getElem?_eq_some_iff.1 hk).1
  obtain ⟨n, hn⟩ : ∃ n, n = b.length := ⟨_, rfl⟩
  rw [← hn]
  have hnw : n ≤ (It.text b).whole := by rw [hn]; exact It.body_le_whole (.text b)
  have hpos := It.whole_pos (.text b)
  have HN := Lib.hid hn
  clear hn
  obtain ⟨q0, q1⟩ := cells2 hk
  have f0 := frozen_of_row w lb 0 _ _ hk
  have f1 := frozen_of_row w lb 1 _ _ hk
  have hne : lb ≠ w.heap.size := by omega
  have hend : ∀ (W : World) (m e : Nat), W.heap[lb]? = some (.cells #[.int .i64 m, .int .i64 e] 93 (0, 0)) → (It.text b).look deep wt = (m, e) → Chg (fun k => k = lb) w W → Looked w lb ((It.text b).look deep wt) (.returned (.tuple #[])) W :=
    fun W m e h1 h2 h3 => ⟨rfl, by rw [h2]; exact h1, h3⟩
  have HE := Lib.hid hend
  clear hend
  have hk1 : ∀ (m : Int) (o : Obj), ((w.setCell ⟨lb, 0, none⟩ (.int .i64 m)).alloc o).drew.heap[lb]? = some (.cells #[.int .i64 m, .int .i64 0] 93 (0, 0)) ∧ Chg (fun k => k = lb) w ((w.setCell ⟨lb, 0, none⟩ (.int .i64 m)).alloc o).drew := fun m o =>
    ⟨(Below.heap_alloc _ _ _ (by simpa using hlt)).trans (heap_setCell_same _ _ _ _ _ _ hk), (((Chg.refl (fun k => k = lb) w).at1 (i := 0) _).alloc o).drew⟩
  have hk2 : ∀ (m e : Int) (o : Obj), (((w.setCell ⟨lb, 0, none⟩ (.int .i64 m)).setCell ⟨lb, 1, none⟩ (.int .i64 e)).alloc o).drew.heap[lb]? = some (.cells #[.int .i64 m, .int .i64 e] 93 (0, 0)) ∧ Chg (fun k => k = lb) w (((w.setCell ⟨lb, 0, none⟩ (.int .i64 m)).setCell ⟨lb, 1, none⟩ (.int .i64 e)).alloc o).drew := fun m e o =>
    ⟨(Below.heap_alloc _ _ _ (by simpa using hlt)).trans (heap_setCell_same _ _ _ _ _ _ (heap_setCell_same _ _ _ _ _ _ hk)), ((((Chg.refl (fun k => k = lb) w).at1 (i := 0) _).at1 (i := 1) _).alloc o).drew⟩
  have HK1 := Lib.hid hk1
  have HK2 := Lib.hid hk2
  clear hk1 hk2 hk
  obtain ⟨m, hm1⟩ : ∃ m : Nat, m = max n 1 := ⟨_, rfl⟩
  have hmx : (if (n : Int) < 1 then (1 : Int) else (n : Int)) = (m : Int) := by split <;> omega
  have hmb : wt + m ≤ 1125899906842624 := by omega
  have HM := Lib.hid hm1
  clear hm1 hnw hpos hw
  by_cases hm : 16777215 < wt + m
  all_goals
    go_enter Try.func69, Try.ntmps69
    go_wp2
    go_region
    go_wp2
    go_rounds 1
    go_end0
    have hl := HE.out
    first
      | (have hq := HK1.out (wt + m) (.cells #[.bool false, .slice a n c, .slice a2 0 c2] 65); exact hl _ (wt + m) 0 hq.1 (by simp only [It.look, ← HN.out, ← HM.out]; rw [if_neg (by omega)]) hq.2)
      | (have hq := HK2.out (wt + m) 20 (.cells #[.bool false, .slice a n c, .slice a2 0 c2] 65); exact hl _ (wt + m) 20 hq.1 (by simp only [It.look, ← HN.out, ← HM.out]; rw [if_pos (by omega)]) hq.2)

/-- a list's look on its way: the looker's cells, the item's box, and what has turned -/
structure LSt (w : World) (lb : Nat) (cs : Array Value) (W : World) (m e : Nat) : Prop where
  at_ : W.heap[lb]? = some (.cells #[.int .i64 m, .int .i64 e] 93 (0, 0))
  box : W.heap[w.heap.size]? = some (.cells cs 65 (0, 0))
  chg : Chg (fun k => k = lb) w W
set_option maxRecDepth 100000 in
set_option maxHeartbeats 1000000 in
theorem look_list {d : Nat} (hd0 : LookC d) (F : Nat → Prop) (w : World) (lb : Nat) (l : List It) (a a2 : Option Addr) (c n2 c2 : Nat) (deep wt : Nat)
    (his : ItemsAt F w d (.slice a2 n2 c2) l)
    (hk : w.heap[lb]? = some (.cells #[.int .i64 wt, .int .i64 0] 93 (0, 0))) (hF : ¬ F lb) (hd : deep ≤ 8) (hw : wt + (It.list l).whole ≤ 1125899906842624) :
    Calls Try.prog 69 #[.pointer (some ⟨lb, 0, none⟩), .agg #[.bool true, .slice a 0 c, .slice a2 n2 c2], .int .i64 deep] w (Looked w lb ((It.list l).look deep wt)) := by
  have hlt := (Array.getElem?_eq_some_iff.1 hk).1
  obtain ⟨q0, q1⟩ := cells2 hk
  have f0 := frozen_of_row w lb 0 _ _ hk
  have f1 := frozen_of_row w lb 1 _ _ hk
  have hne : lb ≠ w.heap.size := by omega
  have HD := Lib.hid hd0
  have hm1 : ∃ m : Nat, m = wt + 1 := ⟨_, rfl⟩
  obtain ⟨m, hm⟩ := hm1
  have hmx : (wt : Int) + 1 = (m : Int) := by omega
  have HM := Lib.hid hm
  have hwb : It.wholes l + 1 ≤ (It.list l).whole := by simp only [It.whole]; exact sz_ge _
  have hmb : m + It.wholes l ≤ 1125899906842624 := by omega
  have HIS := Lib.hid his
  have HK := Lib.hid hk
  clear hm hd0 his hk hwb hw
  have hX : ∀ (X : World) (m0 e0 : Nat), Chg (fun k => k = lb) w X → X.heap.size = w.heap.size → X.heap[lb]? = some (.cells #[.int .i64 m0, .int .i64 e0] 93 (0, 0)) →
      LSt w lb #[.bool true, .slice a 0 c, .slice a2 n2 c2] (X.alloc (.cells #[.bool true, .slice a 0 c, .slice a2 n2 c2] 65)) m0 e0 := fun X m0 e0 h1 h2 h3 =>
    ⟨by rw [Below.heap_alloc _ _ _ (by omega)]; exact h3, by rw [← h2]; exact heap_alloc_new X _, h1.alloc _⟩
  have HX := Lib.hid hX
  clear hX
  have hcases : (((deep : Int) == 8) = true ∧ Hid (lookHead deep wt = (wt, 21))) ∨
      (((deep : Int) == 8) = false ∧ ((deep : Int) == 0) = true ∧ 16777215 < wt ∧ Hid (lookHead deep wt = (wt, 20))) ∨
      (((deep : Int) == 8) = false ∧ ((deep : Int) == 0) = true ∧ ¬ 16777215 < wt ∧ Hid (lookHead deep wt = (wt, 0) ∧ deep < 8)) ∨
      (((deep : Int) == 8) = false ∧ ((deep : Int) == 0) = false ∧ 16777215 < m ∧ Hid (lookHead deep wt = (m, 20))) ∨
      (((deep : Int) == 8) = false ∧ ((deep : Int) == 0) = false ∧ ¬ 16777215 < m ∧ Hid (lookHead deep wt = (m, 0) ∧ deep < 8)) := by
    have hmm := HM.out
    unfold lookHead Hid
    rw [← hmm]
    by_cases h8 : deep = 8
    · exact .inl ⟨by simp; omega, by rw [if_pos h8]⟩
    · have e8 : ((deep : Int) == 8) = false := by simp; omega
      rw [if_neg h8]
      by_cases h0 : deep = 0
      · have e0 : ((deep : Int) == 0) = true := by simp; omega
        rw [if_pos h0]
        by_cases hb : 16777215 < wt
        · exact .inr (.inl ⟨e8, e0, hb, by rw [if_pos hb]⟩)
        · exact .inr (.inr (.inl ⟨e8, e0, hb, by rw [if_neg hb], by omega⟩))
      · have e0 : ((deep : Int) == 0) = false := by simp; omega
        rw [if_neg h0]
        by_cases hb : 16777215 < m
        · exact .inr (.inr (.inr (.inl ⟨e8, e0, hb, by rw [if_pos hb]⟩)))
        · exact .inr (.inr (.inr (.inr ⟨e8, e0, hb, by rw [if_neg hb], by omega⟩)))
  have hwm : wt + It.wholes l ≤ 1125899906842624 := by have := HM.out; omega
  have hn63 : n2 ≤ 1125899906842624 := by
    have h1 := It.length_le_wholes l
    rcases SliceAt.split HIS.out with ⟨_, h2⟩ | ⟨_, _, _, h2, _⟩ <;> omega
  rcases hcases with ⟨e8, HH⟩ | ⟨e8, e0, hb, HH⟩ | ⟨e8, e0, hb, HH⟩ | ⟨e8, e0, hb, HH⟩ | ⟨e8, e0, hb, HH⟩
  all_goals
    try (have hbz : decide ((16777215 : Int) < (wt : Int)) = true := by simp; omega)
    try (have hbz : decide ((16777215 : Int) < (wt : Int)) = false := by simp; omega)
    try (have hbz : decide ((16777215 : Int) < (m : Int)) = true := by simp; omega)
    try (have hbz : decide ((16777215 : Int) < (m : Int)) = false := by simp; omega)
    go_enter Try.func69, Try.ntmps69
    go_wp2
    go_loopw [6] (fun i wr => ∃ k m0 e0 : Nat, i = .int .i64 k ∧ k ≤ n2 ∧ Hid (LSt w lb #[.bool true, .slice a 0 c, .slice a2 n2 c2] wr m0 e0) ∧ m0 + It.wholes (l.drop k) ≤ 1125899906842624 ∧ Hid (e0 = 0 → deep < 8) ∧ Hid (lookOn (l.drop k) (deep + 1) (m0, e0) = (It.list l).look deep wt)) (fun i _ => n2 - (intOf i).toNat)
    case atStart =>
      have hk := HK.out
      first
        | exact ⟨0, wt, 21, rfl, Nat.zero_le _, HX.out _ wt 21 ((Chg.refl (fun k => k = lb) w).at1 (i := 1) _) (by simp) (heap_setCell_same _ _ _ _ _ _ hk), hwm, fun h => by omega, by show _ = _; rw [look_list_eq, HH.out]; rfl⟩
        | exact ⟨0, wt, 20, rfl, Nat.zero_le _, HX.out _ wt 20 ((Chg.refl (fun k => k = lb) w).at1 (i := 1) _) (by simp) (heap_setCell_same _ _ _ _ _ _ hk), hwm, fun h => by omega, by show _ = _; rw [look_list_eq, HH.out]; rfl⟩
        | exact ⟨0, wt, 0, rfl, Nat.zero_le _, HX.out _ wt 0 (Chg.refl (fun k => k = lb) w) rfl hk, hwm, fun _ => HH.out.2, by show _ = _; rw [look_list_eq, HH.out.1]; rfl⟩
        | exact ⟨0, m, 20, rfl, Nat.zero_le _, HX.out _ m 20 (((Chg.refl (fun k => k = lb) w).at1 (i := 0) _).at1 (i := 1) _) (by simp) (heap_setCell_same _ _ _ _ _ _ (heap_setCell_same _ _ _ _ _ _ hk)), hmb, fun h => by omega, by show _ = _; rw [look_list_eq, HH.out]; rfl⟩
        | exact ⟨0, m, 0, rfl, Nat.zero_le _, HX.out _ m 0 ((Chg.refl (fun k => k = lb) w).at1 (i := 0) _) (by simp) (heap_setCell_same _ _ _ _ _ _ hk), hmb, fun _ => HH.out.2, by show _ = _; rw [look_list_eq, HH.out.1]; rfl⟩
    case round =>
      obtain ⟨k, m1, e1, rfl, hk, HL, hb1, HD8, HO⟩ := hrel
      have hL := HL.out
      obtain ⟨b0, b1, b2⟩ := cells3 hL.box
      obtain ⟨p0, p1⟩ := cells2 hL.at_
      have hfr := frozen_of_row wr lb 0 _ _ hL.at_
      have hlr : lb < wr.heap.size := (Array.getElem?_eq_some_iff.1 hL.at_).1
      have hsz : w.heap.size < wr.heap.size := (Array.getElem?_eq_some_iff.1 hL.box).1
      have hn2 : n2 = l.length := by
        rcases SliceAt.split HIS.out with ⟨h1, h2⟩ | ⟨_, _, _, h2, _⟩
        · rw [h1, h2]; rfl
        · exact h2
      clear hL
      by_cases hlt : k < n2
      · by_cases he : e1 = 0
        · subst he
          have hki : k < l.length := by omega
          rcases SliceAt.split HIS.out with ⟨h1, h2⟩ | ⟨b, o, rfl, -, -, hFb⟩
          · omega
          have HN2 := Lib.hid hn2
          clear hn2
          have his' : ItemsAt F wr d (.slice (some ⟨b, o, none⟩) n2 c2) l := ItemsAt.carry HIS.out (fun _ _ x => x) (fun g hg hlt' => (HL.out).chg.block g hlt' (fun e => hF (e ▸ hg)))
          obtain ⟨y1, z1, t1, y2, z2, t2, c0, c1, c2', hit⟩ := ItemsAt.cell his' k hki
          obtain ⟨y, hy⟩ : ∃ y, y = l[k] := ⟨_, rfl⟩
          rw [← hy] at c0 hit
          have hdrop : l.drop k = y :: l.drop (k + 1) := by rw [hy]; exact List.drop_eq_getElem_cons hki
          have hbw : m1 + y.whole + It.wholes (l.drop (k + 1)) ≤ 1125899906842624 := by
            rw [hdrop] at hb1; simp only [It.wholes] at hb1; omega
          have HO2 : Hid (lookOn (l.drop (k + 1)) (deep + 1) (y.look (deep + 1) m1) = (It.list l).look deep wt) := by
            have := HO.out
            rwa [hdrop, lookOn_cons] at this
          have hd8 := HD8.out rfl
          clear hy hdrop his' HO hb1
          go_wp2_with fail
          rw [show ((deep : Int) + 1) = ((deep + 1 : Nat) : Int) from rfl]
          refine (HD.out F _ lb y _ _ _ (deep + 1) m1 hit (HL.out).at_ hF (by omega) (by omega)).mono ?_
          rintro e w5 ⟨rfl, hat, hch⟩
          have hle := It.look_le y (deep + 1) m1
          have HL5 : Hid (LSt w lb #[.bool true, .slice a 0 c, .slice (some ⟨b, o, none⟩) n2 c2] w5 (y.look (deep + 1) m1).1 (y.look (deep + 1) m1).2) :=
            ⟨hat, by rw [hch.block _ hsz (fun e => hne e.symm)]; exact (HL.out).box, (HL.out).chg.trans hch (fun _ _ x => x)⟩
          clear hat hch
          go_wp2_with fail
          go_roundw
          case rel =>
            first
              | exact ⟨k + 1, _, _, num_eq (by omega), by omega, HL5, by omega, fun _ => hd8, HO2⟩
              | ((repeat apply Exists.intro); exact ⟨⟨k + 1, _, _, num_eq (by omega), by omega, HL5, by omega, fun _ => hd8, HO2⟩, rfl⟩)
          case measure => simp [intOf]; omega
        · have he' : ((e1 : Int) == 0) = false := by simp; omega
          go_wp2
          go_end0
          have := HO.out
          rw [lookOn_bad _ _ _ _ he] at this
          exact ⟨rfl, by rw [← this]; exact (HL.out).at_, (HL.out).chg⟩
      · go_wp2
        go_end0
        have := HO.out
        rw [List.drop_eq_nil_of_le (by omega), lookOn_nil] at this
        exact ⟨rfl, by rw [← this]; exact (HL.out).at_, (HL.out).chg⟩

end Go.Proofs.Ytndkkgkcbbmnpaa
namespace Go.Pg
/-- nest's encoding, or what is amiss -/
def It.encode (x : It) : List UInt8 × Nat :=
  if (x.look 0 0).2 ≠ 0 then ([], (x.look 0 0).2) else if 16777215 < x.body then ([], 20) else (x.enc, 0)
end Go.Pg
namespace Go.Proofs.Ytndkkgkcbbmnpaa
open Go.RowKit Go.Pg

theorem look_step {d : Nat} (h : LookC d) : LookC (d + 1) := by
  intro F w lb x l v1 v2 deep wt hit hk hF hd hw
  obtain ⟨u1, u2, h1, h2, h3⟩ := hit
  simp only [List.cons.injEq, Value.bool.injEq, and_true] at h1
  obtain ⟨rfl, rfl, rfl⟩ := h1
  obtain ⟨a, c, rfl, -, -, -⟩ := SliceAt.len h2
  cases x with
  | text b =>
    obtain ⟨a2, c2, rfl, -, -, -⟩ := SliceAt.len h3
    exact look_text F w lb b a a2 c c2 deep wt hk hd hw
  | list l =>
    obtain ⟨a2, c2, rfl, -, -, -⟩ := SliceAt.len h3
    exact look_list h F w lb l a a2 c _ c2 deep wt h3 hk hF hd hw
theorem look_any (d : Nat) : LookC d := by
  induction d with
  | zero => intro F w lb x l v1 v2 deep wt h; exact h.elim
  | succ d ih => exact look_step ih

/-- bytes in new memory, and an error's number -/
def Encd (w : World) (r : List UInt8 × Nat) (e : Ending) (w' : World) : Prop :=
  ∃ v', e = .returned (.tuple #[v', .int .i64 r.2]) ∧ OwnAt w' w.heap.size 5 1 byteR v' r.1 ∧ Below w.heap.size w w'

set_option maxRecDepth 100000 in
set_option maxHeartbeats 1000000 in
theorem encode_any (F : Nat → Prop) (w : World) (d : Nat) (x : It) (l : Bool) (v1 v2 : Value) (h : ItemAt F w d [.bool l, v1, v2] x) (hw : x.whole ≤ 140737488351232) :
    Calls Try.prog 41 #[.agg #[.bool l, v1, v2]] w (Encd w x.encode) := by
  obtain ⟨hl, a1, n1, c1, a2, n2, c2, rfl, rfl, -, -⟩ := ItemAt.form h
  have HL := Lib.hid hl
  clear hl
  have h' : ItemAt (fun b => F b ∧ b < w.heap.size) w d [.bool l, .slice a1 n1 c1, .slice a2 n2 c2] x := h.carry (fun b hb hF => ⟨hF, hb⟩) (fun _ _ _ => rfl)
  clear h
  have hbw := It.body_le_whole x
  obtain ⟨W0, hW0⟩ : ∃ W0, W0 = (w.alloc (.cells #[.bool l, .slice a1 n1 c1, .slice a2 n2 c2] 65)).alloc (.cells #[.int .i64 0, .int .i64 0] 93) := ⟨_, rfl⟩
  have hbel0 : Below w.heap.size w W0 := by rw [hW0]; exact Bel.alloc (Bel.alloc (Bel.refl w) _) _
  have hk0 : W0.heap[w.heap.size + 1]? = some (.cells #[.int .i64 0, .int .i64 0] 93 (0, 0)) := by
    rw [hW0]
    have := heap_alloc_new (w.alloc (.cells #[.bool l, .slice a1 n1 c1, .slice a2 n2 c2] 65)) (.cells #[.int .i64 0, .int .i64 0] 93)
    simpa using this
  have hbx0 : W0.heap[w.heap.size]? = some (.cells #[.bool l, .slice a1 n1 c1, .slice a2 n2 c2] 65 (0, 0)) := by
    rw [hW0, Below.heap_alloc _ _ _ (by simp)]; exact heap_alloc_new w _
  have hs0 : W0.heap.size = w.heap.size + 2 := by rw [hW0]; simp
  have HW0 := Lib.hid hW0
  have HK0 := Lib.hid hk0
  have HBX := Lib.hid hbx0
  have HS0 := Lib.hid hs0
  clear hk0 hbx0 hs0 hW0
  go_enter Try.func41, Try.ntmps41
  go_wp2_with fail
  rw [← HW0.out]
  refine (look_any d (fun b => F b ∧ b < w.heap.size) _ (w.heap.size + 1) x _ _ _ 0 0 ?_ HK0.out (by omega) (by omega) (by omega)).mono ?_
  · exact h'.below hbel0
  rintro e w1 ⟨rfl, hat, hch⟩
  have hs1 := hch.size
  have hs0 := HS0.out
  have hbx1 : w1.heap[w.heap.size]? = some (.cells #[.bool l, .slice a1 n1 c1, .slice a2 n2 c2] 65 (0, 0)) := by
    rw [hch.block _ (by omega) (by omega)]; exact HBX.out
  have hbel1 : Below w.heap.size w w1 := hbel0.trans (hch.toBelowAt (by omega) (fun k hk => by omega))
  obtain ⟨m, e0, hr⟩ : ∃ m e0, x.look 0 0 = (m, e0) := ⟨_, _, rfl⟩
  rw [hr] at hat
  have HR := Lib.hid hr
  clear hr hch hs1 hs0 hbel0
  obtain ⟨b0, b1, b2⟩ := cells3 hbx1
  obtain ⟨p0, p1⟩ := cells2 hat
  have HB1 := Lib.hid hbel1
  have HX1 := Lib.hid hbx1
  clear hbel1 hbx1 hat
  by_cases he : e0 = 0
  · subst he
    go_wp2_with fail
    refine (body_any d (fun b => F b ∧ b < w.heap.size) _ x _ _ _ (h'.carry (fun _ _ x => x) (fun b hb _ => (HB1.out).block b hb.2)) (by omega)).mono ?_
    rintro e w2 ⟨rfl, hb2⟩
    obtain ⟨n, hn⟩ : ∃ n, n = x.body := ⟨_, rfl⟩
    rw [← hn] at hbw ⊢
    have HN := Lib.hid hn
    clear hn
    by_cases hbig : 16777215 < n
    · go_wp2
      go_ret2
      exact ⟨.slice none 0 0, by unfold It.encode; rw [HR.out, ← HN.out]; simp [hbig], by unfold It.encode; rw [HR.out, ← HN.out]; simp [hbig]; exact OwnAt.nil _ _ _ _ _, Bel.call HB1.out hb2⟩
    · have hbx2 : w2.heap[w.heap.size]? = some (.cells #[.bool l, .slice a1 n1 c1, .slice a2 n2 c2] 65 (0, 0)) := by
        rw [hb2.block _ (Array.getElem?_eq_some_iff.1 HX1.out).1]; exact HX1.out
      obtain ⟨g0, g1, g2⟩ := cells3 hbx2
      have HB2 := Lib.hid (Bel.call HB1.out hb2)
      have hsz2 := (HB2.out).size
      clear hb2 hbx2
      go_wp2_with fail
      refine (write_any d (fun b => F b ∧ b < w.heap.size) w2 w.heap.size x _ _ _ (.slice none 0 0) [] hsz2 (fun b hb => hb.2) (h'.carry (fun _ _ x => x) (fun b hb _ => (HB2.out).block b hb.2)) (OwnAt.nil _ _ _ _ _) (by simpa using hw)).mono ?_
      rintro e w3 ⟨v', rfl, ho, hg, hm⟩
      go_wp2
      go_ret2
      refine ⟨v', by unfold It.encode; rw [HR.out, ← HN.out]; simp [hbig], by unfold It.encode; rw [HR.out, ← HN.out]; simp [hbig]; simpa using ho, (HB2.out).grown hg hsz2 (fun k hk => by simp [Value.ownBlock] at hk)⟩
  · have he' : ((e0 : Int) == 0) = false := by simp; omega
    have he2 : ((e0 : Int) != 0) = true := by simp; omega
    go_wp2
    go_region
    go_wp2
    go_ret2
    exact ⟨.slice none 0 0, by unfold It.encode; rw [HR.out]; simp [he], by unfold It.encode; rw [HR.out]; simp [he]; exact OwnAt.nil _ _ _ _ _, (HB1.out).drew⟩

end Go.Proofs.Ytndkkgkcbbmnpaa
namespace Go.Pg
open Go.RowKit
section
variable {α : Type}
/-- A reading of an element's cells that other memory does not touch. -/
structure Carried (A : (Nat → Prop) → World → List Value → α → Prop) : Prop where
  carry : ∀ {F F' : Nat → Prop} {w w' : World} {cs : List Value} {x : α}, A F w cs x → (∀ b, b < w.heap.size → F b → F' b) → (∀ b, F b → b < w.heap.size → w'.heap[b]? = w.heap[b]?) → A F' w' cs x
  one : ∀ {F : Nat → Prop} {w : World} cs x, A F w cs x → ∀ u ∈ cs, u.oneCell' = true
theorem carriedRow : Carried rowR := ⟨fun h hF hb => h.carry hF hb, fun cs x h => rowR.one cs x h⟩
theorem carriedItem (d : Nat) : Carried (fun F w cs x => ItemAt F w d cs x) := ⟨fun h hF hb => h.carry hF hb, fun cs x h => ItemAt.one d cs x h⟩

/-- v is the call's own, its elements lie in blocks of G, none of them v's own block -/
def OwnList (A : (Nat → Prop) → World → List Value → α → Prop) (G : Nat → Prop) (n : Nat) (W : World) (e : TypeId) (sz : Nat) (v : Value) (l : List α) : Prop :=
  ∃ F : Nat → Prop, (∀ b, F b → G b ∧ b < W.heap.size) ∧ (∀ g, v.ownBlock = some g → ¬ F g) ∧ OwnAt W n e sz (A F W) v l
variable {A : (Nat → Prop) → World → List Value → α → Prop} {G : Nat → Prop} {n : Nat} {W W' : World} {e : TypeId} {sz : Nat} {v : Value} {l : List α}
theorem OwnList.nil : OwnList A G n W e sz (.slice none 0 0) [] :=
  ⟨fun _ => False, fun _ h => h.elim, fun _ _ h => h, OwnAt.nil _ _ _ _ _⟩
theorem OwnList.empty (g : Nat) (c : Nat) (hg : n ≤ g) (hc : c ≤ maxLen) (cs : Array Value) (h : W.heap[g]? = some (.cells cs e (0, 0))) (hs : cs.size = c * sz) : OwnList A G n W e sz (.slice (some ⟨g, 0, none⟩) 0 c) ([] : List α) :=
  ⟨fun _ => False, fun _ h => h.elim, fun _ _ h => h, [], ⟨by simp, .inr ⟨g, c, cs, rfl, hg, h, Nat.zero_le _, hc, hs, by simp⟩⟩, Rows.nil _ _⟩
theorem OwnList.own (h : OwnList A G n W e sz v l) : ∀ k, v.ownBlock = some k → n ≤ k ∧ k < W.heap.size :=
  let ⟨_, _, _, h3⟩ := h; h3.own
theorem OwnList.len (h : OwnList A G n W e sz v l) : ∃ a c, v = .slice a l.length c ∧ l.length ≤ c ∧ c ≤ maxLen ∧ (a = none → c = 0) :=
  let ⟨_, _, _, h3⟩ := h; h3.len
/-- behind a call that writes none of it -/
theorem OwnList.carry (hA : Carried A) (h : OwnList A G n W e sz v l) (hsz : W.heap.size ≤ W'.heap.size)
    (hG : ∀ b, G b → b < W.heap.size → W'.heap[b]? = W.heap[b]?) (ho : ∀ g, v.ownBlock = some g → W'.heap[g]? = W.heap[g]?) : OwnList A G n W' e sz v l := by
  obtain ⟨F, h1, h2, h3⟩ := h
  exact ⟨F, fun b hb => ⟨(h1 b hb).1, Nat.lt_of_lt_of_le (h1 b hb).2 hsz⟩, h2,
    (h3.carry fun g hg _ _ => ho g hg).mono fun cs x _ hx => hA.carry hx (fun _ _ x => x) (fun b hb hlt => hG b (h1 b hb).1 hlt)⟩
theorem OwnList.call (hA : Carried A) (h : OwnList A G n W e sz v l) (hb : Below W.heap.size W W') : OwnList A G n W' e sz v l :=
  h.carry hA hb.size (fun b _ hlt => hb.block b hlt) (fun g hg => hb.block g (h.own g hg).2)
theorem OwnList.at (hA : Carried A) (h : OwnList A G n W e sz v l) {G' : Nat → Prop} (hG : ∀ b, G b → b < W.heap.size → G' b) (hn : ∀ b, n ≤ b → b < W.heap.size → G' b) (hsz : 0 < sz) : SliceAt G' W sz (A G' W) v l := by
  obtain ⟨F, h1, h2, h3⟩ := h
  exact (h3.mono (R' := A G' W) fun cs x _ hx => hA.carry hx (fun b hlt hb => hG b (h1 b hb).1 hlt) (fun _ _ _ => rfl)).at (fun g _ hg hlt => hn g hg hlt) hsz
/-- One more: what the append wants, and what it gives. The new element's cells stand in a block laid for them. -/
theorem OwnList.push (hA : Carried A) (h : OwnList A G n W e sz v l) {H : Nat → Prop} {cs : List Value} {x : α} (hx : A H W cs x) (hcs : cs.length = sz) (_hsz : 0 < sz)
    (hH : ∀ b, b < W.heap.size → H b → G b ∧ v.ownBlock ≠ some b) (t : TypeId) :
    ∃ R : List Value → α → Prop, (∀ cs x, R cs x → ∀ u ∈ cs, u.oneCell' = true) ∧ OwnAt (W.alloc (.cells cs.toArray t)) n e sz R v l ∧
      SliceAt (fun _ => True) (W.alloc (.cells cs.toArray t)) sz R (.slice (some ⟨W.heap.size, 0, none⟩) 1 1) [x] ∧
      ∀ v' W2, OwnAt W2 n e sz R v' (l ++ [x]) → (W.alloc (.cells cs.toArray t)).grownBy W2 v.ownBlock → Moved (W.alloc (.cells cs.toArray t)) v v' → OwnList A G n W2 e sz v' (l ++ [x]) := by
  obtain ⟨F, h1, h2, h3⟩ := h
  refine ⟨A (fun b => F b ∨ (H b ∧ b < W.heap.size)) W, hA.one, ?_, ?_, ?_⟩
  · exact (h3.carry fun g _ _ hlt => Below.heap_alloc _ _ _ hlt).mono fun cs x _ hx => hA.carry hx (fun b _ hb => .inl hb) (fun _ _ _ => rfl)
  · refine ⟨some ⟨W.heap.size, 0, none⟩, 1, rfl, Nat.le_refl _, by decide, (fun h => by cases h), fun _ => ⟨_, _, rfl, trivial, fun i y hy => ?_⟩, fun b o j ha _ => by simp only [Option.some.injEq, Addr.mk.injEq, and_true] at ha; obtain ⟨rfl, rfl⟩ := ha; simp⟩
    match i, hy with
    | 0, hy =>
      simp only [List.getElem?_cons_zero, Option.some.injEq] at hy
      subst hy
      refine ⟨cs, hcs, hA.carry hx (fun b hlt hb => .inr ⟨hb, hlt⟩) (fun _ _ _ => rfl), fun j u hu => ?_⟩
      simp only [Nat.zero_mul, Nat.zero_add, World.cell?_alloc_new]
      simpa using hu
  · intro v' W2 ho hg hm
    have hs := hg.size
    simp only [World.size_alloc] at hs
    refine ⟨fun b => F b ∨ (H b ∧ b < W.heap.size), ?_, ?_, ?_⟩
    · rintro b (hb | hb)
      · exact ⟨(h1 b hb).1, by have := (h1 b hb).2; omega⟩
      · exact ⟨(hH b hb.2 hb.1).1, by omega⟩
    · intro g hg' hb
      rcases hm g hg' with hv | hv
      · rcases hb with hb | hb
        · exact h2 g hv hb
        · exact (hH g hb.2 hb.1).2 hv
      · simp only [World.size_alloc] at hv
        rcases hb with hb | hb
        · have := (h1 g hb).2; omega
        · omega
    · refine ho.mono fun cs y _ hy => hA.carry hy (fun _ _ x => x) fun b hb hlt => ?_
      rw [hg.block b (by simp; omega) (fun e => ?_), Below.heap_alloc _ _ _ hlt]
      rcases hb with hb | hb
      · exact h2 b e.symm hb
      · exact (hH b hb.2 hb.1).2 e.symm
/-- a row of elements that has just been laid -/
theorem rows_alloc (hA : Carried A) {F F' : Nat → Prop} {xs : List Value} (h : Rows sz (A F W) xs l) (hl : l.length ≤ maxLen) (hF : ∀ b, b < W.heap.size → F b → F' b) (hn : F' W.heap.size) (t : TypeId) :
    SliceAt F' (W.alloc (.cells xs.toArray t)) sz (A F' (W.alloc (.cells xs.toArray t))) (.slice (some ⟨W.heap.size, 0, none⟩) l.length l.length) l := by
  refine ⟨some ⟨W.heap.size, 0, none⟩, l.length, rfl, Nat.le_refl _, hl, (fun h => by cases h), fun _ => ⟨_, _, rfl, hn, fun i x hx => ?_⟩, fun b o j ha _ => by simp only [Option.some.injEq, Addr.mk.injEq, and_true] at ha; obtain ⟨rfl, rfl⟩ := ha; simp⟩
  obtain ⟨cs, h1, h2, h3⟩ := h.2 i x hx
  refine ⟨cs, h1, hA.carry h2 hF (fun b _ hlt => Below.heap_alloc _ _ _ hlt), fun j u hu => ?_⟩
  have := h3 j u hu
  rw [Nat.zero_add, World.cell?_alloc_new]
  simpa using this
end
end Go.Pg
namespace Go.Pg
open Go.RowKit
/-- texts as an item -/
def textsI (l : List (List UInt8)) : It := .list (l.map .text)
theorem blk_setCell {w : World} {g i : Nat} {cs : Array Value} {t : TypeId} {v : Value} (hg : w.heap[g]? = some (.cells cs t (0, 0))) :
    (w.setCell ⟨g, i, none⟩ v).heap[g]? = some (.cells (cs.setIfInBounds i v) t (0, 0)) := heap_setCell_same w g i cs t v hg
end Go.Pg
namespace Go.Proofs.Ytndkkgkcbbmnpaa
open Go.RowKit Go.Pg

set_option maxRecDepth 100000 in
set_option maxHeartbeats 1000000 in
theorem texts_any (F : Nat → Prop) (w : World) (v : Value) (l : List (List UInt8)) (h : RowsAt F w v l) (hl : l.length ≤ 1099511627776) (hlen : ∀ x ∈ l, x.length ≤ 140737488351232) :
    Calls Try.prog 43 #[v] w fun e w' => ∃ v2, e = .returned (.agg #[.bool true, .slice none 0 0, v2]) ∧ ItemAt (fun b => w.heap.size ≤ b) w' 2 [.bool true, .slice none 0 0, v2] (textsI l) ∧ Below w.heap.size w w' := by
  obtain ⟨a, c, rfl, -, -, -⟩ := SliceAt.len h
  obtain ⟨i0, hi, hz0, hz1, hz2⟩ := info_parts infoItem
  obtain ⟨n, hn⟩ : ∃ n, n = l.length := ⟨_, rfl⟩
  rw [← hn] at h hl ⊢
  have HN := Lib.hid hn
  have HLEN := Lib.hid hlen
  clear hn hlen
  go_enter Try.func43, Try.ntmps43
  go_wp2
  go_loopw [3, 5, 8] (fun s b i wr => ∃ k : Nat, k ≤ n ∧ i = .int .i64 k ∧ Hid (OwnList (fun F w cs x => ItemAt F w 1 cs x) (fun b => w.heap.size < b) (w.heap.size + 1) wr 65 3 s ((l.take k).map .text)) ∧
      Hid (Below w.heap.size w wr ∧ wr.heap[w.heap.size]? = some (.cells #[.bool false, .slice none 0 0, .slice none 0 0] 65 (0, 0)))) (fun _ _ i _ => n - (intOf i).toNat)
  case atStart => exact ⟨0, Nat.zero_le _, rfl, OwnList.nil, Bel.alloc (Bel.refl w) _, heap_alloc_new w _⟩
  case round =>
    obtain ⟨k, hk, rfl, HO, HB⟩ := hrel
    have hN := HN.out
    by_cases hlt : k < n
    · rcases SliceAt.split h with ⟨_, h0⟩ | ⟨b, o, rfl, -, -, -⟩
      · omega
      have hwr := RowsAt.below h HB.out.1
      obtain ⟨u, c1, t1⟩ := RowsAt.cell hwr k (by omega)
      have hxl := HLEN.out _ (List.getElem_mem (show k < l.length by omega))
      have htk : (l.take (k + 1)).map It.text = (l.take k).map It.text ++ [It.text (l[k]'(by omega))] := by
        rw [List.take_succ_eq_append_getElem (show k < l.length by omega), List.map_append]; rfl
      obtain ⟨x, hx⟩ : ∃ x, x = l[k]'(by omega) := ⟨_, rfl⟩
      rw [← hx] at t1 hxl htk
      have HT := Lib.hid htk
      obtain ⟨L, hL⟩ : ∃ L, L = (l.take k).map It.text := ⟨_, rfl⟩
      rw [← hL] at HO HT
      have hLl : L.length = k := by rw [hL]; simp; omega
      have HLL := Lib.hid hLl
      clear hwr hx htk hL hLl hN
      go_wp2_with fail
      refine (text_any F wr u x t1 hxl).mono ?_
      rintro e w1 ⟨v1, rfl, hit, hb1⟩
      obtain ⟨-, a1, m1, d1, a2, m2, d2, e1, e2, -, -⟩ := ItemAt.form hit
      simp only [Value.slice.injEq] at e2
      obtain ⟨rfl, rfl, rfl⟩ := e2
      subst e1
      have HB1 : Hid (Below w.heap.size w w1 ∧ w1.heap[w.heap.size]? = some (.cells #[.bool false, .slice none 0 0, .slice none 0 0] 65 (0, 0))) :=
        ⟨Bel.call HB.out.1 hb1, by rw [hb1.block _ (Array.getElem?_eq_some_iff.1 HB.out.2).1]; exact HB.out.2⟩
      have hO1 := (HO.out).call (carriedItem 1) hb1
      have hsw := (Array.getElem?_eq_some_iff.1 HB.out.2).1
      have hs1 := hb1.size
      have howr := (HO.out).own
      obtain ⟨R, hR1, hRo, hRs, hRn⟩ := hO1.push (carriedItem 1) hit rfl (by decide) (fun b _ hb => ⟨by omega, fun e => by have := (howr b e).2; omega⟩) 65
      have hle : (L.length + [It.text x].length) * 56 ≤ 140737488355328 := by rw [HLL.out]; simp; omega
      have hbase : w.heap.size + 1 ≤ (w1.alloc (.cells [.bool false, .slice a1 m1 d1, .slice none 0 0].toArray 65)).heap.size := by simp; omega
      have HRN := Lib.hid hRn
      have HRO := Lib.hid hRo
      have HRS := Lib.hid hRs
      have HR1 := Lib.hid hR1
      clear hRn hO1 hb1 hit howr hRo hRs hR1 hs1 hsw t1 c1
      go_wp2_with (at_builtin; refine wpList_append_at rfl (.tmp 12) (.tmp 15) 63 rfl (w.heap.size + 1) 65 i0 (.agg #[.bool false, .slice none 0 0, .slice none 0 0]) 3 56 underlyingItems hi hz0 hz1 hz2 rfl (by decide) (by decide) HR1.out _ L rfl HRO.out _ [It.text x] (fun _ => True) rfl HRS.out hle hbase ?_; intro v' w2 ho hg hm)
      have HOn := Lib.hid (HRN.out _ _ ho hg hm)
      have hown := (HRO.out).own
      have HB2 : Hid (Below w.heap.size w w2 ∧ w2.heap[w.heap.size]? = some (.cells #[.bool false, .slice none 0 0, .slice none 0 0] 65 (0, 0))) := by
        have hb1 := HB1.out.1
        have hbx := HB1.out.2
        have hlt' := (Array.getElem?_eq_some_iff.1 hbx).1
        refine ⟨(Bel.alloc hb1 _).grown hg (by simp; omega) (fun k hk => by have := (hown k hk).1; omega), ?_⟩
        rw [hg.block _ (by simp; omega) (fun e => by have := (hown _ e.symm).1; omega), Below.heap_alloc _ _ _ hlt']
        exact hbx
      clear ho hg hm hown
      go_roundw
      case rel => exact ⟨k + 1, by omega, num_eq (by omega), by rw [HT.out]; exact HOn.out, HB2.out⟩
      case measure => simp [intOf]; omega
    · obtain rfl : k = n := by omega
      have hO := HO.out
      rw [List.take_of_length_le (by omega)] at hO
      have hits := hO.at (carriedItem 1) (G' := fun b => w.heap.size < b) (fun _ h _ => h) (fun b h _ => by omega) (by decide)
      have hll : (l.map It.text).length ≤ 1099511627776 := by simp; omega
      have hsw := (Array.getElem?_eq_some_iff.1 HB.out.2).1
      clear hO hN
      go_wp2_with fail
      refine (list_any _ wr _ 1 _ hits hll).mono ?_
      rintro e w1 ⟨v2, rfl, hit, hb1⟩
      obtain ⟨-, a1, m1, d1, a2, m2, d2, e1, e2, -, -⟩ := ItemAt.form hit
      simp only [Value.slice.injEq] at e1
      obtain ⟨rfl, rfl, rfl⟩ := e1
      subst e2
      have hkk : w1.heap[w.heap.size]? = some (.cells #[.bool false, .slice none 0 0, .slice none 0 0] 65 (0, 0)) := by rw [hb1.block _ hsw]; exact HB.out.2
      obtain ⟨q0, q1, q2⟩ := cells3 hkk
      have f0 := frozen_of_row w1 w.heap.size 0 _ _ hkk
      have f1 := frozen_of_row w1 w.heap.size 1 _ _ hkk
      have f2 := frozen_of_row w1 w.heap.size 2 _ _ hkk
      have HK := Lib.hid hkk
      have HB1 := Lib.hid hb1
      clear hkk hb1
      go_wp2_with fail
      obtain ⟨W, hW⟩ : ∃ W, W = ((w1.setCell ⟨w.heap.size, 0, none⟩ (.bool true)).setCell ⟨w.heap.size, 1, none⟩ (.slice none 0 0)).setCell ⟨w.heap.size, 2, none⟩ (.slice a2 m2 d2) := ⟨_, rfl⟩
      have hWk : W.heap[w.heap.size]? = some (.cells #[.bool true, .slice none 0 0, .slice a2 m2 d2] 65 (0, 0)) := by
        rw [hW]; exact blk_setCell (blk_setCell (blk_setCell HK.out))
      rw [← hW]
      obtain ⟨r0, r1, r2⟩ := cells3 hWk
      refine bodyPost_ret (v := .agg #[.bool true, .slice none 0 0, .slice a2 m2 d2]) (by simp [results, Try.results43, go_sem, r0, r1, r2]) rfl ?_
      have hbel : Below w.heap.size w W := by
        rw [hW]
        exact (((Bel.call HB.out.1 HB1.out).setCell (Nat.le_refl _) _).setCell (Nat.le_refl _) _).setCell (Nat.le_refl _) _
      refine ⟨_, rfl, ?_, hbel⟩
      refine hit.carry (fun b _ hb => by rcases hb with hb | hb <;> omega) (fun b hb hlt' => ?_)
      have hne : b ≠ w.heap.size := by rcases hb with hb | hb <;> omega
      rw [hW, Below.heap_setCell _ _ _ _ hne, Below.heap_setCell _ _ _ _ hne, Below.heap_setCell _ _ _ _ hne]

end Go.Proofs.Ytndkkgkcbbmnpaa
namespace Go.Pg
open Go.RowKit
theorem BytesAt.draws {F : Nat → Prop} {w : World} {v : Value} {bs : List UInt8} (h : BytesAt F w v bs) (n : Nat) : BytesAt F (w.drewN n) v bs :=
  h.carry (fun _ _ x => x) (fun _ _ _ => rfl)
theorem run_bytesOf_at {P : Program} {F : Nat → Prop} {w : World} {a : Option Addr} {n c : Nat} {bs : List UInt8} (h : BytesAt F w (.slice a n c) bs) :
    (Extern.Bytes.bytesOf (.slice a n c)).run P w = .ok ⟨bs.toArray⟩ w := by
  rcases SliceAt.split h with ⟨rfl, rfl⟩ | ⟨b, o, rfl, hn, hp, hF⟩
  · cases a <;> simp [Extern.Bytes.bytesOf, Extern.Bytes.loadBytes] <;> rfl
  · have h1 := Lib.run_loadBytesX (P := P) w (bs.map fun x => (x.toNat : Int)) ⟨b, o, none⟩ .empty (fun j x hj => by
      obtain ⟨hj', rfl⟩ := List.getElem?_eq_some_iff.1 hj
      have e : (⟨b, o, none⟩ : Addr).add j = ⟨b, o + j, none⟩ := by unfold Addr.add; split <;> simp_all
      rw [e, BytesAt.cell h j (by simpa using hj')]
      simp)
    simp only [List.length_map, ← hn] at h1
    simp only [Extern.Bytes.bytesOf, h1]
    congr 2
    have e2 : Lib.bytesOf (bs.map fun x => (x.toNat : Int)) = bs := by
      simp [Lib.bytesOf, List.map_map, Function.comp_def]
    rw [e2]
    show (#[] : Array UInt8) ++ bs.toArray = bs.toArray
    simp
theorem run_compare_at {P : Program} {F G : Nat → Prop} {w : World} {a a' : Option Addr} {n n' c c' : Nat} {bs ds : List UInt8} (h : BytesAt F w (.slice a n c) bs) (k : BytesAt G w (.slice a' n' c') ds) :
    (Extern.BytealgCompare.compare #[.slice a n c, .slice a' n' c']).run P w = .ok (.int .i64 (Lib.compareBytes bs ds)) w := by
  change Sem.run P (do pure (goInt (Extern.BytealgCompare.cmp (← Extern.Bytes.bytesOf (.slice a n c)) (← Extern.Bytes.bytesOf (.slice a' n' c'))))) w = _
  simp only [Sem.run_bind, run_bytesOf_at h, run_bytesOf_at k, Sem.run_pure, Result.andThen]
  rw [Lib.cmp_eq]
  rfl
/-- string(b) -/
theorem run_string_at {P : Program} {F : Nat → Prop} {w : World} {a : Option Addr} {n c : Nat} {bs : List UInt8} (h : BytesAt F w (.slice a n c) bs) (src e dst : TypeId) (hs : P.underlying src = some (.slice e)) (he : P.underlying e = some (.int .u8)) (hd : P.underlying dst = some .string) :
    (convert src dst (.slice a n c)).run P w = .ok (.string ⟨bs.toArray⟩) w := by
  have hnil : (⟨#[]⟩ : ByteArray) = ByteArray.empty := rfl
  rcases SliceAt.split h with ⟨rfl, rfl⟩ | ⟨b, o, rfl, hn, hp, hF⟩
  · cases a with
    | none => rw [run_convert_bytes_nil w src e hs he 0 c dst hd]; rfl
    | some ad =>
      rw [run_convert_bytes_string w src dst e _ 0 c hs he hd]
      rw [run_bytesToString w ad 0 c [] (by simp [loadCells, loadCellsFrom])]
      rfl
  · rw [run_convert_bytes_arg w src e hs he b o n c (bs.map fun x => (x.toNat : Int)) (by simp [hn]) (fun i hi => by
      rw [BytesAt.cell h i (by omega)]
      simp [List.getElem?_eq_getElem (show i < bs.length by omega)]) dst hd]
    congr 2
    unfold strOfNums
    simp [List.map_map, Function.comp_def]
/-- each ahead of the next one -/
def rising : List (List UInt8) → Bool
  | [] => true
  | [_] => true
  | a :: b :: r => decide (Lib.compareBytes a b < 0) && rising (b :: r)
theorem rising_step (l : List (List UInt8)) (k : Nat) (h0 : 1 ≤ k) (h : k < l.length) : rising (l.drop (k - 1)) = (decide (Lib.compareBytes (l[k - 1]'(by omega)) l[k] < 0) && rising (l.drop k)) := by
  have e1 : l.drop (k - 1) = (l[k - 1]'(by omega)) :: l.drop k := by
    have := List.drop_eq_getElem_cons (l := l) (i := k - 1) (by omega)
    rwa [show k - 1 + 1 = k by omega] at this
  have e2 : l.drop k = l[k] :: l.drop (k + 1) := List.drop_eq_getElem_cons h
  rw [e1, e2]; rfl
theorem rising_end (l : List (List UInt8)) (k : Nat) (h : l.length ≤ k) : rising (l.drop (k - 1)) = true := by
  have hl : (l.drop (k - 1)).length ≤ 1 := by rw [List.length_drop]; omega
  match l.drop (k - 1), hl with
  | [], _ => rfl
  | [_], _ => rfl
end Go.Pg
namespace Go.Proofs.Ytndkkgkcbbmnpaa
open Go.RowKit Go.Pg

set_option maxHeartbeats 400000 in
set_option maxRecDepth 100000 in
theorem compare_any (F G : Nat → Prop) (w : World) (u v : Value) (bs ds : List UInt8) (h : BytesAt F w u bs) (k : BytesAt G w v ds) :
    Calls Try.prog 68 #[u, v] w fun e w' => e = .returned (.int .i64 (Lib.compareBytes bs ds)) ∧ w = w' := by
  obtain ⟨a, c, rfl, -, -, -⟩ := SliceAt.len h
  obtain ⟨a', c', rfl, -, -, -⟩ := SliceAt.len k
  go_enter Try.func68, Try.ntmps68
  go_wp2
  rw [run_callFunc_extern Try.func89 (by kernel_rfl) (by kernel_rfl) (by kernel_rfl) (e := Extern.BytealgCompare.compare) (by kernel_rfl), run_compare_at h k]
  simp only [Result.andThen]
  rw [Oper.upon_value]
  go_wp2
  go_ret
  exact ⟨rfl, rfl⟩

set_option maxRecDepth 100000 in
set_option maxHeartbeats 1000000 in
theorem rises_any (F : Nat → Prop) (w : World) (v : Value) (l : List (List UInt8)) (h : RowsAt F w v l) (hl : l.length ≤ 1152921504606846976) :
    Calls Try.prog 40 #[v] w fun e w' => e = .returned (.bool (rising l)) ∧ Below w.heap.size w w' := by
  obtain ⟨a, c, rfl, -, -, -⟩ := SliceAt.len h
  obtain ⟨n, hn⟩ : ∃ n, n = l.length := ⟨_, rfl⟩
  rw [← hn] at h hl ⊢
  have HN := Lib.hid hn
  clear hn
  go_enter Try.func40, Try.ntmps40
  go_wp2
  go_loopw [3] (fun i wr => ∃ k : Nat, 1 ≤ k ∧ k ≤ n + 1 ∧ i = .int .i64 k ∧ Hid (rising l = rising (l.drop (k - 1))) ∧ Hid (Below w.heap.size w wr)) (fun i _ => n + 1 - (intOf i).toNat)
  case atStart => exact ⟨1, Nat.le_refl _, by omega, rfl, rfl, Bel.refl w⟩
  case round =>
    obtain ⟨k, h1, hk, rfl, HR, HB⟩ := hrel
    have hN := HN.out
    by_cases hlt : k < n
    · rcases SliceAt.split h with ⟨_, h0⟩ | ⟨b, o, rfl, -, -, -⟩
      · omega
      have h' := RowsAt.below h HB.out
      obtain ⟨u1, c1, t1⟩ := RowsAt.cell h' (k - 1) (by omega)
      obtain ⟨u2, c2, t2⟩ := RowsAt.cell h' k (by omega)
      obtain ⟨x1, hx1⟩ : ∃ x, x = l[k - 1]'(by omega) := ⟨_, rfl⟩
      obtain ⟨x2, hx2⟩ : ∃ x, x = l[k]'(by omega) := ⟨_, rfl⟩
      have hst := rising_step l k h1 (by omega)
      rw [← hx1, ← hx2] at hst
      rw [← hx1] at t1
      rw [← hx2] at t2
      have HS := Lib.hid (HR.out.trans hst)
      clear hst hx1 hx2 h' hN HR
      have hadd : ((k : Int) - 1).toNat = k - 1 := by omega
      have hwr1 : IntKind.i64.wrap ((k : Int) - 1) = (k : Int) - 1 := IntWalk.i64_in _ (by omega)
      have z1 : (1 : Int) ≤ (k : Int) := by omega
      have z2 : (0 : Int) ≤ (k : Int) - 1 := by omega
      have z3 : (k : Int) - 1 < (n : Int) := by omega
      have z4 : (k : Int) < (n : Int) := by omega
      go_wp2
      go_quiet (((go_at_call 68; exact Calls.quiet_of_same ((compare_any F F _ u1 u2 x1 x2 (t1.draws _) (t2.draws _)).mono fun _ _ ⟨p, q⟩ => ⟨p, q.symm⟩))))
      have HBd : ∀ m, Below w.heap.size w (wr.drewN m) := fun m => ⟨HB.out.os, HB.out.tape, HB.out.output, HB.out.size, HB.out.block⟩
      have HBD := Lib.hid HBd
      obtain ⟨q, hq⟩ : ∃ q, q = Lib.compareBytes x1 x2 := ⟨_, rfl⟩
      rw [← hq]
      have HQ := Lib.hid hq
      clear hq HBd t1 t2 c1 c2
      by_cases hneg : q < 0
      · go_wp2
        go_roundw
        case rel => exact ⟨k + 1, by omega, by omega, num_eq (by omega), (by show _ = _; rw [HS.out, ← HQ.out]; simp [hneg]), HBD.out _⟩
        case measure => simp [intOf]; omega
      · go_wp2
        go_ret
        exact ⟨ret_bool (by rw [HS.out, ← HQ.out]; simp; intro h; omega), HBD.out _⟩
    · go_wp2
      go_ret
      exact ⟨ret_bool (by rw [HR.out, rising_end l k (by omega)]), HB.out⟩

end Go.Proofs.Ytndkkgkcbbmnpaa
