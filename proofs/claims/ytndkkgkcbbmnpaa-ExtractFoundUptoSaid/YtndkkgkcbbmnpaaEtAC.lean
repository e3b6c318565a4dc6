/-
  Contracts of nest.write (whole), slices.Clone at bytes and at items, nest.Text, nest.List.
  Contract of (*nest.reader).item, where that of list is known.
  Contract of (*nest.reader).item at bytes that are there, where that of list is known.
  The append law as one step of a region that draws its order.
  Contract of (*nest.reader).list, where that of item is known.
  Contract of witness.texts.
-/
import Derived.Test.YtndkkgkcbbmnpaaEtAB
import Derived.Deep.AppendLies
import Derived.Deep.RegionLaw
namespace Go.Proofs.Ytndkkgkcbbmnpaa
open Go.RowKit Go.Pg

theorem write_any (d : Nat) : WriteC d := by
  induction d with
  | zero => intro F w base x l v1 v2 v bs _ _ h; exact h.elim
  | succ d ih =>
    intro F w base x l v1 v2 v bs hb hF h hown hlen
    by_cases hp : x.plain = true
    · exact write_plain F w base x l v1 v2 v bs hb hF h hown hlen hp
    · exact write_long ih F w base x l v1 v2 v bs hb hF h hown hlen (by simpa using hp)

theorem cloneB_nil (w : World) :
    Calls Try.prog 79 #[.slice none 0 0] w fun e w' => e = .returned (.slice none 0 0) ∧ w = w' := by
  have heq := fun w a n c => Lib.run_eql_slice_nil (P := Try.prog) w 25 5 a n c 0 0 underlying25
  go_enter Try.func79, Try.ntmps79
  go_wp2
  go_ret
  exact ⟨rfl, rfl⟩

set_option maxHeartbeats 400000 in
theorem cloneB_some (F : Nat → Prop) (w : World) (a : Addr) (n c : Nat) (bs : List UInt8) (h : BytesAt F w (.slice (some a) n c) bs) (hlen : bs.length ≤ 70368744177664) :
    Calls Try.prog 79 #[.slice (some a) n c] w fun e w' => ∃ v', e = .returned v' ∧ OwnAt w' w.heap.size 5 1 byteR v' bs ∧ Below w.heap.size w w' := by
  obtain ⟨i0, hi, hz0, hz1, hz2⟩ := info_parts infoU8
  have hown : OwnAt (w.alloc (.cells #[] 5)) w.heap.size 5 1 byteR (.slice (some ⟨w.heap.size, 0, none⟩) 0 0) ([] : List UInt8) :=
    ⟨[], World.ownsRow_made w #[] 0 (Nat.le_refl _) (by decide) rfl, Rows.nil _ _⟩
  have hsrc : BytesAt F (w.alloc (.cells #[] 5)) (.slice (some a) n c) bs := BytesAt.below h (Bel.alloc (Bel.refl w) _)
  have hle : (([] : List UInt8).length + bs.length) * 1 ≤ 140737488355328 := by simp; omega
  have hb : w.heap.size ≤ (w.alloc (.cells #[] 5)).heap.size := by simp
  have heq := fun w a n c => Lib.run_eql_slice_nil (P := Try.prog) w 25 5 a n c 0 0 underlying25
  go_enter Try.func79, Try.ntmps79
  go_wp2_with (at_builtin; refine wpList_append_at rfl (.tmp 5) (.tmp 6) 25 rfl w.heap.size 5 i0 (.int .u8 0) 1 1 underlying25 hi hz0 hz1 hz2 rfl (by decide) (by decide) byteR.one _ [] rfl hown _ bs F rfl hsrc hle hb ?_; intro v' w2 ho hg hw)
  go_ret
  exact ⟨v', rfl, by simpa using ho, (Bel.alloc (Bel.refl w) _).grown hg hb (fun k hk => (hown.own k hk).1)⟩

theorem underlyingItems : Try.prog.underlying 63 = some (.slice 65) := Try.underlying63
theorem infoItem : (Try.prog.info? 65).map (fun i => (i.zero, i.size, i.bytes)) = some (some (.agg #[.bool false, .slice none 0 0, .slice none 0 0]), 3, 56) := by kernel_rfl

theorem cloneI_nil (w : World) :
    Calls Try.prog 72 #[.slice none 0 0] w fun e w' => e = .returned (.slice none 0 0) ∧ w = w' := by
  have heq := fun w a n c => Lib.run_eql_slice_nil (P := Try.prog) w 63 65 a n c 0 0 underlyingItems
  go_enter Try.func72, Try.ntmps72
  go_wp2
  go_ret
  exact ⟨rfl, rfl⟩

set_option maxHeartbeats 400000 in
theorem cloneI_some (F : Nat → Prop) (w : World) (a : Addr) (n c : Nat) (d : Nat) (l : List It) (h : ItemsAt F w d (.slice (some a) n c) l) (hlen : l.length ≤ 1099511627776) :
    Calls Try.prog 72 #[.slice (some a) n c] w fun e w' => ∃ v', e = .returned v' ∧ OwnAt w' w.heap.size 65 3 (ItemAt F w d) v' l ∧ Below w.heap.size w w' := by
  obtain ⟨i0, hi, hz0, hz1, hz2⟩ := info_parts infoItem
  have hown : OwnAt (w.alloc (.cells #[] 65)) w.heap.size 65 3 (ItemAt F w d) (.slice (some ⟨w.heap.size, 0, none⟩) 0 0) ([] : List It) :=
    ⟨[], World.ownsRow_made w #[] 0 (Nat.le_refl _) (by decide) rfl, Rows.nil _ _⟩
  have hsrc : SliceAt F (w.alloc (.cells #[] 65)) 3 (ItemAt F w d) (.slice (some a) n c) l :=
    SliceAt.carry h (by decide) (fun _ _ x => x) (fun b _ hlt => Below.heap_alloc _ _ _ hlt) (fun _ _ _ h => h)
  have hle : (([] : List It).length + l.length) * 56 ≤ 140737488355328 := by simp; omega
  have hb : w.heap.size ≤ (w.alloc (.cells #[] 65)).heap.size := by simp
  have heq := fun w a n c => Lib.run_eql_slice_nil (P := Try.prog) w 63 65 a n c 0 0 underlyingItems
  go_enter Try.func72, Try.ntmps72
  go_wp2_with (at_builtin; refine wpList_append_at rfl (.tmp 5) (.tmp 6) 63 rfl w.heap.size 65 i0 (.agg #[.bool false, .slice none 0 0, .slice none 0 0]) 3 56 underlyingItems hi hz0 hz1 hz2 rfl (by decide) (by decide) (ItemAt.one d) _ [] rfl hown _ l F rfl hsrc hle hb ?_; intro v' w2 ho hg hw)
  go_ret
  exact ⟨v', rfl, by simpa using ho, (Bel.alloc (Bel.refl w) _).grown hg hb (fun k hk => (hown.own k hk).1)⟩

/-- a slice in new memory -/
def Fresh {α : Type} (w : World) (e : TypeId) (sz : Nat) (R : List Value → α → Prop) (l : List α) (en : Ending) (w' : World) : Prop :=
  ∃ v', en = .returned v' ∧ OwnAt w' w.heap.size e sz R v' l ∧ Below w.heap.size w w'
theorem cloneB_any (F : Nat → Prop) (w : World) (v : Value) (bs : List UInt8) (h : BytesAt F w v bs) (hlen : bs.length ≤ 70368744177664) :
    Calls Try.prog 79 #[v] w (Fresh w 5 1 byteR bs) := by
  obtain ⟨a, c, rfl, h1, h2, h3⟩ := SliceAt.len h
  cases a with
  | none =>
    obtain rfl := h3 rfl
    obtain ⟨rfl⟩ : bs = [] := List.eq_nil_of_length_eq_zero (by omega)
    refine (cloneB_nil w).mono ?_
    rintro e w' ⟨rfl, rfl⟩
    exact ⟨_, rfl, OwnAt.nil _ _ _ _ _, Bel.refl _⟩
  | some a => exact cloneB_some F w a _ c bs h hlen
theorem cloneI_any (F : Nat → Prop) (w : World) (v : Value) (d : Nat) (l : List It) (h : ItemsAt F w d v l) (hlen : l.length ≤ 1099511627776) :
    Calls Try.prog 72 #[v] w (Fresh w 65 3 (ItemAt F w d) l) := by
  obtain ⟨a, c, rfl, h1, h2, h3⟩ := SliceAt.len h
  cases a with
  | none =>
    obtain rfl := h3 rfl
    obtain ⟨rfl⟩ : l = [] := List.eq_nil_of_length_eq_zero (by omega)
    refine (cloneI_nil w).mono ?_
    rintro e w' ⟨rfl, rfl⟩
    exact ⟨_, rfl, OwnAt.nil _ _ _ _ _, Bel.refl _⟩
  | some a => exact cloneI_some F w a _ c d l h hlen

set_option maxHeartbeats 400000 in
/-- nest.Text: an item in new memory -/
theorem text_any (F : Nat → Prop) (w : World) (v : Value) (bs : List UInt8) (h : BytesAt F w v bs) (hlen : bs.length ≤ 70368744177664) :
    Calls Try.prog 50 #[v] w fun e w' => ∃ v1, e = .returned (.agg #[.bool false, v1, .slice none 0 0]) ∧ ItemAt (fun b => w.heap.size ≤ b) w' 1 [.bool false, v1, .slice none 0 0] (.text bs) ∧ Below w.heap.size w w' := by
  obtain ⟨a, c, rfl, h1, h2, h3⟩ := SliceAt.len h
  go_enter Try.func50, Try.ntmps50
  go_wp2_with fail
  refine (cloneB_any F _ _ bs ?_ hlen).mono ?_
  · exact BytesAt.below h (Bel.alloc (Bel.refl w) _)
  rintro e w1 ⟨v1, rfl, ho, hb⟩
  obtain ⟨a1, c1, rfl, -, -, -⟩ := ho.len
  have hk := boxblock hb
  obtain ⟨q0, q1, q2⟩ := cells3 hk
  have f0 := boxfree hb 0
  have f1 := boxfree hb 1
  have f2 := boxfree hb 2
  have hb' := Lib.hid hb
  have hkk := Lib.hid hk
  clear hb hk
  go_wp2_with fail
  obtain ⟨W, hW⟩ : ∃ W, W = ((w1.setCell ⟨w.heap.size, 0, none⟩ (.bool false)).setCell ⟨w.heap.size, 1, none⟩ (.slice a1 bs.length c1)).setCell ⟨w.heap.size, 2, none⟩ (.slice none 0 0) := ⟨_, rfl⟩
  have hWk : W.heap[w.heap.size]? = some (.cells #[.bool false, .slice a1 bs.length c1, .slice none 0 0] 65 (0, 0)) := by
    rw [hW]; exact heap_setCell_same _ _ _ _ _ _ (heap_setCell_same _ _ _ _ _ _ (heap_setCell_same _ _ _ _ _ _ hkk.out))
  rw [← hW]
  obtain ⟨r0, r1, r2⟩ := cells3 hWk
  refine bodyPost_ret (v := .agg #[.bool false, .slice a1 bs.length c1, .slice none 0 0]) (by simp [results, Try.results50, go_sem, r0, r1, r2]) rfl ?_
  have hb := hb'.out
  have hbel : Below w.heap.size w W := by
    rw [hW]
    exact (((Bel.call (Bel.alloc (Bel.refl w) _) hb).setCell (Nat.le_refl _) _).setCell (Nat.le_refl _) _).setCell (Nat.le_refl _) _
  have hoW : OwnAt W (w.heap.size + 1) 5 1 byteR (.slice a1 bs.length c1) bs := by
    have ho' := ho
    simp only [World.size_alloc] at ho'
    refine ho'.carry fun g _ hg _ => ?_
    rw [hW, Below.heap_setCell _ _ _ _ (by show g ≠ w.heap.size; omega), Below.heap_setCell _ _ _ _ (by show g ≠ w.heap.size; omega), Below.heap_setCell _ _ _ _ (by show g ≠ w.heap.size; omega)]
  exact ⟨_, rfl, ⟨_, _, rfl, hoW.at (fun g _ hg _ => by omega) (by decide), SliceAt.nil _ _ _ _⟩, hbel⟩

set_option maxHeartbeats 400000 in
/-- nest.List: a list of the items that are given, in a row of its own -/
theorem list_any (F : Nat → Prop) (w : World) (v : Value) (d : Nat) (l : List It) (h : ItemsAt F w d v l) (hlen : l.length ≤ 1099511627776) :
    Calls Try.prog 42 #[v] w fun e w' => ∃ v2, e = .returned (.agg #[.bool true, .slice none 0 0, v2]) ∧ ItemAt (fun b => F b ∨ w.heap.size ≤ b) w' (d + 1) [.bool true, .slice none 0 0, v2] (.list l) ∧ Below w.heap.size w w' := by
  obtain ⟨a, c, rfl, h1, h2, h3⟩ := SliceAt.len h
  go_enter Try.func42, Try.ntmps42
  go_wp2_with fail
  refine (cloneI_any (fun b => F b ∧ b < w.heap.size) _ _ d l ?_ hlen).mono ?_
  · exact ItemsAt.carry h (fun b hb hF => ⟨hF, hb⟩) (fun b _ hlt => Below.heap_alloc _ _ _ hlt)
  rintro e w1 ⟨v1, rfl, ho, hb⟩
  obtain ⟨a1, c1, rfl, -, -, -⟩ := ho.len
  have hk := boxblock hb
  obtain ⟨q0, q1, q2⟩ := cells3 hk
  have f0 := boxfree hb 0
  have f1 := boxfree hb 1
  have f2 := boxfree hb 2
  have hb' := Lib.hid hb
  have hkk := Lib.hid hk
  have HO := Lib.hid ho
  clear hb hk ho
  go_wp2_with fail
  obtain ⟨W, hW⟩ : ∃ W, W = ((w1.setCell ⟨w.heap.size, 0, none⟩ (.bool true)).setCell ⟨w.heap.size, 1, none⟩ (.slice none 0 0)).setCell ⟨w.heap.size, 2, none⟩ (.slice a1 l.length c1) := ⟨_, rfl⟩
  have hWk : W.heap[w.heap.size]? = some (.cells #[.bool true, .slice none 0 0, .slice a1 l.length c1] 65 (0, 0)) := by
    rw [hW]; exact heap_setCell_same _ _ _ _ _ _ (heap_setCell_same _ _ _ _ _ _ (heap_setCell_same _ _ _ _ _ _ hkk.out))
  rw [← hW]
  obtain ⟨r0, r1, r2⟩ := cells3 hWk
  refine bodyPost_ret (v := .agg #[.bool true, .slice none 0 0, .slice a1 l.length c1]) (by simp [results, Try.results42, go_sem, r0, r1, r2]) rfl ?_
  have hb := hb'.out
  have hbel : Below w.heap.size w W := by
    rw [hW]
    exact (((Bel.call (Bel.alloc (Bel.refl w) _) hb).setCell (Nat.le_refl _) _).setCell (Nat.le_refl _) _).setCell (Nat.le_refl _) _
  have hoW : OwnAt W (w.heap.size + 1) 65 3 (ItemAt (fun b => F b ∧ b < w.heap.size) (w.alloc (.cells #[.bool false, .slice none 0 0, .slice none 0 0] 65)) d) (.slice a1 l.length c1) l := by
    have ho' := HO.out
    simp only [World.size_alloc] at ho'
    refine ho'.carry fun g _ hg _ => ?_
    rw [hW, Below.heap_setCell _ _ _ _ (by show g ≠ w.heap.size; omega), Below.heap_setCell _ _ _ _ (by show g ≠ w.heap.size; omega), Below.heap_setCell _ _ _ _ (by show g ≠ w.heap.size; omega)]
  refine ⟨_, rfl, ⟨_, _, rfl, SliceAt.nil _ _ _ _, ?_⟩, hbel⟩
  refine (hoW.mono (R' := ItemAt (fun b => F b ∨ w.heap.size ≤ b) W d) fun cs x hx hi => ?_).at (fun g _ hg _ => .inr (by omega)) (by decide)
  exact hi.carry (fun b _ hF => .inl hF.1) (fun b hF _ => by rw [hbel.block b hF.2, Below.heap_alloc _ _ _ hF.2])

end Go.Proofs.Ytndkkgkcbbmnpaa
namespace Go.Pg
open Go.RowKit
/-- three cells written into a box -/
structure Box3 (W1 W : World) (b : Nat) (v0 v1 v2 : Value) (t : TypeId) : Prop where
  at_ : W.heap[b]? = some (.cells #[v0, v1, v2] t (0, 0))
  other : ∀ k, k ≠ b → W.heap[k]? = W1.heap[k]?
  size : W.heap.size = W1.heap.size
  chg : Chg (fun k => k = b) W1 W
theorem box3 {W1 : World} {b : Nat} {x0 x1 x2 : Value} {t : TypeId} (hk : W1.heap[b]? = some (.cells #[x0, x1, x2] t (0, 0))) (v0 v1 v2 : Value) :
    Box3 W1 (((W1.setCell ⟨b, 0, none⟩ v0).setCell ⟨b, 1, none⟩ v1).setCell ⟨b, 2, none⟩ v2) b v0 v1 v2 t :=
  ⟨heap_setCell_same _ _ _ _ _ _ (heap_setCell_same _ _ _ _ _ _ (heap_setCell_same _ _ _ _ _ _ hk)),
   fun k hk => by rw [Below.heap_setCell _ _ _ _ hk, Below.heap_setCell _ _ _ _ hk, Below.heap_setCell _ _ _ _ hk], by simp, (((Chg.refl (fun k => k = b) W1).atb _).atb _).atb _⟩
theorem Box3.alloc {W1 W : World} {b : Nat} {v0 v1 v2 : Value} {t : TypeId} (h : Box3 W1 W b v0 v1 v2 t) (o : Obj) : Box3 (W1.alloc o) (W.alloc o) b v0 v1 v2 t := by
  have hlt := (Array.getElem?_eq_some_iff.1 h.at_).1
  refine ⟨by rw [Below.heap_alloc _ _ _ hlt]; exact h.at_, fun k hk => ?_, by simp [h.size], ⟨h.chg.os, h.chg.tape, h.chg.output, by simp [h.size], fun k hk hn => ?_⟩⟩
  all_goals
    show (W.heap.push o)[k]? = (W1.heap.push o)[k]?
    rw [Array.getElem?_push, Array.getElem?_push, h.size, h.other k (by assumption)]
end Go.Pg
namespace Go.Proofs.Ytndkkgkcbbmnpaa
open Go.RowKit Go.Pg

/-- an item was read, or a fault noted -/
def Itemd (F : Nat → Prop) (w : World) (rb D : Nat) (r : Nat × It × List UInt8) (e : Ending) (w' : World) : Prop :=
  ∃ l a1 n1 c1 a3 n3 c3 a2 n2 c2, e = .returned (.agg #[.bool l, .slice a1 n1 c1, .slice a3 n3 c3]) ∧
    (r.1 = 0 → ItemAt (fun b => w.heap.size ≤ b) w' D [.bool l, .slice a1 n1 c1, .slice a3 n3 c3] r.2.1 ∧ BytesAt F w' (.slice a2 n2 c2) r.2.2) ∧
    w'.heap[rb]? = some (.cells #[.slice a2 n2 c2, .int .i64 r.1] 117 (0, 0)) ∧ Chg (fun k => k = rb) w w'
def RItemC (f : Nat) : Prop := ∀ (F : Nat → Prop) (w : World) (rb : Nat) (a : Option Addr) (n c deep : Nat) (bs : List UInt8), BytesAt F w (.slice a n c) bs →
  w.heap[rb]? = some (.cells #[.slice a n c, .int .i64 0] 117 (0, 0)) → ¬ F rb → n ≤ 70368744177664 → deep + f = 8 →
  Calls Try.prog 95 #[.pointer (some ⟨rb, 0, none⟩), .int .i64 deep] w (Itemd F w rb (f + 1) (rdItem f bs))
def RListC (f : Nat) : Prop := ∀ (F : Nat → Prop) (w : World) (rb : Nat) (a : Option Addr) (n c deep m : Nat) (bs : List UInt8), BytesAt F w (.slice a n c) bs →
  w.heap[rb]? = some (.cells #[.slice a n c, .int .i64 0] 117 (0, 0)) → ¬ F rb → n ≤ 70368744177664 → deep + 1 + f = 8 → m ≤ 255 →
  Calls Try.prog 109 #[.pointer (some ⟨rb, 0, none⟩), .int .i64 m, .int .i64 deep] w (Itemd F w rb (f + 2) (rdList (rdItem f) (readSize m bs)))

theorem int_fail (w : World) (rb : Nat) (a : Option Addr) (n c : Nat) (k : Int) (code : Nat) (hkc : k = code) (hk : w.heap[rb]? = some (.cells #[.slice a n c, .int .i64 0] 117 (0, 0))) :
    Calls Try.prog 108 #[.pointer (some ⟨rb, 0, none⟩), .int .i64 k] w (Failed w rb (.slice a n c) code) := by
  subst hkc; exact fail_any w rb a n c code hk

set_option maxRecDepth 100000 in
set_option maxHeartbeats 1000000 in
theorem item_none (F : Nat → Prop) (f : Nat) (w : World) (rb : Nat) (a : Option Addr) (c deep : Nat)
    (hk : w.heap[rb]? = some (.cells #[.slice a 0 c, .int .i64 0] 117 (0, 0))) :
    Calls Try.prog 95 #[.pointer (some ⟨rb, 0, none⟩), .int .i64 deep] w (Itemd F w rb (f + 1) (rdItem f [])) := by
  have hlt := (Array.getElem?_eq_some_iff.1 hk).1
  have hr : rdItem f [] = (22, .text [], []) := by cases f <;> rfl
  have HR := Lib.hid hr
  have hk0 : (w.alloc (.cells #[.bool false, .slice none 0 0, .slice none 0 0] 65)).heap[rb]? = some (.cells #[.slice a 0 c, .int .i64 0] 117 (0, 0)) := by rw [Below.heap_alloc _ _ _ hlt]; exact hk
  have HK0 := Lib.hid hk0
  clear hr hk hk0
  go_enter Try.func95, Try.ntmps95
  go_wp2_with fail
  refine (take_no _ rb a 0 c 1 HK0.out (by omega)).mono ?_
  rintro e w1 ⟨rfl, h1, h2⟩
  have hb1 : w1.heap[w.heap.size]? = some (.cells #[.bool false, .slice none 0 0, .slice none 0 0] 65 (0, 0)) := by
    rw [h2.block _ (by simp) (by omega)]; exact heap_alloc_new w _
  obtain ⟨q0, q1, q2⟩ := cells3 hb1
  have f0 := frozen_of_row w1 w.heap.size 0 _ _ hb1
  have f1 := frozen_of_row w1 w.heap.size 1 _ _ hb1
  have f2 := frozen_of_row w1 w.heap.size 2 _ _ hb1
  have H1 := Lib.hid h1
  have H2 := Lib.hid h2
  have HB1 := Lib.hid hb1
  clear h1 h2 hb1
  go_wp2_with fail
  have hbx := box3 HB1.out (.bool false) (.slice none 0 0) (.slice none 0 0)
  obtain ⟨W, hW⟩ : ∃ W, W = ((w1.setCell ⟨w.heap.size, 0, none⟩ (.bool false)).setCell ⟨w.heap.size, 1, none⟩ (.slice none 0 0)).setCell ⟨w.heap.size, 2, none⟩ (.slice none 0 0) := ⟨_, rfl⟩
  rw [← hW] at hbx ⊢
  obtain ⟨r0, r1, r2⟩ := cells3 hbx.at_
  refine bodyPost_ret (v := .agg #[.bool false, .slice none 0 0, .slice none 0 0]) (by simp [results, Try.results95, go_sem, r0, r1, r2]) rfl ?_
  unfold Itemd
  rw [HR.out]
  refine ⟨false, none, 0, 0, none, 0, 0, a, 0, c, rfl, (fun h => by cases h), ?_, ?_⟩
  · rw [hbx.other _ (by omega)]; exact H1.out
  · exact (((Chg.refl (fun k => k = rb) w).alloc _).trans H2.out (fun _ _ x => x)).trans hbx.chg (fun i hi e => by omega)
end Go.Proofs.Ytndkkgkcbbmnpaa
namespace Go.Proofs.Ytndkkgkcbbmnpaa
open Go.RowKit Go.Pg

/-- the end: what was read stands in the result's box -/
theorem Itemd.done {F : Nat → Prop} {w W1 W : World} {rb D : Nat} {r : Nat × It × List UInt8} {l : Bool} {a1 a3 a2 : Option Addr} {n1 c1 n3 c3 n2 c2 : Nat} (hrb : rb < w.heap.size)
    (hi : r.1 = 0 → ItemAt (fun b => w.heap.size < b) W1 D [.bool l, .slice a1 n1 c1, .slice a3 n3 c3] r.2.1 ∧ BytesAt (fun b => F b ∧ b < w.heap.size) W1 (.slice a2 n2 c2) r.2.2)
    (hk : W1.heap[rb]? = some (.cells #[.slice a2 n2 c2, .int .i64 r.1] 117 (0, 0))) (hc : Chg (fun k => k = rb) w W1)
    (hb : Box3 W1 W w.heap.size (.bool l) (.slice a1 n1 c1) (.slice a3 n3 c3) 65) :
    Itemd F w rb D r (.returned (.agg #[.bool l, .slice a1 n1 c1, .slice a3 n3 c3])) W := by
  refine ⟨l, a1, n1, c1, a3, n3, c3, a2, n2, c2, rfl, fun h0 => ?_, ?_, ?_⟩
  · obtain ⟨h1, h2⟩ := hi h0
    exact ⟨h1.carry (fun b _ hb' => Nat.le_of_lt hb') (fun b hb' _ => hb.other b (by omega)), h2.carry (fun b _ hb' => hb'.1) (fun b hb' _ => hb.other b (by omega))⟩
  · rw [hb.other _ (by omega)]; exact hk
  · exact hc.trans hb.chg (fun i hi e => by omega)

theorem OwnAt.lit' (w : World) (e : TypeId) (x : UInt8) : OwnAt (w.alloc (.cells #[.int .u8 (x.toNat : Int)] e)) w.heap.size e 1 byteR (.slice (some ⟨w.heap.size, 0, none⟩) 1 1) [x] := by
  refine ⟨[.int .u8 (x.toNat : Int)], World.ownsRow_lit w #[.int .u8 (x.toNat : Int)] 1 (Nat.le_refl _) (by decide) rfl, Rows.one rfl rfl⟩

set_option maxRecDepth 100000 in
set_option maxHeartbeats 2000000 in
theorem item_some (F0 : Nat → Prop) (f : Nat) (hl : ∀ f', f = f' + 1 → RListC f') (w : World) (rb : Nat) (a : Option Addr) (n c deep : Nat) (x : UInt8) (t : List UInt8)
    (h0 : BytesAt F0 w (.slice a n c) (x :: t)) (hk : w.heap[rb]? = some (.cells #[.slice a n c, .int .i64 0] 117 (0, 0))) (hF0 : ¬ F0 rb) (hn : n ≤ 70368744177664) (hd : deep + f = 8) :
    Calls Try.prog 95 #[.pointer (some ⟨rb, 0, none⟩), .int .i64 deep] w (Itemd F0 w rb (f + 1) (rdItem f (x :: t))) := by
  have hlt := (Array.getElem?_eq_some_iff.1 hk).1
  obtain ⟨F, hFd⟩ : ∃ F : Nat → Prop, F = fun b => F0 b ∧ b < w.heap.size := ⟨_, rfl⟩
  have h : BytesAt F w (.slice a n c) (x :: t) := by rw [hFd]; exact h0.carry (fun b hb hF => ⟨hF, hb⟩) (fun _ _ _ => rfl)
  have hF : ¬ F rb := by rw [hFd]; exact fun h => hF0 h.1
  have hnl : n = t.length + 1 := by
    obtain ⟨a', c', hv, h1, -⟩ := h
    simp only [Value.slice.injEq] at hv
    simpa using hv.2.1
  have hk0 : (w.alloc (.cells #[.bool false, .slice none 0 0, .slice none 0 0] 65)).heap[rb]? = some (.cells #[.slice a n c, .int .i64 0] 117 (0, 0)) := by rw [Below.heap_alloc _ _ _ hlt]; exact hk
  have hbs0 : BytesAt F (w.alloc (.cells #[.bool false, .slice none 0 0, .slice none 0 0] 65)) (.slice a n c) (x :: t) := BytesAt.below h (Bel.alloc (Bel.refl w) _)
  have HK0 := Lib.hid hk0
  have HBS0 := Lib.hid hbs0
  have HFD := Lib.hid hFd
  have HNL := Lib.hid hnl
  have HLC := Lib.hid hl
  have hx := x.toNat_lt
  clear hk hk0 hbs0 h h0 hFd hnl hl
  go_enter Try.func95, Try.ntmps95
  go_wp2_with fail
  refine (take_ok F _ rb a n c 1 (x :: t) HBS0.out HK0.out hF (by have := HNL.out; omega) (by omega)).mono ?_
  rintro e w1 ⟨a1, c1, a2, n2, c2, rfl, hu, hs, hk1, hch⟩
  have hb1 : w1.heap[w.heap.size]? = some (.cells #[.bool false, .slice none 0 0, .slice none 0 0] 65 (0, 0)) := by
    rw [hch.block _ (by simp) (by omega)]; exact heap_alloc_new w _
  have hch1 : Chg (fun k => k = rb) w w1 := ((Chg.refl (fun k => k = rb) w).alloc _).trans hch (fun _ _ x => x)
  simp only [List.take_succ_cons, List.take_zero, List.drop_succ_cons, List.drop_zero] at hu hs
  have hn2 : n2 = t.length := by
    obtain ⟨a', c', hv, h1, -⟩ := hs
    simp only [Value.slice.injEq] at hv
    exact hv.2.1
  have hn2b : n2 ≤ 70368744177664 := by have := HNL.out; omega
  rcases SliceAt.split hu with ⟨hh, _⟩ | ⟨b, o, rfl, -, -, -⟩
  · cases hh
  have hcell := BytesAt.cell hu 0 (by simp)
  simp at hcell
  obtain ⟨q0, q1, q2⟩ := cells3 hb1
  have f0 := frozen_of_row w1 w.heap.size 0 _ _ hb1
  have f1 := frozen_of_row w1 w.heap.size 1 _ _ hb1
  have f2 := frozen_of_row w1 w.heap.size 2 _ _ hb1
  have hs1 := hch1.size
  have HU := Lib.hid hu
  have HS := Lib.hid hs
  have HK1 := Lib.hid hk1
  have HCH1 := Lib.hid hch1
  have HB1 := Lib.hid hb1
  have HN2 := Lib.hid hn2
  have hsb := (Array.getElem?_eq_some_iff.1 hb1).1
  clear hu hs hk1 hch hch1 hb1 hn2
  by_cases h128 : (x.toNat : Int) < 128
  · have hr : rdItem f (x :: t) = (0, .text [x], t) := by unfold rdItem; rw [if_pos (by omega)]
    have HR := Lib.hid hr
    clear hr
    go_wp2_with fail
    have hbx := (box3 HB1.out (.bool false) (.slice (some ⟨w1.heap.size, 0, none⟩) 1 1) (.slice none 0 0)).alloc (.cells #[.int .u8 (x.toNat : Int)] 5)
    obtain ⟨W, hW⟩ : ∃ W, W = (((w1.setCell ⟨w.heap.size, 0, none⟩ (.bool false)).setCell ⟨w.heap.size, 1, none⟩ (.slice (some ⟨w1.heap.size, 0, none⟩) 1 1)).setCell ⟨w.heap.size, 2, none⟩ (.slice none 0 0)).alloc (.cells #[.int .u8 (x.toNat : Int)] 5) := ⟨_, rfl⟩
    rw [← hW] at hbx ⊢
    obtain ⟨r0, r1, r2⟩ := cells3 hbx.at_
    refine bodyPost_ret (v := .agg #[.bool false, .slice (some ⟨w1.heap.size, 0, none⟩) 1 1, .slice none 0 0]) (by simp [results, Try.results95, go_sem, r0, r1, r2]) rfl ?_
    rw [HR.out]
    refine Itemd.done (F := F0) (a2 := a2) (n2 := n2) (c2 := c2) hlt (fun _ => ⟨⟨_, _, rfl, ?_, SliceAt.nil _ _ _ _⟩, ?_⟩) ?_ ?_ hbx
    · refine BytesAt.carry (F := fun b => w1.heap.size ≤ b) ?_ (fun b _ hb => by omega) (fun _ _ _ => rfl)
      exact SliceAt.carry (F := fun b => b = w1.heap.size) ((OwnAt.lit' w1 5 x).at (fun g hg _ _ => by simp [Value.ownBlock] at hg; exact hg.symm) (by decide)) (by decide) (fun b _ hb => by omega) (fun _ _ _ => rfl) (fun _ _ _ h => h)
    · rw [← HFD.out]; exact BytesAt.below HS.out (Bel.alloc (Bel.refl w1) _)
    · rw [Below.heap_alloc _ _ _ (by omega)]; exact HK1.out
    · exact HCH1.out.alloc _
  · have hr1 : ¬ x.toNat < 128 := by omega
    by_cases h192 : (192 : Int) ≤ (x.toNat : Int)
    · have hr2 : ¬ x.toNat < 192 := by omega
      cases f with
      | zero =>
        have hr : rdItem 0 (x :: t) = (21, .text [], []) := by unfold rdItem; rw [if_neg hr1, if_neg hr2]
        have HR := Lib.hid hr
        have hd8 : ((deep : Int) == 8) = true := by simp; omega
        clear hr
        go_wp2_with fail
        refine (int_fail _ rb a2 n2 c2 _ 21 rfl HK1.out).mono ?_
        rintro e w2 ⟨rfl, g1, g2⟩
        have hb2 := (g2.block _ hsb (by omega)).trans HB1.out
        have G1 := Lib.hid g1
        have G2 := Lib.hid g2
        have HB2 := Lib.hid hb2
        clear g1 g2 q0 q1 q2 f0 f1 f2
        obtain ⟨q0, q1, q2⟩ := cells3 hb2
        have f0 := frozen_of_row w2 w.heap.size 0 _ _ hb2
        have f1 := frozen_of_row w2 w.heap.size 1 _ _ hb2
        have f2 := frozen_of_row w2 w.heap.size 2 _ _ hb2
        clear hb2
        go_wp2_with fail
        have hbx := box3 HB2.out (.bool false) (.slice none 0 0) (.slice none 0 0)
        obtain ⟨W, hW⟩ : ∃ W, W = ((w2.setCell ⟨w.heap.size, 0, none⟩ (.bool false)).setCell ⟨w.heap.size, 1, none⟩ (.slice none 0 0)).setCell ⟨w.heap.size, 2, none⟩ (.slice none 0 0) := ⟨_, rfl⟩
        rw [← hW] at hbx ⊢
        obtain ⟨r0, r1, r2⟩ := cells3 hbx.at_
        refine bodyPost_ret (v := .agg #[.bool false, .slice none 0 0, .slice none 0 0]) (by simp [results, Try.results95, go_sem, r0, r1, r2]) rfl ?_
        rw [HR.out]
        exact Itemd.done (F := F0) hlt (fun h => by cases h) G1.out (HCH1.out.trans G2.out (fun _ _ x => x)) hbx
      | succ f' =>
        obtain ⟨m, hm⟩ : ∃ m : Nat, x.toNat = m + 192 := ⟨x.toNat - 192, by omega⟩
        have hmi : (x.toNat : Int) - 192 = (m : Int) := by omega
        have hr : rdItem (f' + 1) (x :: t) = rdList (rdItem f') (readSize m t) := by
          rw [rdItem, if_neg hr1, if_neg hr2, hm, Nat.add_sub_cancel]
        have HR := Lib.hid hr
        have HM := Lib.hid hm
        have hd8 : ((deep : Int) == 8) = false := by simp; omega
        clear hr hm
        go_wp2_with fail
        refine (HLC.out f' rfl F _ rb a2 n2 c2 deep m t HS.out HK1.out hF hn2b (by omega) (by have := HM.out; omega)).mono ?_
        rintro e w2 ⟨l, b1, m1, d1, b3, m3, d3, b2, m2, d2, rfl, g0, g1, g2⟩
        have hb2 := (g2.block _ hsb (by omega)).trans HB1.out
        have G0 := Lib.hid g0
        have G1 := Lib.hid g1
        have G2 := Lib.hid g2
        have HB2 := Lib.hid hb2
        clear g0 g1 g2 q0 q1 q2 f0 f1 f2
        obtain ⟨q0, q1, q2⟩ := cells3 hb2
        have f0 := frozen_of_row w2 w.heap.size 0 _ _ hb2
        have f1 := frozen_of_row w2 w.heap.size 1 _ _ hb2
        have f2 := frozen_of_row w2 w.heap.size 2 _ _ hb2
        clear hb2
        go_wp2_with fail
        have hbx := box3 HB2.out (.bool l) (.slice b1 m1 d1) (.slice b3 m3 d3)
        obtain ⟨W, hW⟩ : ∃ W, W = ((w2.setCell ⟨w.heap.size, 0, none⟩ (.bool l)).setCell ⟨w.heap.size, 1, none⟩ (.slice b1 m1 d1)).setCell ⟨w.heap.size, 2, none⟩ (.slice b3 m3 d3) := ⟨_, rfl⟩
        rw [← hW] at hbx ⊢
        obtain ⟨r0, r1, r2⟩ := cells3 hbx.at_
        refine bodyPost_ret (v := .agg #[.bool l, .slice b1 m1 d1, .slice b3 m3 d3]) (by simp [results, Try.results95, go_sem, r0, r1, r2]) rfl ?_
        rw [HR.out]
        refine Itemd.done (F := F0) hlt (fun h => ?_) G1.out (HCH1.out.trans G2.out (fun _ _ x => x)) hbx
        obtain ⟨g3, g4⟩ := G0.out h
        exact ⟨g3.carry (fun b _ hb => by omega) (fun _ _ _ => rfl), by rw [← HFD.out]; exact g4⟩
    · obtain ⟨m, hm⟩ : ∃ m : Nat, x.toNat = m + 128 := ⟨x.toNat - 128, by omega⟩
      have hmi : (x.toNat : Int) - 128 = (m : Int) := by omega
      have hr : rdItem f (x :: t) = rdText (readSize m t) := by
        unfold rdItem; rw [if_neg hr1, if_pos (by omega), hm, Nat.add_sub_cancel]
      have hsl := readSize_le m t
      have HM := Lib.hid hm
      obtain ⟨e1, k, rest, hrs⟩ : ∃ e1 k rest, readSize m t = (e1, k, rest) := ⟨_, _, _, rfl⟩
      rw [hrs] at hr hsl
      have HR := Lib.hid hr
      have HRS := Lib.hid hrs
      have hk24 : k ≤ 16777215 := hsl.1
      have hrl : rest.length ≤ 70368744177664 := by have h2 : rest.length ≤ t.length := hsl.2; have := HN2.out; omega
      clear hr hm hrs hsl
      go_wp2_with fail
      refine (size_any F _ rb a2 n2 c2 m t HS.out HK1.out hF (by omega) (by have := HM.out; omega)).mono ?_
      rintro e w2 ⟨s1, s2, a3, n3, c3, s3, g1, g2⟩
      rw [HRS.out] at s1 s2 s3 g1
      have hb2 := (g2.block _ hsb (by omega)).trans HB1.out
      have hsb2 := (Array.getElem?_eq_some_iff.1 hb2).1
      have S3 := Lib.hid s3
      have G1 := Lib.hid g1
      have G2 := Lib.hid (HCH1.out.trans g2 (fun _ _ x => x))
      have HB2 := Lib.hid hb2
      clear g1 g2 s3 q0 q1 q2 f0 f1 f2 hcell
      obtain ⟨q0, q1, q2⟩ := cells3 hb2
      have f0 := frozen_of_row w2 w.heap.size 0 _ _ hb2
      have f1 := frozen_of_row w2 w.heap.size 1 _ _ hb2
      have f2 := frozen_of_row w2 w.heap.size 2 _ _ hb2
      clear hb2
      by_cases he1 : e1 = 0
      · subst he1
        obtain rfl := s1 rfl
        have s3 := S3.out rfl
        have hn3 : n3 = rest.length := by
          obtain ⟨a', c', hv, h1, -⟩ := s3
          simp only [Value.slice.injEq] at hv
          exact hv.2.1
        have hn3b : n3 ≤ 70368744177664 := by omega
        have HN3 := Lib.hid hn3
        have HS3 := Lib.hid s3
        clear s1 s2 s3 hn3
        go_wp2_with fail
        by_cases hkn : n3 < k
        · have HR2 : Hid (rdItem f (x :: t) = (22, .text [], [])) := by
            show _ = _
            rw [HR.out, rdText, if_neg (by simp), if_pos (by have := HN3.out; simp only; omega)]
          refine (take_no _ rb a3 n3 c3 _ G1.out (by omega)).mono ?_
          rintro e w3 ⟨rfl, g3, g4⟩
          have hb3 := (g4.block _ hsb2 (by omega)).trans HB2.out
          have hsb3 := (Array.getElem?_eq_some_iff.1 hb3).1
          have hrb3 := (Array.getElem?_eq_some_iff.1 g3).1
          have G3 := Lib.hid g3
          have G4 := Lib.hid (G2.out.trans g4 (fun _ _ x => x))
          have HB3 := Lib.hid hb3
          clear g3 g4 q0 q1 q2 f0 f1 f2 hb3
          go_wp2_with fail
          refine (cloneB_any F w3 (.slice none 0 0) [] (BytesAt.nil _ _) (by simp)).mono ?_
          rintro e w4 ⟨v4, rfl, ho4, hb4⟩
          obtain ⟨a4, c4, rfl, -, -, -⟩ := ho4.len
          obtain ⟨n4, hn4⟩ : ∃ n4, n4 = ([] : List UInt8).length := ⟨_, rfl⟩
          rw [← hn4]
          have hb4' := (hb4.block _ hsb3).trans HB3.out
          have G5 := Lib.hid ((hb4.block _ hrb3).trans G3.out)
          have G6 := Lib.hid (G4.out.trans (Chg.ofBelow hb4 (fun k => k = rb)) (fun _ _ x => x))
          have HB4 := Lib.hid hb4'
          obtain ⟨q0, q1, q2⟩ := cells3 hb4'
          have f0 := frozen_of_row w4 w.heap.size 0 _ _ hb4'
          have f1 := frozen_of_row w4 w.heap.size 1 _ _ hb4'
          have f2 := frozen_of_row w4 w.heap.size 2 _ _ hb4'
          clear hb4 hb4' ho4 hn4
          go_wp2_with fail
          have hbx := box3 HB4.out (.bool false) (.slice a4 n4 c4) (.slice none 0 0)
          obtain ⟨W, hW⟩ : ∃ W, W = ((w4.setCell ⟨w.heap.size, 0, none⟩ (.bool false)).setCell ⟨w.heap.size, 1, none⟩ (.slice a4 n4 c4)).setCell ⟨w.heap.size, 2, none⟩ (.slice none 0 0) := ⟨_, rfl⟩
          rw [← hW] at hbx ⊢
          obtain ⟨r0, r1, r2⟩ := cells3 hbx.at_
          refine bodyPost_ret (v := .agg #[.bool false, .slice a4 n4 c4, .slice none 0 0]) (by simp [results, Try.results95, go_sem, r0, r1, r2]) rfl ?_
          rw [HR2.out]
          exact Itemd.done (F := F0) hlt (fun h => by cases h) G5.out G6.out hbx
        · have HR2 : Hid (rdItem f (x :: t) = if k = 1 ∧ (rest.headD 0).toNat < 128 then (23, .text [], []) else (0, .text (rest.take k), rest.drop k)) := by
            show _ = _
            rw [HR.out, rdText, if_neg (by simp), if_neg (by have := HN3.out; simp only; omega)]
          refine (take_ok F _ rb a3 n3 c3 k rest HS3.out G1.out hF (by omega) (by omega)).mono ?_
          rintro e w3 ⟨b1, d1, b2, m2, d2, rfl, hu, hs, g3, g4⟩
          have hb3 := (g4.block _ hsb2 (by omega)).trans HB2.out
          have hsb3 := (Array.getElem?_eq_some_iff.1 hb3).1
          have hrb3 := (Array.getElem?_eq_some_iff.1 g3).1
          have G3 := Lib.hid g3
          have G4 := Lib.hid (G2.out.trans g4 (fun _ _ x => x))
          have HB3 := Lib.hid hb3
          have HS3' := Lib.hid hs
          have HU3 := Lib.hid hu
          have htl : (rest.take k).length ≤ 70368744177664 := by rw [List.length_take]; omega
          have hcase : (k = 1 ∧ ∃ g o y, b1 = some ⟨g, o, none⟩ ∧ w3.cell? ⟨g, o, none⟩ = some (.int .u8 ((y : UInt8).toNat : Int)) ∧ rest.headD 0 = y) ∨ ((k : Int) == 1) = false := by
            by_cases hk1 : k = 1
            · left
              refine ⟨hk1, ?_⟩
              subst hk1
              cases rest with
              | nil => have := HN3.out; simp at this; omega
              | cons y r =>
                simp only [List.take_succ_cons, List.take_zero] at hu
                rcases SliceAt.split hu with ⟨hh, _⟩ | ⟨g, o, rfl, -, -, -⟩
                · cases hh
                · have := BytesAt.cell hu 0 (by simp)
                  exact ⟨g, o, y, rfl, by simpa using this, rfl⟩
            · right; simp; omega
          clear g3 g4 q0 q1 q2 f0 f1 f2 hs hu
          by_cases hbad : k = 1 ∧ (rest.headD 0).toNat < 128
          · rcases hcase with ⟨rfl, g, o, y, rfl, hc, hy⟩ | hk1
            · have hy128 : (y.toNat : Int) < 128 := by have := hbad.2; rw [hy] at this; omega
              have HR3 : Hid (rdItem f (x :: t) = (23, .text [], [])) := by show _ = _; rw [HR2.out, if_pos hbad]
              clear hbad hy
              go_wp2_with fail
              refine (int_fail _ rb b2 m2 d2 _ 23 rfl G3.out).mono ?_
              rintro e w4 ⟨rfl, g5, g6⟩
              have hb4' := (g6.block _ hsb3 (by omega)).trans HB3.out
              have G5 := Lib.hid g5
              have G6 := Lib.hid (G4.out.trans g6 (fun _ _ x => x))
              have HB4 := Lib.hid hb4'
              obtain ⟨q0, q1, q2⟩ := cells3 hb4'
              have f0 := frozen_of_row w4 w.heap.size 0 _ _ hb4'
              have f1 := frozen_of_row w4 w.heap.size 1 _ _ hb4'
              have f2 := frozen_of_row w4 w.heap.size 2 _ _ hb4'
              clear hb4' g5 g6
              go_wp2_with fail
              have hbx := box3 HB4.out (.bool false) (.slice none 0 0) (.slice none 0 0)
              obtain ⟨W, hW⟩ : ∃ W, W = ((w4.setCell ⟨w.heap.size, 0, none⟩ (.bool false)).setCell ⟨w.heap.size, 1, none⟩ (.slice none 0 0)).setCell ⟨w.heap.size, 2, none⟩ (.slice none 0 0) := ⟨_, rfl⟩
              rw [← hW] at hbx ⊢
              obtain ⟨r0, r1, r2⟩ := cells3 hbx.at_
              refine bodyPost_ret (v := .agg #[.bool false, .slice none 0 0, .slice none 0 0]) (by simp [results, Try.results95, go_sem, r0, r1, r2]) rfl ?_
              rw [HR3.out]
              exact Itemd.done (F := F0) hlt (fun h => by cases h) G5.out G6.out hbx
            · simp at hk1; omega
          · have HR3 : Hid (rdItem f (x :: t) = (0, .text (rest.take k), rest.drop k)) := by show _ = _; rw [HR2.out, if_neg hbad]
            have hcase2 : (k = 1 ∧ ∃ g o y, b1 = some ⟨g, o, none⟩ ∧ w3.cell? ⟨g, o, none⟩ = some (.int .u8 ((y : UInt8).toNat : Int)) ∧ ¬ (y.toNat : Int) < 128) ∨ ((k : Int) == 1) = false := by
              rcases hcase with ⟨hk1, g, o, y, hb, hc, hy⟩ | hk1
              · exact .inl ⟨hk1, g, o, y, hb, hc, fun h => hbad ⟨hk1, by rw [hy]; omega⟩⟩
              · exact .inr hk1
            clear hcase hbad
            obtain ⟨L, hL⟩ : ∃ L, L = rest.take k := ⟨_, rfl⟩
            rw [← hL] at HU3 HR3 htl
            clear hL
            rcases hcase2 with ⟨rfl, g, o, y, rfl, hc, hy⟩ | hk1
            all_goals
              go_wp2_with fail
              refine (cloneB_any F w3 _ L HU3.out htl).mono ?_
              rintro e w4 ⟨v4, rfl, ho4, hb4⟩
              obtain ⟨a4, c4, rfl, -, -, -⟩ := ho4.len
              have HO4 := Lib.hid ho4
              have hb4' := (hb4.block _ hsb3).trans HB3.out
              have G5 := Lib.hid ((hb4.block _ hrb3).trans G3.out)
              have G6 := Lib.hid (G4.out.trans (Chg.ofBelow hb4 (fun k => k = rb)) (fun _ _ x => x))
              have HS4 := Lib.hid (BytesAt.below HS3'.out hb4)
              have HB4 := Lib.hid hb4'
              obtain ⟨q0, q1, q2⟩ := cells3 hb4'
              have f0 := frozen_of_row w4 w.heap.size 0 _ _ hb4'
              have f1 := frozen_of_row w4 w.heap.size 1 _ _ hb4'
              have f2 := frozen_of_row w4 w.heap.size 2 _ _ hb4'
              clear hb4 hb4' ho4
              obtain ⟨n4, hn4⟩ : ∃ n4, n4 = L.length := ⟨_, rfl⟩
              rw [← hn4] at HO4 ⊢
              clear hn4
              go_wp2_with fail
              have hbx := box3 HB4.out (.bool false) (.slice a4 n4 c4) (.slice none 0 0)
              obtain ⟨W, hW⟩ : ∃ W, W = ((w4.setCell ⟨w.heap.size, 0, none⟩ (.bool false)).setCell ⟨w.heap.size, 1, none⟩ (.slice a4 n4 c4)).setCell ⟨w.heap.size, 2, none⟩ (.slice none 0 0) := ⟨_, rfl⟩
              rw [← hW] at hbx ⊢
              obtain ⟨r0, r1, r2⟩ := cells3 hbx.at_
              refine bodyPost_ret (v := .agg #[.bool false, .slice a4 n4 c4, .slice none 0 0]) (by simp [results, Try.results95, go_sem, r0, r1, r2]) rfl ?_
              rw [HR3.out]
              exact Itemd.done (F := F0) hlt (fun _ => ⟨⟨_, _, rfl, HO4.out.at (fun g _ hg _ => by omega) (by decide), SliceAt.nil _ _ _ _⟩, by rw [← HFD.out]; exact HS4.out⟩) G5.out G6.out hbx
      · obtain rfl := s2 he1
        have HR2 : Hid (rdItem f (x :: t) = (e1, .text [], [])) := by
          show _ = _
          rw [HR.out, rdText, if_pos he1]
        clear s1 s2
        go_wp2_with fail
        have hbx := box3 HB2.out (.bool false) (.slice none 0 0) (.slice none 0 0)
        obtain ⟨W, hW⟩ : ∃ W, W = ((w2.setCell ⟨w.heap.size, 0, none⟩ (.bool false)).setCell ⟨w.heap.size, 1, none⟩ (.slice none 0 0)).setCell ⟨w.heap.size, 2, none⟩ (.slice none 0 0) := ⟨_, rfl⟩
        rw [← hW] at hbx ⊢
        obtain ⟨r0, r1, r2⟩ := cells3 hbx.at_
        refine bodyPost_ret (v := .agg #[.bool false, .slice none 0 0, .slice none 0 0]) (by simp [results, Try.results95, go_sem, r0, r1, r2]) rfl ?_
        rw [HR2.out]
        exact Itemd.done (F := F0) hlt (fun h => absurd h he1) G1.out G2.out hbx
end Go.Proofs.Ytndkkgkcbbmnpaa
namespace Go.Pg
open Go.RowKit
section
variable {α : Type}
theorem OwnAt.drew' {w : World} {base : Nat} {e : TypeId} {sz : Nat} {R : List Value → α → Prop} {v : Value} {l : List α} (h : OwnAt w base e sz R v l) : OwnAt w.drew base e sz R v l := h.carry (fun _ _ _ _ => rfl)
theorem SliceAt.drew' {F : Nat → Prop} {w : World} {sz : Nat} {R : List Value → α → Prop} {v : Value} {l : List α} (h : SliceAt F w sz R v l) (hsz : 0 < sz) : SliceAt F w.drew sz R v l := h.carry hsz (fun _ _ x => x) (fun _ _ _ => rfl) (fun _ _ _ h => h)
/-- append of a list that is not empty, as one step of a region: the new value is written out -/
theorem step_append_at {P : Program} {ops : Array Oper} {o : Oper} {a : Act} {w : World} {K : Act → World → Prop} {Q : Exit → Act → World → Prop} {E : Prop} (hgd : o.guard = none) (s x : Operand) (t : TypeId)
    (ho : o.op = .call { callee := .builtin .append, args := #[s, x], argTypes := #[t, t] })
    (base : Nat) (e : TypeId) (i : TypeInfo) (z : Value) (sz bytes : Nat) (ht : P.underlying t = some (.slice e)) (hi : P.info? e = some i) (hz : i.zero = some z)
    (hsize : i.size = sz) (hby : i.bytes = bytes) (hzs : z.cells.size = sz) (hsz : 0 < sz) (hb0 : 0 < bytes)
    {R : List Value → α → Prop} (hR1 : ∀ cs x, R cs x → ∀ u ∈ cs, u.oneCell' = true)
    (v : Value) (l : List α) (hs : a.eval s = v) (hown : OwnAt w base e sz R v l)
    (u : Value) (m : List α) (F : Nat → Prop) (hx : a.eval x = u) (hsrc : SliceAt F w sz R u m) (hm0 : 0 < m.length)
    (hbytes : (l.length + m.length) * bytes ≤ 140737488355328) (hbase : base ≤ w.heap.size) (n' : Nat) (hn' : l.length + m.length = n')
    (h : ∀ g cap w', OwnAt w' base e sz R (.slice (some ⟨g, 0, none⟩) n' cap) (l ++ m) → w.grownBy w' v.ownBlock → Moved w v (.slice (some ⟨g, 0, none⟩) n' cap) →
      K (a.put o.dst (.slice (some ⟨g, 0, none⟩) n' cap)) w') :
    if Region.wanted o (yielded ops a.tmps) = true then Oper.wp P o a w K Q else E := by
  have hw : Region.wanted o (yielded ops a.tmps) = true := by simp [Region.wanted, hgd]
  rw [if_pos hw]
  obtain ⟨xs, h1, h2⟩ := hown
  have h63 : l.length + m.length ≤ maxLen := by
    have : l.length + m.length ≤ (l.length + m.length) * bytes := Nat.le_mul_of_pos_right _ hb0
    unfold maxLen; omega
  rcases SliceAt.cases hsrc with ⟨rfl, -⟩ | ⟨b, off, c, hv, hl, hc, hm, hF⟩
  · simp at hm0
  · subst hv
    obtain ⟨news, k1, k2⟩ := SliceAt.rows hsrc
    have hcell : ∀ j u, news[j]? = some u → w.cell? ((⟨b, off, none⟩ : Addr).add j) = some u := fun j u hu => by
      have : (⟨b, off, none⟩ : Addr).add j = ⟨b, off + j, none⟩ := by unfold Addr.add; split <;> simp_all
      rw [this]; exact k2 j u hu
    obtain ⟨v', w', r1, r2, r3, r4⟩ := run_append_where (P := P) w base t o.type e i z sz bytes ht hi hz hsize hby hzs hsz v l.length xs h1 ⟨b, off, none⟩ m.length c news k1.1 hcell (k1.each hsz _ hR1) h63 hbytes hbase
    unfold Oper.wp execOp
    simp only [ho, resolve, invoke, builtin, Sem.run_bind, Sem.run_pure, Result.andThen_ok, List.map_toArray, List.map_cons, List.map_nil, hs, hx, r1]
    rcases r2.2 with ⟨_, h0⟩ | ⟨g, cap, cur, rfl, rest⟩
    · omega
    · subst hn'; exact h g cap w' ⟨xs ++ news, by simpa using r2, h2.append k1⟩ r3 r4
end
end Go.Pg
namespace Go.Pg
open Go.RowKit
/-- an item, or three cells of its make -/
def OItem (d : Nat) (F : Nat → Prop) (w : World) (cs : List Value) : Option It → Prop
  | some x => ItemAt F w d cs x
  | none => ∃ l a n c a' n' c', cs = [.bool l, .slice a n c, .slice a' n' c']
theorem carriedO (d : Nat) : Carried (OItem d) := by
  refine ⟨fun {F F' w w' cs x} h hF hb => ?_, fun {F w} cs x h => ?_⟩
  · cases x with
    | some x => exact ItemAt.carry hF hb d cs x h
    | none => exact h
  · cases x with
    | some x => exact ItemAt.one d cs x h
    | none =>
      obtain ⟨l, a, n, c, a', n', c', rfl⟩ := h
      intro u hu
      simp at hu
      rcases hu with rfl | rfl | rfl <;> rfl
/-- reading an item takes at least a byte -/
theorem rdText_rest (t : List UInt8) (r : Nat × Nat × List UInt8) (h : r.2.2.length ≤ t.length) : (rdText r).2.2.length ≤ t.length := by
  unfold rdText
  split
  · simp
  · split
    · simp
    · split
      · simp
      · simp; omega
theorem rdList_rest (rd : List UInt8 → Nat × It × List UInt8) (t : List UInt8) (r : Nat × Nat × List UInt8) (h : r.2.2.length ≤ t.length) : (rdList rd r).2.2.length ≤ t.length := by
  unfold rdList
  split
  · simp
  · split
    · simp
    · split
      · simp
      · simp; omega
theorem rdItem_rest (f : Nat) (c : UInt8) (t : List UInt8) : (rdItem f (c :: t)).2.2.length ≤ t.length := by
  by_cases h1 : c.toNat < 128
  · have : rdItem f (c :: t) = (0, .text [c], t) := by unfold rdItem; rw [if_pos h1]
    rw [this]; exact Nat.le_refl _
  · by_cases h2 : c.toNat < 192
    · have : rdItem f (c :: t) = rdText (readSize (c.toNat - 128) t) := by unfold rdItem; rw [if_neg h1, if_pos h2]
      rw [this]; exact rdText_rest t (readSize (c.toNat - 128) t) (readSize_le _ _).2
    · cases f with
      | zero =>
        have : rdItem 0 (c :: t) = (21, .text [], []) := by unfold rdItem; rw [if_neg h1, if_neg h2]
        rw [this]; exact Nat.zero_le _
      | succ f =>
        have : rdItem (f + 1) (c :: t) = rdList (rdItem f) (readSize (c.toNat - 192) t) := by rw [rdItem, if_neg h1, if_neg h2]
        rw [this]; exact rdList_rest (rdItem f) t (readSize (c.toNat - 192) t) (readSize_le _ _).2
/-- how far a list's reading has come: what was gathered, the fault, the bytes behind -/
def ListSt (f K : Nat) (L : List UInt8) (os : List (Option It)) (e : Nat) (rest : List UInt8) : Prop :=
  (e = 0 → ∃ j its, os = its.map some ∧ rest.length ≤ j ∧ (rdAll (rdItem f) K L).1 = (rdAll (rdItem f) j rest).1 ∧ (rdAll (rdItem f) K L).2 = its ++ (rdAll (rdItem f) j rest).2) ∧
    (e ≠ 0 → (rdAll (rdItem f) K L).1 = e)
theorem ListSt.start (f : Nat) (K : Nat) (L : List UInt8) (h : L.length ≤ K) : ListSt f K L [] 0 L :=
  ⟨fun _ => ⟨K, [], rfl, h, rfl, rfl⟩, fun h => absurd rfl h⟩
theorem ListSt.step {f K : Nat} {L : List UInt8} {os : List (Option It)} {c : UInt8} {t : List UInt8} (h : ListSt f K L os 0 (c :: t)) :
    ListSt f K L (os ++ [if (rdItem f (c :: t)).1 = 0 then some (rdItem f (c :: t)).2.1 else none]) (rdItem f (c :: t)).1 (rdItem f (c :: t)).2.2 := by
  obtain ⟨j, its, h1, h2, h3, h4⟩ := h.1 rfl
  have hr := rdItem_rest f c t
  cases j with
  | zero => simp at h2
  | succ j =>
    simp only [rdAll] at h3 h4
    rw [if_neg (by simp)] at h3 h4
    refine ⟨fun h0 => ?_, fun hn => ?_⟩
    · rw [if_neg (by simp [h0])] at h3 h4
      refine ⟨j, its ++ [(rdItem f (c :: t)).2.1], by rw [if_pos h0, h1]; simp, by simp at h2; omega, h3, by rw [h4]; simp⟩
    · rw [if_pos hn] at h3
      exact h3
theorem ListSt.done {f K : Nat} {L : List UInt8} {os : List (Option It)} (h : ListSt f K L os 0 []) : (rdAll (rdItem f) K L).1 = 0 ∧ os = (rdAll (rdItem f) K L).2.map some := by
  obtain ⟨j, its, h1, h2, h3, h4⟩ := h.1 rfl
  have : rdAll (rdItem f) j [] = (0, []) := by cases j <;> simp [rdAll]
  rw [this] at h3 h4
  exact ⟨h3, by rw [h4]; simpa using h1⟩
end Go.Pg
namespace Go.Pg
open Go.RowKit
/-- texts as an item -/
def textsI (l : List (List UInt8)) : It := .list (l.map .text)
theorem blk_setCell {w : World} {g i : Nat} {cs : Array Value} {t : TypeId} {v : Value} (hg : w.heap[g]? = some (.cells cs t (0, 0))) :
    (w.setCell ⟨g, i, none⟩ v).heap[g]? = some (.cells (cs.setIfInBounds i v) t (0, 0)) := heap_setCell_same w g i cs t v hg
end Go.Pg
namespace Go.Proofs.Ytndkkgkcbbmnpaa
open Go.RowKit Go.Pg

set_option maxRecDepth 100000 in
set_option maxHeartbeats 1000000 in
theorem texts_any (F : Nat → Prop) (w : World) (v : Value) (l : List (List UInt8)) (h : RowsAt F w v l) (hl : l.length ≤ 1099511627776) (hlen : ∀ x ∈ l, x.length ≤ 70368744177664) :
    Calls Try.prog 43 #[v] w fun e w' => ∃ v2, e = .returned (.agg #[.bool true, .slice none 0 0, v2]) ∧ ItemAt (fun b => w.heap.size ≤ b) w' 2 [.bool true, .slice none 0 0, v2] (textsI l) ∧ Below w.heap.size w w' := by
  obtain ⟨a, c, rfl, -, -, -⟩ := SliceAt.len h
  obtain ⟨i0, hi, hz0, hz1, hz2⟩ := info_parts infoItem
  obtain ⟨n, hn⟩ : ∃ n, n = l.length := ⟨_, rfl⟩
  rw [← hn] at h hl ⊢
  have HN := Lib.hid hn
  have HLEN := Lib.hid hlen
  clear hn hlen
  go_enter Try.func43, Try.ntmps43
  go_wp2
  go_loopw [3, 5, 8] (fun s b i wr => ∃ k : Nat, k ≤ n ∧ i = .int .i64 k ∧ Hid (OwnList (fun F w cs x => ItemAt F w 1 cs x) (fun b => w.heap.size < b) (w.heap.size + 1) wr 65 3 s ((l.take k).map .text)) ∧
      Hid (Below w.heap.size w wr ∧ wr.heap[w.heap.size]? = some (.cells #[.bool false, .slice none 0 0, .slice none 0 0] 65 (0, 0)))) (fun _ _ i _ => n - (intOf i).toNat)
  case atStart => exact ⟨0, Nat.zero_le _, rfl, OwnList.nil, Bel.alloc (Bel.refl w) _, heap_alloc_new w _⟩
  case round =>
    obtain ⟨k, hk, rfl, HO, HB⟩ := hrel
    have hN := HN.out
    by_cases hlt : k < n
    · rcases SliceAt.split h with ⟨_, h0⟩ | ⟨b, o, rfl, -, -, -⟩
      · omega
      have hwr := RowsAt.below h HB.out.1
      obtain ⟨u, c1, t1⟩ := RowsAt.cell hwr k (by omega)
      have hxl := HLEN.out _ (List.getElem_mem (show k < l.length by omega))
      have htk : (l.take (k + 1)).map It.text = (l.take k).map It.text ++ [It.text (l[k]'(by omega))] := by
        rw [List.take_succ_eq_append_getElem (show k < l.length by omega), List.map_append]; rfl
      obtain ⟨x, hx⟩ : ∃ x, x = l[k]'(by omega) := ⟨_, rfl⟩
      rw [← hx] at t1 hxl htk
      have HT := Lib.hid htk
      obtain ⟨L, hL⟩ : ∃ L, L = (l.take k).map It.text := ⟨_, rfl⟩
      rw [← hL] at HO HT
      have hLl : L.length = k := by rw [hL]; simp; omega
      have HLL := Lib.hid hLl
      clear hwr hx htk hL hLl hN
      go_wp2_with fail
      refine (text_any F wr u x t1 hxl).mono ?_
      rintro e w1 ⟨v1, rfl, hit, hb1⟩
      obtain ⟨-, a1, m1, d1, a2, m2, d2, e1, e2, -, -⟩ := ItemAt.form hit
      simp only [Value.slice.injEq] at e2
      obtain ⟨rfl, rfl, rfl⟩ := e2
      subst e1
      have HB1 : Hid (Below w.heap.size w w1 ∧ w1.heap[w.heap.size]? = some (.cells #[.bool false, .slice none 0 0, .slice none 0 0] 65 (0, 0))) :=
        ⟨Bel.call HB.out.1 hb1, by rw [hb1.block _ (Array.getElem?_eq_some_iff.1 HB.out.2).1]; exact HB.out.2⟩
      have hO1 := (HO.out).call (carriedItem 1) hb1
      have hsw := (Array.getElem?_eq_some_iff.1 HB.out.2).1
      have hs1 := hb1.size
      have howr := (HO.out).own
      obtain ⟨R, hR1, hRo, hRs, hRn⟩ := hO1.push (carriedItem 1) hit rfl (by decide) (fun b _ hb => ⟨by omega, fun e => by have := (howr b e).2; omega⟩) 65
      have hle : (L.length + [It.text x].length) * 56 ≤ 140737488355328 := by rw [HLL.out]; simp; omega
      have hbase : w.heap.size + 1 ≤ (w1.alloc (.cells [.bool false, .slice a1 m1 d1, .slice none 0 0].toArray 65)).heap.size := by simp; omega
      have HRN := Lib.hid hRn
      have HRO := Lib.hid hRo
      have HRS := Lib.hid hRs
      have HR1 := Lib.hid hR1
      clear hRn hO1 hb1 hit howr hRo hRs hR1 hs1 hsw t1 c1
      go_wp2_with (at_builtin; refine wpList_append_at rfl (.tmp 12) (.tmp 15) 63 rfl (w.heap.size + 1) 65 i0 (.agg #[.bool false, .slice none 0 0, .slice none 0 0]) 3 56 underlyingItems hi hz0 hz1 hz2 rfl (by decide) (by decide) HR1.out _ L rfl HRO.out _ [It.text x] (fun _ => True) rfl HRS.out hle hbase ?_; intro v' w2 ho hg hm)
      have HOn := Lib.hid (HRN.out _ _ ho hg hm)
      have hown := (HRO.out).own
      have HB2 : Hid (Below w.heap.size w w2 ∧ w2.heap[w.heap.size]? = some (.cells #[.bool false, .slice none 0 0, .slice none 0 0] 65 (0, 0))) := by
        have hb1 := HB1.out.1
        have hbx := HB1.out.2
        have hlt' := (Array.getElem?_eq_some_iff.1 hbx).1
        refine ⟨(Bel.alloc hb1 _).grown hg (by simp; omega) (fun k hk => by have := (hown k hk).1; omega), ?_⟩
        rw [hg.block _ (by simp; omega) (fun e => by have := (hown _ e.symm).1; omega), Below.heap_alloc _ _ _ hlt']
        exact hbx
      clear ho hg hm hown
      go_roundw
      case rel => exact ⟨k + 1, by omega, num_eq (by omega), by rw [HT.out]; exact HOn.out, HB2.out⟩
      case measure => simp [intOf]; omega
    · obtain rfl : k = n := by omega
      have hO := HO.out
      rw [List.take_of_length_le (by omega)] at hO
      have hits := hO.at (carriedItem 1) (G' := fun b => w.heap.size < b) (fun _ h _ => h) (fun b h _ => by omega) (by decide)
      have hll : (l.map It.text).length ≤ 1099511627776 := by simp; omega
      have hsw := (Array.getElem?_eq_some_iff.1 HB.out.2).1
      clear hO hN
      go_wp2_with fail
      refine (list_any _ wr _ 1 _ hits hll).mono ?_
      rintro e w1 ⟨v2, rfl, hit, hb1⟩
      obtain ⟨-, a1, m1, d1, a2, m2, d2, e1, e2, -, -⟩ := ItemAt.form hit
      simp only [Value.slice.injEq] at e1
      obtain ⟨rfl, rfl, rfl⟩ := e1
      subst e2
      have hkk : w1.heap[w.heap.size]? = some (.cells #[.bool false, .slice none 0 0, .slice none 0 0] 65 (0, 0)) := by rw [hb1.block _ hsw]; exact HB.out.2
      obtain ⟨q0, q1, q2⟩ := cells3 hkk
      have f0 := frozen_of_row w1 w.heap.size 0 _ _ hkk
      have f1 := frozen_of_row w1 w.heap.size 1 _ _ hkk
      have f2 := frozen_of_row w1 w.heap.size 2 _ _ hkk
      have HK := Lib.hid hkk
      have HB1 := Lib.hid hb1
      clear hkk hb1
      go_wp2_with fail
      obtain ⟨W, hW⟩ : ∃ W, W = ((w1.setCell ⟨w.heap.size, 0, none⟩ (.bool true)).setCell ⟨w.heap.size, 1, none⟩ (.slice none 0 0)).setCell ⟨w.heap.size, 2, none⟩ (.slice a2 m2 d2) := ⟨_, rfl⟩
      have hWk : W.heap[w.heap.size]? = some (.cells #[.bool true, .slice none 0 0, .slice a2 m2 d2] 65 (0, 0)) := by
        rw [hW]; exact blk_setCell (blk_setCell (blk_setCell HK.out))
      rw [← hW]
      obtain ⟨r0, r1, r2⟩ := cells3 hWk
      refine bodyPost_ret (v := .agg #[.bool true, .slice none 0 0, .slice a2 m2 d2]) (by simp [results, Try.results43, go_sem, r0, r1, r2]) rfl ?_
      have hbel : Below w.heap.size w W := by
        rw [hW]
        exact (((Bel.call HB.out.1 HB1.out).setCell (Nat.le_refl _) _).setCell (Nat.le_refl _) _).setCell (Nat.le_refl _) _
      refine ⟨_, rfl, ?_, hbel⟩
      refine hit.carry (fun b _ hb => by rcases hb with hb | hb <;> omega) (fun b hb hlt' => ?_)
      have hne : b ≠ w.heap.size := by rcases hb with hb | hb <;> omega
      rw [hW, Below.heap_setCell _ _ _ _ hne, Below.heap_setCell _ _ _ _ hne, Below.heap_setCell _ _ _ _ hne]

end Go.Proofs.Ytndkkgkcbbmnpaa
