/-
  Contracts of nest.write (whole), slices.Clone at bytes and at items, nest.Text, nest.List.
-/
import Derived.Test.YtndkkgkcbbmnpaaNestB
namespace Go.Proofs.Ytndkkgkcbbmnpaa
open Go.RowKit Go.Pg

theorem write_any (d : Nat) : WriteC d := by
  induction d with
  | zero => intro F w base x l v1 v2 v bs _ _ h; exact h.elim
  | succ d ih =>
    intro F w base x l v1 v2 v bs hb hF h hown hlen
    by_cases hp : x.plain = true
    · exact write_plain F w base x l v1 v2 v bs hb hF h hown hlen hp
    · exact write_long ih F w base x l v1 v2 v bs hb hF h hown hlen (by simpa using hp)

theorem cloneB_nil (w : World) :
    Calls Try.prog 79 #[.slice none 0 0] w fun e w' => e = .returned (.slice none 0 0) ∧ w = w' := by
  have heq := fun w a n c => Lib.run_eql_slice_nil (P := Try.prog) w 25 5 a n c 0 0 underlying25
  go_enter Try.func79, Try.ntmps79
  go_wp2
  go_ret
  exact ⟨rfl, rfl⟩

set_option maxHeartbeats 400000 in
theorem cloneB_some (F : Nat → Prop) (w : World) (a : Addr) (n c : Nat) (bs : List UInt8) (h : BytesAt F w (.slice (some a) n c) bs) (hlen : bs.length ≤ 70368744177664) :
    Calls Try.prog 79 #[.slice (some a) n c] w fun e w' => ∃ v', e = .returned v' ∧ OwnAt w' w.heap.size 5 1 byteR v' bs ∧ Below w.heap.size w w' := by
  obtain ⟨i0, hi, hz0, hz1, hz2⟩ := info_parts infoU8
  have hown : OwnAt (w.alloc (.cells #[] 5)) w.heap.size 5 1 byteR (.slice (some ⟨w.heap.size, 0, none⟩) 0 0) ([] : List UInt8) :=
    ⟨[], World.ownsRow_made w #[] 0 (Nat.le_refl _) (by decide) rfl, Rows.nil _ _⟩
  have hsrc : BytesAt F (w.alloc (.cells #[] 5)) (.slice (some a) n c) bs := BytesAt.below h (Bel.alloc (Bel.refl w) _)
  have hle : (([] : List UInt8).length + bs.length) * 1 ≤ 140737488355328 := by simp; omega
  have hb : w.heap.size ≤ (w.alloc (.cells #[] 5)).heap.size := by simp
  have heq := fun w a n c => Lib.run_eql_slice_nil (P := Try.prog) w 25 5 a n c 0 0 underlying25
  go_enter Try.func79, Try.ntmps79
  go_wp2_with (at_builtin; refine wpList_append_at rfl (.tmp 5) (.tmp 6) 25 rfl w.heap.size 5 i0 (.int .u8 0) 1 1 underlying25 hi hz0 hz1 hz2 rfl (by decide) (by decide) byteR.one _ [] rfl hown _ bs F rfl hsrc hle hb ?_; intro v' w2 ho hg hw)
  go_ret
  exact ⟨v', rfl, by simpa using ho, (Bel.alloc (Bel.refl w) _).grown hg hb (fun k hk => (hown.own k hk).1)⟩

theorem underlyingItems : Try.prog.underlying 63 = some (.slice 65) := Try.underlying63
theorem infoItem : (Try.prog.info? 65).map (fun i => (i.zero, i.size, i.bytes)) = some (some (.agg #[.bool false, .slice none 0 0, .slice none 0 0]), 3, 56) := by kernel_rfl

theorem cloneI_nil (w : World) :
    Calls Try.prog 72 #[.slice none 0 0] w fun e w' => e = .returned (.slice none 0 0) ∧ w = w' := by
  have heq := fun w a n c => Lib.run_eql_slice_nil (P := Try.prog) w 63 65 a n c 0 0 underlyingItems
  go_enter Try.func72, Try.ntmps72
  go_wp2
  go_ret
  exact ⟨rfl, rfl⟩

set_option maxHeartbeats 400000 in
theorem cloneI_some (F : Nat → Prop) (w : World) (a : Addr) (n c : Nat) (d : Nat) (l : List It) (h : ItemsAt F w d (.slice (some a) n c) l) (hlen : l.length ≤ 1099511627776) :
    Calls Try.prog 72 #[.slice (some a) n c] w fun e w' => ∃ v', e = .returned v' ∧ OwnAt w' w.heap.size 65 3 (ItemAt F w d) v' l ∧ Below w.heap.size w w' := by
  obtain ⟨i0, hi, hz0, hz1, hz2⟩ := info_parts infoItem
  have hown : OwnAt (w.alloc (.cells #[] 65)) w.heap.size 65 3 (ItemAt F w d) (.slice (some ⟨w.heap.size, 0, none⟩) 0 0) ([] : List It) :=
    ⟨[], World.ownsRow_made w #[] 0 (Nat.le_refl _) (by decide) rfl, Rows.nil _ _⟩
  have hsrc : SliceAt F (w.alloc (.cells #[] 65)) 3 (ItemAt F w d) (.slice (some a) n c) l :=
    SliceAt.carry h (by decide) (fun _ _ x => x) (fun b _ hlt => Below.heap_alloc _ _ _ hlt) (fun _ _ _ h => h)
  have hle : (([] : List It).length + l.length) * 56 ≤ 140737488355328 := by simp; omega
  have hb : w.heap.size ≤ (w.alloc (.cells #[] 65)).heap.size := by simp
  have heq := fun w a n c => Lib.run_eql_slice_nil (P := Try.prog) w 63 65 a n c 0 0 underlyingItems
  go_enter Try.func72, Try.ntmps72
  go_wp2_with (at_builtin; refine wpList_append_at rfl (.tmp 5) (.tmp 6) 63 rfl w.heap.size 65 i0 (.agg #[.bool false, .slice none 0 0, .slice none 0 0]) 3 56 underlyingItems hi hz0 hz1 hz2 rfl (by decide) (by decide) (ItemAt.one d) _ [] rfl hown _ l F rfl hsrc hle hb ?_; intro v' w2 ho hg hw)
  go_ret
  exact ⟨v', rfl, by simpa using ho, (Bel.alloc (Bel.refl w) _).grown hg hb (fun k hk => (hown.own k hk).1)⟩

/-- a slice in new memory -/
def Fresh {α : Type} (w : World) (e : TypeId) (sz : Nat) (R : List Value → α → Prop) (l : List α) (en : Ending) (w' : World) : Prop :=
  ∃ v', en = .returned v' ∧ OwnAt w' w.heap.size e sz R v' l ∧ Below w.heap.size w w'
theorem cloneB_any (F : Nat → Prop) (w : World) (v : Value) (bs : List UInt8) (h : BytesAt F w v bs) (hlen : bs.length ≤ 70368744177664) :
    Calls Try.prog 79 #[v] w (Fresh w 5 1 byteR bs) := by
  obtain ⟨a, c, rfl, h1, h2, h3⟩ := SliceAt.len h
  cases a with
  | none =>
    obtain rfl := h3 rfl
    obtain ⟨rfl⟩ : bs = [] := List.eq_nil_of_length_eq_zero (by omega)
    refine (cloneB_nil w).mono ?_
    rintro e w' ⟨rfl, rfl⟩
    exact ⟨_, rfl, OwnAt.nil _ _ _ _ _, Bel.refl _⟩
  | some a => exact cloneB_some F w a _ c bs h hlen
theorem cloneI_any (F : Nat → Prop) (w : World) (v : Value) (d : Nat) (l : List It) (h : ItemsAt F w d v l) (hlen : l.length ≤ 1099511627776) :
    Calls Try.prog 72 #[v] w (Fresh w 65 3 (ItemAt F w d) l) := by
  obtain ⟨a, c, rfl, h1, h2, h3⟩ := SliceAt.len h
  cases a with
  | none =>
    obtain rfl := h3 rfl
    obtain ⟨rfl⟩ : l = [] := List.eq_nil_of_length_eq_zero (by omega)
    refine (cloneI_nil w).mono ?_
    rintro e w' ⟨rfl, rfl⟩
    exact ⟨_, rfl, OwnAt.nil _ _ _ _ _, Bel.refl _⟩
  | some a => exact cloneI_some F w a _ c d l h hlen

set_option maxHeartbeats 400000 in
/-- nest.Text: an item in new memory -/
theorem text_any (F : Nat → Prop) (w : World) (v : Value) (bs : List UInt8) (h : BytesAt F w v bs) (hlen : bs.length ≤ 70368744177664) :
    Calls Try.prog 50 #[v] w fun e w' => ∃ v1, e = .returned (.agg #[.bool false, v1, .slice none 0 0]) ∧ ItemAt (fun b => w.heap.size ≤ b) w' 1 [.bool false, v1, .slice none 0 0] (.text bs) ∧ Below w.heap.size w w' := by
  obtain ⟨a, c, rfl, h1, h2, h3⟩ := SliceAt.len h
  go_enter Try.func50, Try.ntmps50
  go_wp2_with fail
  refine (cloneB_any F _ _ bs ?_ hlen).mono ?_
  · exact BytesAt.below h (Bel.alloc (Bel.refl w) _)
  rintro e w1 ⟨v1, rfl, ho, hb⟩
  obtain ⟨a1, c1, rfl, -, -, -⟩ := ho.len
  have hk := boxblock hb
  obtain ⟨q0, q1, q2⟩ := cells3 hk
  have f0 := boxfree hb 0
  have f1 := boxfree hb 1
  have f2 := boxfree hb 2
  have hb' := Lib.hid hb
  have hkk := Lib.hid hk
  clear hb hk
  go_wp2_with fail
  obtain ⟨W, hW⟩ : ∃ W, W = ((w1.setCell ⟨w.heap.size, 0, none⟩ (.bool false)).setCell ⟨w.heap.size, 1, none⟩ (.slice a1 bs.length c1)).setCell ⟨w.heap.size, 2, none⟩ (.slice none 0 0) := ⟨_, rfl⟩
  have hWk : W.heap[w.heap.size]? = some (.cells #[.bool false, .slice a1 bs.length c1, .slice none 0 0] 65 (0, 0)) := by
    rw [hW]; exact heap_setCell_same _ _ _ _ _ _ (heap_setCell_same _ _ _ _ _ _ (heap_setCell_same _ _ _ _ _ _ hkk.out))
  rw [← hW]
  obtain ⟨r0, r1, r2⟩ := cells3 hWk
  refine bodyPost_ret (v := .agg #[.bool false, .slice a1 bs.length c1, .slice none 0 0]) (by simp [results, Try.results50, go_sem, r0, r1, r2]) rfl ?_
  have hb := hb'.out
  have hbel : Below w.heap.size w W := by
    rw [hW]
    exact (((Bel.call (Bel.alloc (Bel.refl w) _) hb).setCell (Nat.le_refl _) _).setCell (Nat.le_refl _) _).setCell (Nat.le_refl _) _
  have hoW : OwnAt W (w.heap.size + 1) 5 1 byteR (.slice a1 bs.length c1) bs := by
    have ho' := ho
    simp only [World.size_alloc] at ho'
    refine ho'.carry fun g _ hg _ => ?_
    rw [hW, Below.heap_setCell _ _ _ _ (by show g ≠ w.heap.size; omega), Below.heap_setCell _ _ _ _ (by show g ≠ w.heap.size; omega), Below.heap_setCell _ _ _ _ (by show g ≠ w.heap.size; omega)]
  exact ⟨_, rfl, ⟨_, _, rfl, hoW.at (fun g _ hg _ => by omega) (by decide), SliceAt.nil _ _ _ _⟩, hbel⟩

set_option maxHeartbeats 400000 in
/-- nest.List: a list of the items that are given, in a row of its own -/
theorem list_any (F : Nat → Prop) (w : World) (v : Value) (d : Nat) (l : List It) (h : ItemsAt F w d v l) (hlen : l.length ≤ 1099511627776) :
    Calls Try.prog 42 #[v] w fun e w' => ∃ v2, e = .returned (.agg #[.bool true, .slice none 0 0, v2]) ∧ ItemAt (fun b => F b ∨ w.heap.size ≤ b) w' (d + 1) [.bool true, .slice none 0 0, v2] (.list l) ∧ Below w.heap.size w w' := by
  obtain ⟨a, c, rfl, h1, h2, h3⟩ := SliceAt.len h
  go_enter Try.func42, Try.ntmps42
  go_wp2_with fail
  refine (cloneI_any (fun b => F b ∧ b < w.heap.size) _ _ d l ?_ hlen).mono ?_
  · exact ItemsAt.carry h (fun b hb hF => ⟨hF, hb⟩) (fun b _ hlt => Below.heap_alloc _ _ _ hlt)
  rintro e w1 ⟨v1, rfl, ho, hb⟩
  obtain ⟨a1, c1, rfl, -, -, -⟩ := ho.len
  have hk := boxblock hb
  obtain ⟨q0, q1, q2⟩ := cells3 hk
  have f0 := boxfree hb 0
  have f1 := boxfree hb 1
  have f2 := boxfree hb 2
  have hb' := Lib.hid hb
  have hkk := Lib.hid hk
  have HO := Lib.hid ho
  clear hb hk ho
  go_wp2_with fail
  obtain ⟨W, hW⟩ : ∃ W, W = ((w1.setCell ⟨w.heap.size, 0, none⟩ (.bool true)).setCell ⟨w.heap.size, 1, none⟩ (.slice none 0 0)).setCell ⟨w.heap.size, 2, none⟩ (.slice a1 l.length c1) := ⟨_, rfl⟩
  have hWk : W.heap[w.heap.size]? = some (.cells #[.bool true, .slice none 0 0, .slice a1 l.length c1] 65 (0, 0)) := by
    rw [hW]; exact heap_setCell_same _ _ _ _ _ _ (heap_setCell_same _ _ _ _ _ _ (heap_setCell_same _ _ _ _ _ _ hkk.out))
  rw [← hW]
  obtain ⟨r0, r1, r2⟩ := cells3 hWk
  refine bodyPost_ret (v := .agg #[.bool true, .slice none 0 0, .slice a1 l.length c1]) (by simp [results, Try.results42, go_sem, r0, r1, r2]) rfl ?_
  have hb := hb'.out
  have hbel : Below w.heap.size w W := by
    rw [hW]
    exact (((Bel.call (Bel.alloc (Bel.refl w) _) hb).setCell (Nat.le_refl _) _).setCell (Nat.le_refl _) _).setCell (Nat.le_refl _) _
  have hoW : OwnAt W (w.heap.size + 1) 65 3 (ItemAt (fun b => F b ∧ b < w.heap.size) (w.alloc (.cells #[.bool false, .slice none 0 0, .slice none 0 0] 65)) d) (.slice a1 l.length c1) l := by
    have ho' := HO.out
    simp only [World.size_alloc] at ho'
    refine ho'.carry fun g _ hg _ => ?_
    rw [hW, Below.heap_setCell _ _ _ _ (by show g ≠ w.heap.size; omega), Below.heap_setCell _ _ _ _ (by show g ≠ w.heap.size; omega), Below.heap_setCell _ _ _ _ (by show g ≠ w.heap.size; omega)]
  refine ⟨_, rfl, ⟨_, _, rfl, SliceAt.nil _ _ _ _, ?_⟩, hbel⟩
  refine (hoW.mono (R' := ItemAt (fun b => F b ∨ w.heap.size ≤ b) W d) fun cs x hx hi => ?_).at (fun g _ hg _ => .inr (by omega)) (by decide)
  exact hi.carry (fun b _ hF => .inl hF.1) (fun b hF _ => by rw [hbel.block b hF.2, Below.heap_alloc _ _ _ hF.2])

end Go.Proofs.Ytndkkgkcbbmnpaa
