/-
  Contracts of block.word, block.name, pergolaref19.word, pergolaref19.name.
  Contract of block.Encode.
  Contract of pergolaref19.Encode.
-/
import Derived.Test.YtndkkgkcbbmnpaaQnAC
import Derived.Deep.MidRow
namespace Go.Pg
open Go.RowKit
theorem BytesAt.ofBlk {w : World} {g : Nat} {e : TypeId} {l : List UInt8} (h : w.heap[g]? = some (.cells (cellsOf l) e (0, 0))) (hm : l.length ≤ maxLen) : BytesAt (fun b => b = g) w (.slice (some ⟨g, 0, none⟩) l.length l.length) l :=
  (OwnAt.ofBlk (base := g) (Nat.le_refl _) h hm).at (fun b hb _ _ => by simpa [Value.ownBlock] using hb.symm) (by decide)
end Go.Pg
namespace Go.Proofs.Ytndkkgkcbbmnpaa
open Go.RowKit Go.Pg

/-- an item of bytes in new memory -/
def ItD (w : World) (bs : List UInt8) (e : Ending) (w' : World) : Prop :=
  ∃ v1, e = .returned (.agg #[.bool false, v1, .slice none 0 0]) ∧ ItemAt (fresh w) w' 1 [.bool false, v1, .slice none 0 0] (.text bs) ∧ Below w.heap.size w w'
/-- the end: the item is laid into the result's box -/
theorem ItD.doneAt {w w1 W : World} {bs : List UInt8} {a : Option Addr} {n c b : Nat} (hb : Below w.heap.size w w1) (hwb : w.heap.size ≤ b) (hB : BytesAt (fun x => w.heap.size ≤ x ∧ x ≠ b) w1 (.slice a n c) bs)
    (hbx : Box3 w1 W b (.bool false) (.slice a n c) (.slice none 0 0) 65) : ItD w bs (.returned (.agg #[.bool false, .slice a n c, .slice none 0 0])) W :=
  ⟨_, rfl, ⟨_, _, rfl, BytesAt.carry hB (fun b _ h => h.1) (fun b h _ => hbx.other b h.2), SliceAt.nil _ _ _ _⟩, hb.trans (hbx.chg.toBelowAt hb.size (fun k hk e => by omega))⟩
theorem ItD.done {w w1 W : World} {bs : List UInt8} {a : Option Addr} {n c : Nat} (hb : Below w.heap.size w w1) (hB : BytesAt (fun b => w.heap.size < b) w1 (.slice a n c) bs)
    (hbx : Box3 w1 W w.heap.size (.bool false) (.slice a n c) (.slice none 0 0) 65) : ItD w bs (.returned (.agg #[.bool false, .slice a n c, .slice none 0 0])) W :=
  ItD.doneAt hb (Nat.le_refl _) (BytesAt.carry hB (fun b _ h => ⟨Nat.le_of_lt h, by have : w.heap.size < b := h; omega⟩) (fun _ _ _ => rfl)) hbx

set_option maxRecDepth 100000 in
set_option maxHeartbeats 1000000 in
theorem bword_any (n : Nat) (w : World) (hn : (n : Int) < 18446744073709551616) : Calls Try.prog 52 #[.int .u64 n] w (ItD w (wordB n)) := by
  obtain ⟨L, hL⟩ : ∃ L, L = wordB n := ⟨_, rfl⟩
  have hLl : L.length ≤ 8 := by rw [hL]; exact wordB_le n hn
  have hcall : ∀ W : World, Calls Try.prog 80 #[.int .u64 n] W (Fresh W 5 1 byteR L) := fun W => by rw [hL]; exact wbytes_any n W hn
  rw [← hL]
  have HC := Lib.hid hcall
  clear hL hn hcall
  go_enter Try.func52, Try.ntmps52
  go_wp2_with fail
  refine (HC.out _).mono ?_
  rintro e w1 ⟨v1, rfl, ho, hb1⟩
  obtain ⟨a1, c1, rfl, -, -, -⟩ := ho.len
  have hat := ho.at (F := fun _ => True) (fun _ _ _ _ => trivial) (by decide)
  have hk1 := boxblock hb1
  have hb01 := Bel.call (Bel.alloc (Bel.refl w) (.cells #[.bool false, .slice none 0 0, .slice none 0 0] 65)) hb1
  have HK1 := Lib.hid hk1
  have HB1 := Lib.hid hb01
  have HAT := Lib.hid hat
  have hsz1 := (Array.getElem?_eq_some_iff.1 hk1).1
  clear ho hat hb1 hk1 hb01
  go_wp2_with fail
  refine (text_any _ w1 _ L HAT.out (by omega)).mono ?_
  rintro e w2 ⟨v2, rfl, hit, hb2⟩
  obtain ⟨-, a2, m2, c2, a3, m3, c3, e1, e2, -, -⟩ := ItemAt.form hit
  subst e1
  have hk2 := (hb2.block _ hsz1).trans HK1.out
  have hB2 : BytesAt (fun b => w.heap.size < b) w2 (.slice a2 m2 c2) L := BytesAt.carry (ItemAt.bytes hit) (fun b _ h => by have : w1.heap.size ≤ b := h; omega) (fun _ _ _ => rfl)
  have hb02 := HB1.out.trans (hb2.mono HB1.out.size)
  obtain ⟨q0, q1, q2⟩ := cells3 hk2
  have f0 := frozen_of_row w2 w.heap.size 0 _ _ hk2
  have f1 := frozen_of_row w2 w.heap.size 1 _ _ hk2
  have f2 := frozen_of_row w2 w.heap.size 2 _ _ hk2
  have HK2 := Lib.hid hk2
  have HB2 := Lib.hid hB2
  have HB02 := Lib.hid hb02
  clear hit hb2 hk2 hB2 hb02 e2
  go_wp2_with fail
  have hbx := box3 HK2.out (.bool false) (.slice a2 m2 c2) (.slice none 0 0)
  obtain ⟨W, hW⟩ : ∃ W, W = ((w2.setCell ⟨w.heap.size, 0, none⟩ (.bool false)).setCell ⟨w.heap.size, 1, none⟩ (.slice a2 m2 c2)).setCell ⟨w.heap.size, 2, none⟩ (.slice none 0 0) := ⟨_, rfl⟩
  rw [← hW] at hbx ⊢
  obtain ⟨r0, r1, r2⟩ := cells3 hbx.at_
  refine bodyPost_ret (v := .agg #[.bool false, .slice a2 m2 c2, .slice none 0 0]) (by simp [results, Try.results52, go_sem, r0, r1, r2]) rfl ?_
  exact ItD.done HB02.out HB2.out hbx

set_option maxRecDepth 100000 in
set_option maxHeartbeats 1000000 in
theorem rwordI_any (n : Nat) (w : World) (hn : (n : Int) < 18446744073709551616) : Calls Try.prog 54 #[.int .u64 n] w (ItD w (wordB n)) := by
  obtain ⟨L, hL⟩ : ∃ L, L = wordB n := ⟨_, rfl⟩
  have hcall : ∀ W : World, Calls Try.prog 81 #[.int .u64 n] W (Fresh W 5 1 byteR L) := fun W => by rw [hL]; exact r3bytes_any n W hn
  rw [← hL]
  have HC := Lib.hid hcall
  clear hL hn hcall
  go_enter Try.func54, Try.ntmps54
  go_wp2_with fail
  refine (HC.out _).mono ?_
  rintro e w2 ⟨v1, rfl, ho, hb1⟩
  obtain ⟨a2, c2, rfl, -, -, -⟩ := ho.len
  have hat := ho.at (F := fun b => w.heap.size < b) (fun g _ hg _ => by simp at hg; omega) (by decide)
  have hk2 := boxblock hb1
  have hb02 := Bel.call (Bel.alloc (Bel.refl w) (.cells #[.bool false, .slice none 0 0, .slice none 0 0] 65)) hb1
  obtain ⟨m2, hm2⟩ : ∃ m, m = L.length := ⟨_, rfl⟩
  rw [← hm2] at hat ⊢
  obtain ⟨q0, q1, q2⟩ := cells3 hk2
  have f0 := frozen_of_row w2 w.heap.size 0 _ _ hk2
  have f1 := frozen_of_row w2 w.heap.size 1 _ _ hk2
  have f2 := frozen_of_row w2 w.heap.size 2 _ _ hk2
  have HK2 := Lib.hid hk2
  have HB02 := Lib.hid hb02
  have HB2 := Lib.hid hat
  clear ho hat hb1 hk2 hb02 hm2
  go_wp2_with fail
  have hbx := box3 HK2.out (.bool false) (.slice a2 m2 c2) (.slice none 0 0)
  obtain ⟨W, hW⟩ : ∃ W, W = ((w2.setCell ⟨w.heap.size, 0, none⟩ (.bool false)).setCell ⟨w.heap.size, 1, none⟩ (.slice a2 m2 c2)).setCell ⟨w.heap.size, 2, none⟩ (.slice none 0 0) := ⟨_, rfl⟩
  rw [← hW] at hbx ⊢
  obtain ⟨r0, r1, r2⟩ := cells3 hbx.at_
  refine bodyPost_ret (v := .agg #[.bool false, .slice a2 m2 c2, .slice none 0 0]) (by simp [results, Try.results54, go_sem, r0, r1, r2]) rfl ?_
  exact ItD.done HB02.out HB2.out hbx

set_option maxRecDepth 100000 in
set_option maxHeartbeats 1000000 in
theorem bname_any (d : List UInt8) (w : World) (hd : d.length = 32) : Calls Try.prog 51 #[.agg (cellsOf d)] w (ItD w d) := by
  have hbox : (w.alloc (.cells (cellsOf d) 37)).heap[w.heap.size]? = some (.cells (cellsOf d) 37 (0, 0)) := heap_alloc_new w _
  have hB0 : BytesAt (fun _ => True) ((w.alloc (.cells (cellsOf d) 37)).alloc (.cells #[.bool false, .slice none 0 0, .slice none 0 0] 65)) (.slice (some ⟨w.heap.size, 0, none⟩) 32 32) d := by
    have := BytesAt.ofBlk hbox (by rw [hd]; decide)
    rw [hd] at this
    exact BytesAt.below (BytesAt.carry this (fun _ _ _ => trivial) (fun _ _ _ => rfl)) (Bel.alloc (Bel.refl _) _)
  have HB0 := Lib.hid hB0
  have HD := Lib.hid hd
  clear hbox hB0 hd
  go_enter Try.func51, Try.ntmps51
  go_wp2_with fail
  refine (text_any _ _ _ d HB0.out (by have := HD.out; omega)).mono ?_
  rintro e w2 ⟨v2, rfl, hit, hb2⟩
  obtain ⟨-, a2, m2, c2, a3, m3, c3, e1, e2, -, -⟩ := ItemAt.form hit
  subst e1
  have hbb := boxblock hb2
  simp only [World.size_alloc] at hbb
  have hb02 := Bel.call (Bel.alloc (Bel.alloc (Bel.refl w) (.cells (cellsOf d) 37)) (.cells #[.bool false, .slice none 0 0, .slice none 0 0] 65)) hb2
  have hB2 : BytesAt (fun b => w.heap.size ≤ b ∧ b ≠ w.heap.size + 1) w2 (.slice a2 m2 c2) d := BytesAt.carry (ItemAt.bytes hit) (fun b _ h => by simp only [World.size_alloc] at h; exact ⟨by omega, by omega⟩) (fun _ _ _ => rfl)
  obtain ⟨q0, q1, q2⟩ := cells3 hbb
  have f0 := frozen_of_row w2 (w.heap.size + 1) 0 _ _ hbb
  have f1 := frozen_of_row w2 (w.heap.size + 1) 1 _ _ hbb
  have f2 := frozen_of_row w2 (w.heap.size + 1) 2 _ _ hbb
  have HK2 := Lib.hid hbb
  have HB2 := Lib.hid hB2
  have HB02 := Lib.hid hb02
  clear hit hb2 hbb hB2 hb02 e2
  go_wp2_with fail
  have hbx := box3 HK2.out (.bool false) (.slice a2 m2 c2) (.slice none 0 0)
  obtain ⟨W, hW⟩ : ∃ W, W = ((w2.setCell ⟨w.heap.size + 1, 0, none⟩ (.bool false)).setCell ⟨w.heap.size + 1, 1, none⟩ (.slice a2 m2 c2)).setCell ⟨w.heap.size + 1, 2, none⟩ (.slice none 0 0) := ⟨_, rfl⟩
  rw [← hW] at hbx ⊢
  obtain ⟨r0, r1, r2⟩ := cells3 hbx.at_
  refine bodyPost_ret (v := .agg #[.bool false, .slice a2 m2 c2, .slice none 0 0]) (by simp [results, Try.results51, go_sem, r0, r1, r2]) rfl ?_
  exact ItD.doneAt HB02.out (Nat.le_succ _) HB2.out hbx

set_option maxRecDepth 100000 in
set_option maxHeartbeats 1000000 in
theorem rname_any (d : List UInt8) (w : World) (hd : d.length = 32) : Calls Try.prog 53 #[.agg (cellsOf d)] w (ItD w d) := by
  obtain ⟨i0, hi, hz0, hz1, hz2⟩ := info_parts infoU8
  obtain ⟨W0, hW0⟩ : ∃ W, W = (w.alloc (.cells (cellsOf d) 37)).alloc (.cells #[.bool false, .slice none 0 0, .slice none 0 0] 65) := ⟨_, rfl⟩
  have hb0 : Below w.heap.size w W0 := by rw [hW0]; exact Bel.alloc (Bel.alloc (Bel.refl w) _) _
  have hd0 : W0.heap[w.heap.size]? = some (.cells (cellsOf d) 37 (0, 0)) := by rw [hW0]; exact (Below.heap_alloc _ _ _ (by simp)).trans (heap_alloc_new w _)
  have hr0 : W0.heap[w.heap.size + 1]? = some (.cells #[.bool false, .slice none 0 0, .slice none 0 0] 65 (0, 0)) := by
    rw [hW0]
    have := heap_alloc_new (w.alloc (.cells (cellsOf d) 37)) (.cells #[.bool false, .slice none 0 0, .slice none 0 0] 65)
    simpa using this
  have HI : Hid (Below w.heap.size w W0 ∧ W0.heap[w.heap.size]? = some (.cells (cellsOf d) 37 (0, 0)) ∧ W0.heap[w.heap.size + 1]? = some (.cells #[.bool false, .slice none 0 0, .slice none 0 0] 65 (0, 0)) ∧ OwnAt W0 (w.heap.size + 2) 5 1 byteR (.slice none 0 0) (d.take 0)) :=
    ⟨hb0, hd0, hr0, OwnAt.nil _ _ _ _ _⟩
  have HW0 := Lib.hid hW0
  have HD := Lib.hid hd
  clear hb0 hd0 hr0 hW0 hd
  go_enter Try.func53, Try.ntmps53
  go_wp2_with fail
  rw [← HW0.out]
  go_loopw [3, 4] (fun v i wr => ∃ (k : Nat) (ax : Option Addr) (cx : Nat), i = .int .i64 k ∧ k ≤ 32 ∧ v = .slice ax k cx ∧ Hid (Below w.heap.size w wr ∧ wr.heap[w.heap.size]? = some (.cells (cellsOf d) 37 (0, 0)) ∧ wr.heap[w.heap.size + 1]? = some (.cells #[.bool false, .slice none 0 0, .slice none 0 0] 65 (0, 0)) ∧ OwnAt wr (w.heap.size + 2) 5 1 byteR (.slice ax k cx) (d.take k))) (fun _ i _ => 32 - (intOf i).toNat)
  case atStart => exact ⟨0, none, 0, rfl, by omega, rfl, HI⟩
  case round =>
    obtain ⟨k, ax, cx, rfl, hk, rfl, HS⟩ := hrel
    by_cases hlt : k < 32
    · obtain ⟨h1, h2, h3, h4⟩ := HS.out
      have hkd : k < d.length := by rw [HD.out]; exact hlt
      obtain ⟨x, hx⟩ : ∃ x, x = d[k]'hkd := ⟨_, rfl⟩
      have hc : wr.cell? ⟨w.heap.size, k, none⟩ = some (.int .u8 (x.toNat : Int)) := by rw [cell_of_row _ _ _ _ _ _ h2, cellsOf_get _ _ hkd, hx]
      obtain ⟨LT, hLT⟩ : ∃ LT, LT = d.take k := ⟨_, rfl⟩
      have hLn : LT ++ [x] = d.take (k + 1) := by rw [hLT, hx, List.take_succ_eq_append_getElem hkd]
      have hLl : LT.length = k := by rw [hLT, List.length_take]; omega
      rw [← hLT] at h4
      have hlo := (Array.getElem?_eq_some_iff.1 h3).1
      have hbase2 : w.heap.size + 2 ≤ (wr.alloc (.cells #[.int .u8 (x.toNat : Int)] 5)).heap.size := by simp; omega
      have hle : (LT.length + ([x] : List UInt8).length) * 1 ≤ 140737488355328 := by rw [hLl]; simp; omega
      have HO := Lib.hid (h4.carry (w' := wr.alloc (.cells #[.int .u8 (x.toNat : Int)] 5)) (fun g _ _ hlt => Below.heap_alloc _ _ _ hlt))
      have HS2 := Lib.hid (show BytesAt (fun _ => True) (wr.alloc (.cells #[.int .u8 (x.toNat : Int)] 5)) (.slice (some ⟨wr.heap.size, 0, none⟩) 1 1) [x] from (OwnAt.lit' wr 5 x).at (F := fun _ => True) (fun _ _ _ _ => trivial) (by decide))
      have HLE := Lib.hid hle
      have HLN := Lib.hid hLn
      have HLL := Lib.hid hLl
      have H1 := Lib.hid h1
      have H2 := Lib.hid h2
      have H3 := Lib.hid h3
      have hk0 : (0 : Int) ≤ (k : Int) := by omega
      have hk1 : (k : Int) < 32 := by omega
      clear h1 h2 h3 h4 hx hLT hLn hLl hle HS
      go_wp2_with (at_builtin; refine wpList_append_at rfl (.tmp 9) (.tmp 13) 25 rfl (w.heap.size + 2) 5 i0 (.int .u8 0) 1 1 underlying25 hi hz0 hz1 hz2 rfl (by decide) (by decide) byteR.one (.slice ax k cx) LT rfl HO.out _ [x] (fun _ => True) rfl HS2.out HLE.out hbase2 ?next)
      case next =>
      intro v4 w4 ho hg hm
      have hown := (HO.out).own
      have hb4 : Below w.heap.size w w4 := (Bel.alloc H1.out _).grown hg (by omega) (fun k hk => by have := (hown k hk).1; omega)
      have hd4 : w4.heap[w.heap.size]? = some (.cells (cellsOf d) 37 (0, 0)) := (hg.block _ (by simp; omega) (fun e => by have := (hown _ e.symm).1; omega)).trans ((Below.heap_alloc _ _ _ (by omega)).trans H2.out)
      have hr4 : w4.heap[w.heap.size + 1]? = some (.cells #[.bool false, .slice none 0 0, .slice none 0 0] 65 (0, 0)) := (hg.block _ (by simp; omega) (fun e => by have := (hown _ e.symm).1; omega)).trans ((Below.heap_alloc _ _ _ (by omega)).trans H3.out)
      obtain ⟨a4, c4, rfl, -, -, -⟩ := ho.len
      have e : (LT ++ [x]).length = k + 1 := by rw [List.length_append, HLL.out]; rfl
      rw [e] at ho ⊢
      rw [HLN.out] at ho
      have HN4 := Lib.hid (And.intro hb4 (And.intro hd4 (And.intro hr4 ho)))
      clear e hb4 hd4 hr4 ho hg hm hown
      go_wp2_with fail
      go_roundw
      case rel => exact ⟨k + 1, a4, c4, num_eq (by omega), by omega, rfl, HN4⟩
      case measure => simp [intOf]; omega
    · obtain rfl : k = 32 := by omega
      obtain ⟨h1, h2, h3, h4⟩ := HS.out
      rw [List.take_of_length_le (by rw [HD.out]; exact Nat.le_refl _)] at h4
      have hB2 := h4.at (F := fun b => w.heap.size ≤ b ∧ b ≠ w.heap.size + 1) (fun g _ hg _ => ⟨by omega, by omega⟩) (by decide)
      obtain ⟨q0, q1, q2⟩ := cells3 h3
      have f0 := frozen_of_row wr (w.heap.size + 1) 0 _ _ h3
      have f1 := frozen_of_row wr (w.heap.size + 1) 1 _ _ h3
      have f2 := frozen_of_row wr (w.heap.size + 1) 2 _ _ h3
      have HK2 := Lib.hid h3
      have HB2 := Lib.hid hB2
      have HB02 := Lib.hid h1
      clear h1 h2 h3 h4 hB2 HS
      go_wp2_with fail
      have hbx := box3 HK2.out (.bool false) (.slice ax 32 cx) (.slice none 0 0)
      obtain ⟨W, hW⟩ : ∃ W, W = ((wr.setCell ⟨w.heap.size + 1, 0, none⟩ (.bool false)).setCell ⟨w.heap.size + 1, 1, none⟩ (.slice ax 32 cx)).setCell ⟨w.heap.size + 1, 2, none⟩ (.slice none 0 0) := ⟨_, rfl⟩
      rw [← hW] at hbx ⊢
      obtain ⟨r0, r1, r2⟩ := cells3 hbx.at_
      refine bodyPost_ret (v := .agg #[.bool false, .slice ax 32 cx, .slice none 0 0]) (by simp [results, Try.results53, go_sem, r0, r1, r2]) rfl ?_
      exact ItD.doneAt HB02.out (Nat.le_succ _) HB2.out hbx
end Go.Proofs.Ytndkkgkcbbmnpaa
namespace Go.Pg
open Go.RowKit
/-- the list of cells of bytes -/
def cellsL (l : List UInt8) : List Value := l.map fun x => Value.int .u8 (x.toNat : Int)
theorem cellsOf_toList (l : List UInt8) : (cellsOf l).toList = cellsL l := by simp [cellsOf, cellsL]
theorem cellsL_toArray (l : List UInt8) : (cellsL l).toArray = cellsOf l := rfl
theorem cellsL_length (l : List UInt8) : (cellsL l).length = l.length := by simp [cellsL]
theorem cellsL_one (l : List UInt8) : ∀ v ∈ cellsL l, v.oneCell' = true := by
  intro v hv
  simp only [cellsL, List.mem_map] at hv
  obtain ⟨x, -, rfl⟩ := hv
  rfl
/-- a block as an item -/
def blkI (p : List UInt8) (n b : Nat) (T : List (List UInt8)) : It := .list [.text p, .text (wordB n), .text (wordB b), textsI T]
/-- a block's bytes, and the error's number -/
def blkEncode (p : List UInt8) (n b : Nat) (T : List (List UInt8)) : List UInt8 × Nat :=
  if (blkI p n b T).encode.2 = 0 then ((blkI p n b T).encode.1, 0) else ([], 190)
/-- the cells of a block -/
def blkCells (p : List UInt8) (n b : Nat) (v : Value) : Array Value := (cellsL p ++ [.int .u64 (n : Int), .int .u64 (b : Int), v]).toArray
theorem range_at {w : World} {g : Nat} {t : TypeId} (pre l post : List Value) (h : w.heap[g]? = some (.cells (pre ++ l ++ post).toArray t (0, 0))) : w.rangeAt g pre.length l := by
  intro j v hv
  rw [cell_of_row _ _ _ _ _ _ h]
  have hj := (List.getElem?_eq_some_iff.1 hv).1
  rw [List.getElem?_toArray, List.append_assoc, List.getElem?_append_right (by omega), Nat.add_sub_cancel_left, List.getElem?_append_left hj]
  exact hv
theorem cell_at {w : World} {g : Nat} {t : TypeId} (pre : List Value) (v : Value) (post : List Value) (h : w.heap[g]? = some (.cells (pre ++ v :: post).toArray t (0, 0))) : w.cell? ⟨g, pre.length, none⟩ = some v := by
  rw [cell_of_row _ _ _ _ _ _ h, List.getElem?_toArray, List.getElem?_append_right (Nat.le_refl _), Nat.sub_self]
  rfl
theorem blk_facts {w : World} {g : Nat} {t : TypeId} {p : List UInt8} {n b : Nat} {v : Value} (hp : p.length = 32) (h : w.heap[g]? = some (.cells (blkCells p n b v) t (0, 0))) :
    w.rangeAt g 0 (cellsL p) ∧ w.cell? ⟨g, 32, none⟩ = some (.int .u64 n) ∧ w.cell? ⟨g, 33, none⟩ = some (.int .u64 b) ∧ w.cell? ⟨g, 34, none⟩ = some v := by
  have hl : (cellsL p).length = 32 := by rw [cellsL_length, hp]
  unfold blkCells at h
  refine ⟨?_, ?_, ?_, ?_⟩
  · exact range_at [] (cellsL p) _ (by simpa using h)
  · have := cell_at (cellsL p) _ _ h; rwa [hl] at this
  · have := cell_at (cellsL p ++ [.int .u64 (n : Int)]) (.int .u64 (b : Int)) [v] (by simpa using h); simpa [hl] using this
  · have := cell_at (cellsL p ++ [.int .u64 (n : Int), .int .u64 (b : Int)]) v [] (by simpa using h); simpa [hl] using this
end Go.Pg
namespace Go.Proofs.Ytndkkgkcbbmnpaa
open Go.RowKit Go.Pg

/-- four items in a new row -/
theorem quadI {F : Nat → Prop} {w : World} {p0 p1 p2 : Value} {q1 q2 : Value} {x0 x1 x2 x3 : It} (h0 : ItemAt F w 2 [.bool false, p0, .slice none 0 0] x0) (h1 : ItemAt F w 2 [.bool false, p1, .slice none 0 0] x1) (h2 : ItemAt F w 2 [.bool false, p2, .slice none 0 0] x2) (h3 : ItemAt F w 2 [.bool true, q1, q2] x3) (hF : F w.heap.size) (t : TypeId) :
    ItemsAt F (w.alloc (.cells #[.bool false, p0, .slice none 0 0, .bool false, p1, .slice none 0 0, .bool false, p2, .slice none 0 0, .bool true, q1, q2] t)) 2 (.slice (some ⟨w.heap.size, 0, none⟩) 4 4) [x0, x1, x2, x3] :=
  rows_alloc (l := [x0, x1, x2, x3]) (carriedItem 2) ((((Rows.one h0 rfl).append (Rows.one h1 rfl)).append (Rows.one h2 rfl)).append (Rows.one h3 rfl)) (show 4 ≤ maxLen by decide) (fun _ _ x => x) hF t

/-- the four items of a block, behind the calls that made them -/
theorem blkItems {B : Nat} {wr w3 w4 w5 w6 : World} {p0 p1 p2 q1 q2 : Value} {p b4 b5 : List UInt8} {LT : List It} (hsw : B < wr.heap.size) (_hb3 : Below wr.drew.heap.size wr.drew w3) (hb4 : Below w3.heap.size w3 w4) (hb5 : Below w4.heap.size w4 w5) (hb6 : Below w5.heap.size w5 w6)
    (hB3 : Below wr.heap.size wr w3) (hB4 : Below wr.heap.size wr w4) (hB5 : Below wr.heap.size wr w5) (hB6 : Below wr.heap.size wr w6)
    (hit3 : ItemAt (fresh wr.drew) w3 1 [.bool false, p0, .slice none 0 0] (.text p)) (hit4 : ItemAt (fresh w3) w4 1 [.bool false, p1, .slice none 0 0] (.text b4)) (hit5 : ItemAt (fresh w4) w5 1 [.bool false, p2, .slice none 0 0] (.text b5))
    (hit6 : ItemAt (fun b => (B < b ∧ b < wr.heap.size) ∨ w5.heap.size ≤ b) w6 2 [.bool true, q1, q2] (.list LT)) (t : TypeId) :
    ItemsAt (fun b => B < b) (w6.alloc (.cells #[.bool false, p0, .slice none 0 0, .bool false, p1, .slice none 0 0, .bool false, p2, .slice none 0 0, .bool true, q1, q2] t)) 2 (.slice (some ⟨w6.heap.size, 0, none⟩) 4 4) [.text p, .text b4, .text b5, .list LT] := by
  have s3 := hB3.size
  have s4 := hB4.size
  have s5 := hB5.size
  have s6 := hB6.size
  refine quadI ?_ ?_ ?_ ?_ (show B < w6.heap.size by omega) t
  · exact ItemAt.deeper 1 2 _ _ (by omega) (ItemAt.carry (fun b _ h => by have : wr.heap.size ≤ b := h; omega) (fun b _ hlt => (hb6.block b (by have := hb4.size; have := hb5.size; omega)).trans ((hb5.block b (by have := hb4.size; omega)).trans (hb4.block b hlt))) 1 _ _ hit3)
  · exact ItemAt.deeper 1 2 _ _ (by omega) (ItemAt.carry (fun b _ h => by have : w3.heap.size ≤ b := h; omega) (fun b _ hlt => (hb6.block b (by have := hb5.size; omega)).trans (hb5.block b hlt)) 1 _ _ hit4)
  · exact ItemAt.deeper 1 2 _ _ (by omega) (ItemAt.carry (fun b _ h => by have : w4.heap.size ≤ b := h; omega) (fun b _ hlt => hb6.block b hlt) 1 _ _ hit5)
  · exact ItemAt.carry (fun b _ h => by rcases h with h | h <;> omega) (fun _ _ _ => rfl) 2 _ _ hit6

set_option maxRecDepth 100000 in
set_option maxHeartbeats 4000000 in
theorem bencode_any (F : Nat → Prop) (w : World) (p : List UInt8) (nn bb : Nat) (v : Value) (l : List (List UInt8)) (hp : p.length = 32) (hnn : (nn : Int) < 18446744073709551616) (hbb : (bb : Int) < 18446744073709551616)
    (h : RowsAt F w v l) (hl : l.length ≤ 1099511627776) (hlen : ∀ x ∈ l, x.length ≤ 140737488351232) (hw : (blkI p nn bb l).whole ≤ 140737488351232) :
    Calls Try.prog 19 #[.agg (blkCells p nn bb v)] w (Encd w (blkEncode p nn bb l)) := by
  obtain ⟨a, c, rfl, -, -, -⟩ := SliceAt.len h
  obtain ⟨i0, hi, hz0, hz1, hz2⟩ := info_parts infoItem
  obtain ⟨n, hn⟩ : ∃ n, n = l.length := ⟨_, rfl⟩
  rw [← hn] at h hl ⊢
  obtain ⟨BC, hBC⟩ : ∃ BC, BC = blkCells p nn bb (.slice a n c) := ⟨_, rfl⟩
  have hbf : ∀ W : World, W.heap[w.heap.size]? = some (.cells BC 40 (0, 0)) → W.rangeAt w.heap.size 0 (cellsL p) ∧ W.cell? ⟨w.heap.size, 32, none⟩ = some (.int .u64 nn) ∧ W.cell? ⟨w.heap.size, 33, none⟩ = some (.int .u64 bb) ∧ W.cell? ⟨w.heap.size, 34, none⟩ = some (.slice a n c) :=
    fun W hW => by rw [hBC] at hW; exact blk_facts hp hW
  rw [← hBC]
  have HBF := Lib.hid hbf
  have HN := Lib.hid hn
  have HLEN := Lib.hid hlen
  have HP := Lib.hid hp
  have HNN := Lib.hid hnn
  have HBB := Lib.hid hbb
  have HW := Lib.hid hw
  have hk34 := (hbf _ (heap_alloc_new w (.cells BC 40))).2.2.2
  clear hn hlen hBC hbf hp hnn hbb hw
  go_enter Try.func19, Try.ntmps19
  go_wp2_with fail
  go_loopw [4, 6, 12] (fun s b i wr => ∃ k : Nat, k ≤ n ∧ i = .int .i64 k ∧ Hid (OwnList (fun F w cs x => ItemAt F w 1 cs x) (fun b => w.heap.size < b) (w.heap.size + 1) wr 65 3 s ((l.take k).map .text)) ∧
      Hid (Below w.heap.size w wr ∧ wr.heap[w.heap.size]? = some (.cells BC 40 (0, 0)))) (fun _ _ i _ => n - (intOf i).toNat)
  case atStart => exact ⟨0, Nat.zero_le _, rfl, OwnList.nil, Bel.alloc (Bel.refl w) _, heap_alloc_new w _⟩
  case round =>
    obtain ⟨k, hk, rfl, HO, HB⟩ := hrel
    have hN := HN.out
    by_cases hlt : k < n
    · rcases SliceAt.split h with ⟨_, h0⟩ | ⟨b, o, rfl, -, -, -⟩
      · omega
      have hwr := RowsAt.below h HB.out.1
      obtain ⟨u, c1, t1⟩ := RowsAt.cell hwr k (by omega)
      have hxl := HLEN.out _ (List.getElem_mem (show k < l.length by omega))
      have htk : (l.take (k + 1)).map It.text = (l.take k).map It.text ++ [It.text (l[k]'(by omega))] := by
        rw [List.take_succ_eq_append_getElem (show k < l.length by omega), List.map_append]; rfl
      obtain ⟨x, hx⟩ : ∃ x, x = l[k]'(by omega) := ⟨_, rfl⟩
      rw [← hx] at t1 hxl htk
      have HT := Lib.hid htk
      obtain ⟨L, hL⟩ : ∃ L, L = (l.take k).map It.text := ⟨_, rfl⟩
      rw [← hL] at HO HT
      have hLl : L.length = k := by rw [hL]; simp; omega
      have HLL := Lib.hid hLl
      clear hwr hx htk hL hLl hN hk34
      go_wp2_with fail
      refine (text_any F wr u x t1 hxl).mono ?_
      rintro e w1 ⟨v1, rfl, hit, hb1⟩
      obtain ⟨-, a1, m1, d1, a2, m2, d2, e1, e2, -, -⟩ := ItemAt.form hit
      simp only [Value.slice.injEq] at e2
      obtain ⟨rfl, rfl, rfl⟩ := e2
      subst e1
      have HB1 : Hid (Below w.heap.size w w1 ∧ w1.heap[w.heap.size]? = some (.cells BC 40 (0, 0))) :=
        ⟨Bel.call HB.out.1 hb1, by rw [hb1.block _ (Array.getElem?_eq_some_iff.1 HB.out.2).1]; exact HB.out.2⟩
      have hO1 := (HO.out).call (carriedItem 1) hb1
      have hsw := (Array.getElem?_eq_some_iff.1 HB.out.2).1
      have hs1 := hb1.size
      have howr := (HO.out).own
      obtain ⟨R, hR1, hRo, hRs, hRn⟩ := hO1.push (carriedItem 1) hit rfl (by decide) (fun b _ hb => ⟨by omega, fun e => by have := (howr b e).2; omega⟩) 65
      have hle : (L.length + [It.text x].length) * 56 ≤ 140737488355328 := by rw [HLL.out]; simp; omega
      have hbase : w.heap.size + 1 ≤ (w1.alloc (.cells [.bool false, .slice a1 m1 d1, .slice none 0 0].toArray 65)).heap.size := by simp; omega
      have HRN := Lib.hid hRn
      have HRO := Lib.hid hRo
      have HRS := Lib.hid hRs
      have HR1 := Lib.hid hR1
      clear hRn hO1 hb1 hit howr hRo hRs hR1 hs1 hsw t1 c1
      go_wp2_with (at_builtin; refine wpList_append_at rfl (.tmp 16) (.tmp 19) 63 rfl (w.heap.size + 1) 65 i0 (.agg #[.bool false, .slice none 0 0, .slice none 0 0]) 3 56 underlyingItems hi hz0 hz1 hz2 rfl (by decide) (by decide) HR1.out _ L rfl HRO.out _ [It.text x] (fun _ => True) rfl HRS.out hle hbase ?_; intro v' w2 ho hg hm)
      have HOn := Lib.hid (HRN.out _ _ ho hg hm)
      have hown := (HRO.out).own
      have HB2 : Hid (Below w.heap.size w w2 ∧ w2.heap[w.heap.size]? = some (.cells BC 40 (0, 0))) := by
        have hb1 := HB1.out.1
        have hbx := HB1.out.2
        have hlt' := (Array.getElem?_eq_some_iff.1 hbx).1
        refine ⟨(Bel.alloc hb1 _).grown hg (by simp; omega) (fun k hk => by have := (hown k hk).1; omega), ?_⟩
        rw [hg.block _ (by simp; omega) (fun e => by have := (hown _ e.symm).1; omega), Below.heap_alloc _ _ _ hlt']
        exact hbx
      clear ho hg hm hown
      go_roundw
      case rel => exact ⟨k + 1, by omega, num_eq (by omega), by rw [HT.out]; exact HOn.out, HB2.out⟩
      case measure => simp [intOf]; omega
    · obtain rfl : k = n := by omega
      have hO := HO.out
      rw [List.take_of_length_le (by omega)] at hO
      have hits := hO.at (carriedItem 1) (G' := fun b => w.heap.size < b) (fun _ h _ => h) (fun b h _ => by omega) (by decide)
      have hll : (l.map It.text).length ≤ 1099511627776 := by simp; omega
      obtain ⟨as_, cs, rfl, -, -, -⟩ := hO.len
      obtain ⟨q0, q32, q33, -⟩ := HBF.out wr HB.out.2
      have hsw := (Array.getElem?_eq_some_iff.1 HB.out.2).1
      have hkeep : ∀ W : World, Below wr.heap.size wr W → W.rangeAt w.heap.size 0 (cellsL p) ∧ W.cell? ⟨w.heap.size, 32, none⟩ = some (.int .u64 nn) ∧ W.cell? ⟨w.heap.size, 33, none⟩ = some (.int .u64 bb) := fun W hW => by
        obtain ⟨g1, g2, g3, -⟩ := HBF.out W ((hW.block _ hsw).trans HB.out.2)
        exact ⟨g1, g2, g3⟩
      have hitd : ∀ W : World, W.heap = wr.heap → ItemsAt (fun b => w.heap.size < b) W 1 (.slice as_ (l.map It.text).length cs) (l.map It.text) := fun W hW => SliceAt.carry hits (by decide) (fun _ _ x => x) (fun b _ _ => by rw [hW]) (fun cs x _ h => ItemAt.carry (fun _ _ x => x) (fun b _ _ => by rw [hW]) 1 cs x h)
      obtain ⟨LT, hLT⟩ : ∃ LT, LT = l.map It.text := ⟨_, rfl⟩
      rw [← hLT] at hitd hll ⊢
      have hLTn : (It.list LT) = textsI l := by rw [hLT]; rfl
      have hc32 : (cellsL p).length = 32 := by rw [cellsL_length]; exact HP.out
      have hinfoD : (Try.prog.info? 37).map (·.size) = some (cellsL p).length := by rw [hc32]; exact infoDig
      have HKP := Lib.hid hkeep
      have HIT := Lib.hid hitd
      have HLTN := Lib.hid hLTn
      have HLL := Lib.hid hll
      have HUD := underlyingDig
      have hitw := hitd wr rfl
      clear hO hits hkeep hLT hLTn hll hc32 hN hk34 hitd
      have HITW := Lib.hid hitw
      clear hitw
      go_wp2_with fail
      go_region_held3 (fun w' => w'.rangeAt w.heap.size 0 (cellsL p) ∧ w'.cell? ⟨w.heap.size, 32, none⟩ = some (.int .u64 nn) ∧ w'.cell? ⟨w.heap.size, 33, none⟩ = some (.int .u64 bb)) (first | exact HKP.out _ (Bel.drew (Bel.refl wr)) | exact HKP.out _ (by assumption) | exact HKP.out _ (Bel.alloc (by assumption) _))
        (first
          | (go_at_call 51; refine (bname_any p _ HP.out).mono ?_; rintro e w3 ⟨v3, rfl, hit3, hb3⟩; have hB3 : Below wr.heap.size wr w3 := Bel.call (Bel.drew (Bel.refl wr)) hb3; obtain ⟨-, x1, y1, z1, x2, y2, z2, rfl, -, -, -⟩ := ItemAt.form hit3)
          | (go_at_call_of 52 (Value.int .u64 (nn : Int)); refine (bword_any nn _ HNN.out).mono ?_; rintro e w4 ⟨v4, rfl, hit4, hb4⟩; have hB4 : Below wr.heap.size wr w4 := Bel.call hB3 hb4; obtain ⟨-, x3, y3, z3, x4, y4, z4, rfl, -, -, -⟩ := ItemAt.form hit4)
          | (go_at_call_of 52 (Value.int .u64 (bb : Int)); refine (bword_any bb _ HBB.out).mono ?_; rintro e w5 ⟨v5, rfl, hit5, hb5⟩; have hB5 : Below wr.heap.size wr w5 := Bel.call hB4 hb5; obtain ⟨-, x5, y5, z5, x6, y6, z6, rfl, -, -, -⟩ := ItemAt.form hit5)
          | (go_at_call_of 42 (Value.slice as_ LT.length cs); refine (list_any (fun b => w.heap.size < b ∧ b < wr.heap.size) w5 _ 1 LT (ItemsAt.carry HITW.out (fun b hlt hb => ⟨hb, hlt⟩) (fun b _ hlt => hB5.block b hlt)) HLL.out).mono ?_; rintro e w6 ⟨v6, rfl, hit6, hb6⟩; have hB6 : Below wr.heap.size wr w6 := Bel.call hB5 hb6; obtain ⟨-, x7, y7, z7, x8, y8, z8, -, rfl, -, -⟩ := ItemAt.form hit6)
          | (go_at_call 42; refine (list_any (fun b => w.heap.size < b) _ _ 2 [.text p, .text (wordB nn), .text (wordB bb), .list LT] (blkItems hsw hb3 hb4 hb5 hb6 hB3 hB4 hB5 hB6 hit3 hit4 hit5 hit6 _) (show 4 ≤ 1099511627776 by omega)).mono ?_; rintro e w7 ⟨v7, rfl, hit7, hb7⟩; have hB7 : Below wr.heap.size wr w7 := Bel.call (Bel.alloc hB6 _) hb7; obtain ⟨-, x9, y9, z9, x10, y10, z10, -, rfl, -, -⟩ := ItemAt.form hit7)
          | (go_at_call 41; refine (encode_any _ w7 3 (blkI p nn bb l) _ _ _ (by rw [HLTN.out] at hit7; exact hit7) HW.out).mono ?_; rintro e w8 ⟨v8, rfl, ho8, hb8⟩; have hB8 : Below wr.heap.size wr w8 := Bel.call hB7 hb8))
      have HB8 := Lib.hid (HB.out.1.trans (hB8.mono HB.out.1.size))
      obtain ⟨E, hE⟩ : ∃ E, E = (blkI p nn bb l).encode := ⟨_, rfl⟩
      rw [← hE] at ho8 ⊢
      have HE := Lib.hid hE
      have ho9 := ho8.lower (Nat.le_trans HB.out.1.size hB7.size)
      clear hE hB3 hB4 hB5 hB6 hB7 hB8 hb3 hb4 hb5 hb6 hb7 hb8 hit3 hit4 hit5 hit6 hit7 ho8 q0 q32 q33
      by_cases he : E.2 = 0
      · have he2 : (((E.2 : Nat) : Int) != 0) = false := by simp; omega
        go_wp2
        go_ret2
        exact ⟨v8, by unfold blkEncode; rw [← HE.out, if_pos he]; rfl, by unfold blkEncode; rw [← HE.out, if_pos he]; exact ho9, HB8.out⟩
      · have he2 : (((E.2 : Nat) : Int) != 0) = true := by simp; omega
        go_wp2
        go_ret2
        exact ⟨.slice none 0 0, by unfold blkEncode; rw [← HE.out, if_neg he]; rfl, by unfold blkEncode; rw [← HE.out, if_neg he]; exact OwnAt.nil _ _ _ _ _, HB8.out⟩
end Go.Proofs.Ytndkkgkcbbmnpaa
namespace Go.Proofs.Ytndkkgkcbbmnpaa
open Go.RowKit Go.Pg

/-- the four items of a block, the last one as it lay in a box -/
theorem rblkItems {F : Nat → Prop} {wr w3 w4 w5 : World} {p0 p1 p2 q2 : Value} {p b4 b5 : List UInt8} {LT : List It} (hb4 : Below w3.heap.size w3 w4) (hb5 : Below w4.heap.size w4 w5)
    (hB3 : Below wr.heap.size wr w3) (hB4 : Below wr.heap.size wr w4) (hB5 : Below wr.heap.size wr w5)
    (hit3 : ItemAt (fresh wr.drew) w3 1 [.bool false, p0, .slice none 0 0] (.text p)) (hit4 : ItemAt (fresh w3) w4 1 [.bool false, p1, .slice none 0 0] (.text b4)) (hit5 : ItemAt (fresh w4) w5 1 [.bool false, p2, .slice none 0 0] (.text b5))
    (hit6 : ItemsAt F wr 1 q2 LT) (t : TypeId) :
    ItemsAt (fun b => (F b ∧ b < wr.heap.size) ∨ wr.heap.size ≤ b) (w5.alloc (.cells #[.bool false, p0, .slice none 0 0, .bool false, p1, .slice none 0 0, .bool false, p2, .slice none 0 0, .bool true, .slice none 0 0, q2] t)) 2 (.slice (some ⟨w5.heap.size, 0, none⟩) 4 4) [.text p, .text b4, .text b5, .list LT] := by
  have s3 := hB3.size
  have s4 := hB4.size
  have s5 := hB5.size
  refine quadI ?_ ?_ ?_ ?_ (show (F w5.heap.size ∧ w5.heap.size < wr.heap.size) ∨ wr.heap.size ≤ w5.heap.size by omega) t
  · exact ItemAt.deeper 1 2 _ _ (by omega) (ItemAt.carry (fun b _ h => by have : wr.heap.size ≤ b := h; omega) (fun b _ hlt => (hb5.block b (by have := hb4.size; omega)).trans (hb4.block b hlt)) 1 _ _ hit3)
  · exact ItemAt.deeper 1 2 _ _ (by omega) (ItemAt.carry (fun b _ h => by have : w3.heap.size ≤ b := h; omega) (fun b _ hlt => hb5.block b hlt) 1 _ _ hit4)
  · exact ItemAt.deeper 1 2 _ _ (by omega) (ItemAt.carry (fun b _ h => by have : w4.heap.size ≤ b := h; omega) (fun _ _ _ => rfl) 1 _ _ hit5)
  · exact ⟨_, _, rfl, SliceAt.nil _ _ _ _, ItemsAt.carry hit6 (fun b hlt h => .inl ⟨h, hlt⟩) (fun b _ hlt => hB5.block b hlt)⟩

set_option maxRecDepth 100000 in
set_option maxHeartbeats 4000000 in
theorem rbencode_any (F : Nat → Prop) (w : World) (p : List UInt8) (nn bb : Nat) (v : Value) (l : List (List UInt8)) (hp : p.length = 32) (hnn : (nn : Int) < 18446744073709551616) (hbb : (bb : Int) < 18446744073709551616)
    (h : RowsAt F w v l) (hl : l.length ≤ 1099511627776) (hw : (blkI p nn bb l).whole ≤ 140737488351232) :
    Calls Try.prog 20 #[.agg (blkCells p nn bb v)] w (Encd w (blkEncode p nn bb l)) := by
  obtain ⟨a, c, rfl, -, -, -⟩ := SliceAt.len h
  replace h : RowsAt (fun b => F b ∧ b < w.heap.size) w _ l := RowsAt.carry h (fun b hb hF => ⟨hF, hb⟩) (fun _ _ _ => rfl)
  obtain ⟨i0, hi, hz0, hz1, hz2⟩ := info_parts infoItem
  obtain ⟨n, hn⟩ : ∃ n, n = l.length := ⟨_, rfl⟩
  rw [← hn] at h hl ⊢
  obtain ⟨BC, hBC⟩ : ∃ BC, BC = blkCells p nn bb (.slice a n c) := ⟨_, rfl⟩
  have hbf : ∀ W : World, W.heap[w.heap.size]? = some (.cells BC 40 (0, 0)) → W.rangeAt w.heap.size 0 (cellsL p) ∧ W.cell? ⟨w.heap.size, 32, none⟩ = some (.int .u64 nn) ∧ W.cell? ⟨w.heap.size, 33, none⟩ = some (.int .u64 bb) ∧ W.cell? ⟨w.heap.size, 34, none⟩ = some (.slice a n c) :=
    fun W hW => by rw [hBC] at hW; exact blk_facts hp hW
  rw [← hBC]
  have HBF := Lib.hid hbf
  have HN := Lib.hid hn
  have HP := Lib.hid hp
  have HNN := Lib.hid hnn
  have HBB := Lib.hid hbb
  have HW := Lib.hid hw
  have hk34 := (hbf _ (heap_alloc_new w (.cells BC 40))).2.2.2
  clear hn hBC hbf hp hnn hbb hw
  go_enter Try.func20, Try.ntmps20
  go_wp2
  go_loopw [5] (fun i wr => ∃ (k : Nat) (a1 : Option Addr) (c1 : Nat), k ≤ n ∧ i = .int .i64 k ∧ Hid (OwnList (fun F w cs x => ItemAt F w 1 cs x) (fun b => F b ∧ b < w.heap.size) (w.heap.size + 2) wr 65 3 (.slice a1 k c1) ((l.take k).map .text)) ∧
      Hid (Below w.heap.size w wr ∧ wr.heap[w.heap.size]? = some (.cells BC 40 (0, 0)) ∧ wr.heap[w.heap.size + 1]? = some (.cells #[.bool true, .slice none 0 0, .slice a1 k c1] 65 (0, 0)))) (fun i _ => n - (intOf i).toNat)
  case atStart =>
    refine ⟨0, none, 0, Nat.zero_le _, rfl, OwnList.nil, Bel.alloc (Bel.alloc (Bel.refl w) _) _, ?_, ?_⟩
    · exact (Below.heap_alloc _ _ _ (by simp)).trans (heap_alloc_new w _)
    · have := heap_alloc_new (w.alloc (.cells BC 40)) (.cells #[.bool true, .slice none 0 0, .slice none 0 0] 65)
      simpa using this
  case round =>
    obtain ⟨k, a1, c1, hk, rfl, HO, HB⟩ := hrel
    have hN := HN.out
    obtain ⟨q0, q1, q2⟩ := cells3 HB.out.2.2
    have fq := frozen_of_row wr (w.heap.size + 1) 2 _ _ HB.out.2.2
    obtain ⟨-, -, -, qt⟩ := HBF.out wr HB.out.2.1
    by_cases hlt : k < n
    · rcases SliceAt.split h with ⟨_, h0⟩ | ⟨b, o, rfl, -, -, -⟩
      · omega
      have hwr := RowsAt.below h HB.out.1
      obtain ⟨u, g1, t1⟩ := RowsAt.cell hwr k (by omega)
      obtain ⟨au, cu, rfl, -, -, -⟩ := SliceAt.len t1
      have htk : (l.take (k + 1)).map It.text = (l.take k).map It.text ++ [It.text (l[k]'(by omega))] := by
        rw [List.take_succ_eq_append_getElem (show k < l.length by omega), List.map_append]; rfl
      obtain ⟨x, hx⟩ : ∃ x, x = l[k]'(by omega) := ⟨_, rfl⟩
      rw [← hx] at t1 g1 htk
      have HT := Lib.hid htk
      obtain ⟨L, hL⟩ : ∃ L, L = (l.take k).map It.text := ⟨_, rfl⟩
      rw [← hL] at HO HT
      have hLl : L.length = k := by rw [hL]; simp; omega
      have HLL := Lib.hid hLl
      have hit : ItemAt (fun b => F b ∧ b < w.heap.size) wr 1 [.bool false, .slice au x.length cu, .slice none 0 0] (.text x) :=
        ⟨_, _, rfl, t1, SliceAt.nil _ _ _ _⟩
      have hsw := (Array.getElem?_eq_some_iff.1 HB.out.2.2).1
      have howr := (HO.out).own
      obtain ⟨R, hR1, hRo, hRs, hRn⟩ := (HO.out).push (carriedItem 1) hit rfl (by decide) (fun b' _ hb' => ⟨hb', fun e => by have := (howr b' e).1; omega⟩) 65
      have hle : (L.length + [It.text x].length) * 56 ≤ 140737488355328 := by rw [hLl]; simp; omega
      have hlen : L.length + [It.text x].length = k + 1 := by rw [hLl]; rfl
      have hbase : w.heap.size + 2 ≤ (wr.alloc (.cells [.bool false, .slice au x.length cu, .slice none 0 0].toArray 65)).drew.heap.size := by simp; omega
      have hX : ∀ w2 : World, (wr.alloc (.cells [.bool false, .slice au x.length cu, .slice none 0 0].toArray 65)).drew.grownBy w2 (Value.slice a1 k c1).ownBlock →
          Below w.heap.size w w2 ∧ w2.heap[w.heap.size]? = some (.cells BC 40 (0, 0)) ∧ w2.heap[w.heap.size + 1]? = some (.cells #[.bool true, .slice none 0 0, .slice a1 k c1] 65 (0, 0)) := by
        intro w2 hg
        have hsz2 := hg.size
        simp only [World.size_drew, World.size_alloc] at hsz2
        refine ⟨((Bel.alloc HB.out.1 _).drew).grown hg (by simp; omega) (fun k hk => by have := (howr k hk).1; omega), ?_, ?_⟩
        · rw [hg.block _ (by simp; omega) (fun e => by have := (howr _ e.symm).1; omega)]
          exact (Below.heap_alloc wr _ _ (by omega)).trans HB.out.2.1
        · rw [hg.block _ (by simp; omega) (fun e => by have := (howr _ e.symm).1; omega)]
          exact (Below.heap_alloc wr _ _ (by omega)).trans HB.out.2.2
      have HX := Lib.hid hX
      have hRn' : ∀ v' W2, OwnAt W2 (w.heap.size + 2) 65 3 R v' (L ++ [It.text x]) → (wr.alloc (.cells [.bool false, .slice au x.length cu, .slice none 0 0].toArray 65)).drew.grownBy W2 (Value.slice a1 k c1).ownBlock → Moved (wr.alloc (.cells [.bool false, .slice au x.length cu, .slice none 0 0].toArray 65)).drew (.slice a1 k c1) v' → OwnList (fun F w cs x => ItemAt F w 1 cs x) (fun b => F b ∧ b < w.heap.size) (w.heap.size + 2) W2 65 3 v' (L ++ [It.text x]) :=
        fun v' W2 ho hg hm => hRn v' W2 ho ⟨hg.os, hg.tape, hg.output, hg.size, hg.block⟩ hm
      have HRN := Lib.hid hRn'
      have HRO := Lib.hid hRo.drew'
      have HRS := Lib.hid (hRs.drew' (by decide))
      have HR1 := Lib.hid hR1
      have HLE := Lib.hid hlen
      clear hwr hx htk hL hLl hN hX hRn hRn' hRo hRs hR1 howr t1 hit hlen hk34
      go_wp2
      go_region_law (refine step_append_at rfl (.tmp 17) (.tmp 24) 63 rfl (w.heap.size + 2) 65 i0 (.agg #[.bool false, .slice none 0 0, .slice none 0 0]) 3 56 underlyingItems hi hz0 hz1 hz2 rfl (by decide) (by decide) HR1.out (.slice a1 k c1) L (by simp [Act.eval]) HRO.out (.slice (some ⟨wr.heap.size, 0, none⟩) 1 1) [It.text x] (fun _ => True) (by simp [Act.eval]) HRS.out Nat.one_pos hle hbase (k + 1) HLE.out ?_; intro g cap w2 ho hg hm; have hx2 := (HX.out _ hg).2.2; obtain ⟨r0, r1, r2⟩ := cells3 hx2; have fr := frozen_of_row w2 (w.heap.size + 1) 2 _ _ hx2)
      all_goals
        have hOn := HRN.out _ _ ho hg hm
        have hXX := HX.out _ hg
        have hown := hOn.own
        have hOs : Hid (OwnList (fun F w cs x => ItemAt F w 1 cs x) (fun b => F b ∧ b < w.heap.size) (w.heap.size + 2) (w2.setCell ⟨w.heap.size + 1, 2, none⟩ (.slice (some ⟨g, 0, none⟩) (k + 1) cap)) 65 3 (.slice (some ⟨g, 0, none⟩) (k + 1) cap) ((l.take (k + 1)).map .text)) := by
          rw [HT.out]
          exact hOn.carry (carriedItem 1) (by simp) (fun b' hb' _ => Below.heap_setCell _ _ _ _ (by have := hb'.2; show b' ≠ w.heap.size + 1; omega)) (fun g' hg' => Below.heap_setCell _ _ _ _ (by have := (hown g' hg').1; show g' ≠ w.heap.size + 1; omega))
        have hBs : Hid (Below w.heap.size w (w2.setCell ⟨w.heap.size + 1, 2, none⟩ (.slice (some ⟨g, 0, none⟩) (k + 1) cap)) ∧ (w2.setCell ⟨w.heap.size + 1, 2, none⟩ (.slice (some ⟨g, 0, none⟩) (k + 1) cap)).heap[w.heap.size]? = some (.cells BC 40 (0, 0)) ∧
            (w2.setCell ⟨w.heap.size + 1, 2, none⟩ (.slice (some ⟨g, 0, none⟩) (k + 1) cap)).heap[w.heap.size + 1]? = some (.cells #[.bool true, .slice none 0 0, .slice (some ⟨g, 0, none⟩) (k + 1) cap] 65 (0, 0))) :=
          ⟨hXX.1.setCell (by show w.heap.size ≤ w.heap.size + 1; omega) _, by rw [Below.heap_setCell _ _ _ _ (by show w.heap.size ≠ w.heap.size + 1; omega)]; exact hXX.2.1, blk_setCell hXX.2.2⟩
        clear hOn hXX hown ho hg hm hx2 r0 r1 r2 fr
        go_wp2
        go_roundw
        case rel => exact ⟨k + 1, _, _, by omega, num_eq (by omega), hOs, hBs⟩
        case measure => simp [intOf]; omega
    · obtain rfl : k = n := by omega
      have hO := HO.out
      rw [List.take_of_length_le (by omega)] at hO
      have hits := hO.at (carriedItem 1) (G' := fun b => F b ∧ b < w.heap.size ∨ w.heap.size + 2 ≤ b) (fun _ h _ => .inl h) (fun b h _ => .inr h) (by decide)
      obtain ⟨r0, q32, q33, -⟩ := HBF.out wr HB.out.2.1
      have hsw := (Array.getElem?_eq_some_iff.1 HB.out.2.1).1
      have hsw1 := (Array.getElem?_eq_some_iff.1 HB.out.2.2).1
      have hkeep : ∀ W : World, Below wr.heap.size wr W → W.rangeAt w.heap.size 0 (cellsL p) ∧ W.cell? ⟨w.heap.size, 32, none⟩ = some (.int .u64 nn) ∧ W.cell? ⟨w.heap.size, 33, none⟩ = some (.int .u64 bb) ∧ W.cell? ⟨w.heap.size + 1, 0, none⟩ = some (.bool true) ∧ W.cell? ⟨w.heap.size + 1, 1, none⟩ = some (.slice none 0 0) ∧ W.cell? ⟨w.heap.size + 1, 2, none⟩ = some (.slice a1 k c1) := fun W hW => by
        obtain ⟨g1, g2, g3, -⟩ := HBF.out W ((hW.block _ hsw).trans HB.out.2.1)
        obtain ⟨g4, g5, g6⟩ := cells3 ((hW.block _ hsw1).trans HB.out.2.2)
        exact ⟨g1, g2, g3, g4, g5, g6⟩
      have hc32 : (cellsL p).length = 32 := by rw [cellsL_length]; exact HP.out
      have hinfoD : (Try.prog.info? 37).map (·.size) = some (cellsL p).length := by rw [hc32]; exact infoDig
      have HKP := Lib.hid hkeep
      have HIT := Lib.hid hits
      clear hO hits hkeep hN hk34 fq q0 q1 q2 r0 q32 q33 hc32 hinfoD
      go_wp2_with fail
      have HUD := underlyingDig
      have hc32 : (cellsL p).length = 32 := by rw [cellsL_length]; exact HP.out
      have hinfoD : (Try.prog.info? 37).map (·.size) = some (cellsL p).length := by rw [hc32]; exact infoDig
      clear hc32
      go_region_held3 (fun w' => w'.rangeAt w.heap.size 0 (cellsL p) ∧ w'.cell? ⟨w.heap.size, 32, none⟩ = some (.int .u64 nn) ∧ w'.cell? ⟨w.heap.size, 33, none⟩ = some (.int .u64 bb) ∧ w'.cell? ⟨w.heap.size + 1, 0, none⟩ = some (.bool true) ∧ w'.cell? ⟨w.heap.size + 1, 1, none⟩ = some (.slice none 0 0) ∧ w'.cell? ⟨w.heap.size + 1, 2, none⟩ = some (.slice a1 k c1)) (first | exact HKP.out _ (Bel.drew (Bel.refl wr)) | exact HKP.out _ (by assumption) | exact HKP.out _ (Bel.alloc (by assumption) _))
        (first
          | (go_at_call 53; refine (rname_any p _ HP.out).mono ?_; rintro e w3 ⟨v3, rfl, hit3, hb3⟩; have hB3 : Below wr.heap.size wr w3 := Bel.call (Bel.drew (Bel.refl wr)) hb3; obtain ⟨-, x1, y1, z1, x2, y2, z2, rfl, -, -, -⟩ := ItemAt.form hit3)
          | (go_at_call_of 54 (Value.int .u64 (nn : Int)); refine (rwordI_any nn _ HNN.out).mono ?_; rintro e w4 ⟨v4, rfl, hit4, hb4⟩; have hB4 : Below wr.heap.size wr w4 := Bel.call hB3 hb4; obtain ⟨-, x3, y3, z3, x4, y4, z4, rfl, -, -, -⟩ := ItemAt.form hit4)
          | (go_at_call_of 54 (Value.int .u64 (bb : Int)); refine (rwordI_any bb _ HBB.out).mono ?_; rintro e w5 ⟨v5, rfl, hit5, hb5⟩; have hB5 : Below wr.heap.size wr w5 := Bel.call hB4 hb5; obtain ⟨-, x5, y5, z5, x6, y6, z6, rfl, -, -, -⟩ := ItemAt.form hit5)
          | (go_at_call 45; refine (rencode_any (fun b => ((F b ∧ b < w.heap.size ∨ w.heap.size + 2 ≤ b) ∧ b < wr.heap.size) ∨ wr.heap.size ≤ b) _ 3 (blkI p nn bb l) true _ _ ⟨_, _, rfl, SliceAt.nil _ _ _ _, rblkItems hb4 hb5 hB3 hB4 hB5 hit3 hit4 hit5 HIT.out _⟩ HW.out).mono ?_; rintro e w8 ⟨v8, rfl, ho8, hb8⟩; have hB8 : Below wr.heap.size wr w8 := Bel.call (Bel.alloc hB5 _) hb8))
      have HB8 := Lib.hid (HB.out.1.trans (hB8.mono HB.out.1.size))
      obtain ⟨E, hE⟩ : ∃ E, E = (blkI p nn bb l).encode := ⟨_, rfl⟩
      rw [← hE] at ho8 ⊢
      have HE := Lib.hid hE
      have ho9 := ho8.lower (base' := w.heap.size) (by simp; have := HB.out.1.size; have := hB5.size; omega)
      clear hE hB3 hB4 hB5 hB8 hb3 hb4 hb5 hb8 hit3 hit4 hit5 ho8
      by_cases he : E.2 = 0
      · have he2 : (((E.2 : Nat) : Int) != 0) = false := by simp; omega
        go_wp2
        go_ret2
        exact ⟨v8, by unfold blkEncode; rw [← HE.out, if_pos he]; rfl, by unfold blkEncode; rw [← HE.out, if_pos he]; exact ho9, HB8.out⟩
      · have he2 : (((E.2 : Nat) : Int) != 0) = true := by simp; omega
        go_wp2
        go_ret2
        exact ⟨.slice none 0 0, by unfold blkEncode; rw [← HE.out, if_neg he]; rfl, by unfold blkEncode; rw [← HE.out, if_neg he]; exact OwnAt.nil _ _ _ _ _, HB8.out⟩
end Go.Proofs.Ytndkkgkcbbmnpaa
