/-
  Contracts of words.Key, words.number, words.Bytes, words.Read.
  Digests as plain functions: words as whole numbers from 0 to below 2^64, states of four words, texts mixed in 32 bytes at a time.
  Contracts of pergolaref02.head, body, Bytes.
  Reading items out of bytes and writing them are one another's inverse (plain law).
  Contract of pergolaref02.copied; pieces of bytes.
  Contracts of words.Read, pergolaref03.Bytes, pergolaref03.Read.
-/
import Derived.Test.YtndkkgkcbbmnpaaEcAE
namespace Go.Pg
open Go.RowKit
/-- the cells of bytes -/
def cellsOf (l : List UInt8) : Array Value := (l.map fun x => Value.int .u8 (x.toNat : Int)).toArray
theorem cellsOf_size (l : List UInt8) : (cellsOf l).size = l.length := by simp [cellsOf]
theorem cellsOf_get (l : List UInt8) (i : Nat) (h : i < l.length) : (cellsOf l)[i]? = some (.int .u8 ((l[i]).toNat : Int)) := by simp [cellsOf, h]
theorem cellsOf_set (l : List UInt8) (i : Nat) (x : UInt8) : (cellsOf l).setIfInBounds i (.int .u8 (x.toNat : Int)) = cellsOf (l.set i x) := by
  apply Array.ext'
  simp [cellsOf, List.map_set]
/-- a row of bytes that is filled from its head on -/
def filling (l : List UInt8) (k : Nat) : List UInt8 := l.take k ++ List.replicate (l.length - k) 0
theorem filling_length (l : List UInt8) (k : Nat) : (filling l k).length = l.length := by simp [filling]; omega
theorem filling_zero (l : List UInt8) : filling l 0 = List.replicate l.length 0 := by simp [filling]
theorem filling_all (l : List UInt8) : filling l l.length = l := by simp [filling]
theorem filling_step (l : List UInt8) (k : Nat) (h : k < l.length) : (filling l k).set k l[k] = filling l (k + 1) := by
  unfold filling
  rw [List.set_append_right _ _ (by simp; omega), List.length_take, Nat.min_eq_left (by omega), Nat.sub_self]
  rw [show l.length - k = (l.length - (k + 1)) + 1 by omega, List.replicate_succ, List.set_cons_zero, List.take_succ_eq_append_getElem h, List.append_assoc]
  rfl
/-- a block of bytes reads as bytes -/
theorem OwnAt.ofBlk {w : World} {base g : Nat} {e : TypeId} {l : List UInt8} (hg : base ≤ g) (h : w.heap[g]? = some (.cells (cellsOf l) e (0, 0))) (hm : l.length ≤ maxLen) : OwnAt w base e 1 byteR (.slice (some ⟨g, 0, none⟩) l.length l.length) l := by
  refine ⟨(cellsOf l).toList, ⟨by simp [cellsOf], .inr ⟨g, l.length, cellsOf l, rfl, hg, h, Nat.le_refl _, hm, by simp [cellsOf], by rw [Nat.mul_one, List.take_of_length_le (by simp [cellsOf])]⟩⟩, by simp [cellsOf], fun i x hx => ?_⟩
  refine ⟨[.int .u8 (x.toNat : Int)], rfl, rfl, fun j u hu => ?_⟩
  match j, hu with
  | 0, hu => simp at hu; subst hu; simp [cellsOf, hx]
theorem beBytes8_get (n k : Nat) (h : k < 8) : (beBytes 8 n)[k]'(by rw [beBytes_length]; exact h) = UInt8.ofNat (n / 256 ^ (7 - k) % 256) := by
  have := beBytes_get 8 n k h
  rw [List.getElem?_eq_getElem (by rw [beBytes_length]; exact h)] at this
  exact Option.some.inj this
theorem key_cell (n k : Nat) (h : k < 8) : (.int .u8 ((n : Int) / 2 ^ (56 - 8 * k) % 256) : Value) = .int .u8 (((beBytes 8 n)[k]'(by rw [beBytes_length]; exact h)).toNat : Int) := by
  rw [beBytes8_get n k h, show 56 - 8 * k = 8 * (7 - k) by omega, shift_byte, UInt8.toNat_ofNat', Nat.mod_eq_of_lt (Nat.mod_lt _ (by omega))]
theorem beBytes_zero (k : Nat) : beBytes k 0 = List.replicate k 0 := by
  induction k with
  | zero => rfl
  | succ k ih => simp only [beBytes, Nat.zero_div, ih, Nat.zero_mod]; rw [List.replicate_succ']; rfl
/-- a word in as few bytes as may be -/
def wordB (n : Nat) : List UInt8 := beBytes (number n) n
theorem strip_be (k : Nat) : ∀ n, n < 256 ^ k → (beBytes k n).dropWhile (· == 0) = wordB n := by
  unfold wordB
  induction k with
  | zero => intro n h; have : n = 0 := by simpa using h
            subst this; rw [number_zero]; rfl
  | succ k ih =>
    intro n h
    have hd : n / 256 < 256 ^ k := by rw [Nat.pow_succ] at h; exact Nat.div_lt_of_lt_mul (by omega)
    by_cases h0 : n = 0
    · subst h0; rw [beBytes_zero, number_zero]; simp [beBytes]
    · simp only [beBytes]
      rw [List.dropWhile_append, ih _ hd, number_pos (n := n) (by omega)]
      by_cases h1 : n / 256 = 0
      · rw [h1, number_zero]
        have h2 : (UInt8.ofNat (n % 256) == 0) = false := by
          have h3 : UInt8.ofNat (n % 256) ≠ 0 := fun e => by
            have := congrArg UInt8.toNat e
            rw [UInt8.toNat_ofNat'] at this
            simp at this; omega
          simpa using h3
        simp [beBytes, h2]
      · have h2 : (beBytes (number (n / 256)) (n / 256)).isEmpty = false := by
          rw [List.isEmpty_eq_false_iff]
          intro e
          have := congrArg List.length e
          rw [beBytes_length, number_pos (n := n / 256) (by omega)] at this
          simp at this
        rw [h2]
        simp [beBytes]
theorem wordB_strip (n : Nat) (h : (n : Int) < 18446744073709551616) : (beBytes 8 n).dropWhile (· == 0) = wordB n := strip_be 8 n (by omega)
theorem wordB_length (n : Nat) : (wordB n).length = number n := beBytes_length _ _
theorem wordB_le (n : Nat) (h : (n : Int) < 18446744073709551616) : (wordB n).length ≤ 8 := by rw [wordB_length]; exact number_le 8 n (by omega)
theorem number_snoc (bs : List UInt8) (k : Nat) (h : k < bs.length) : beNum (bs.take (k + 1)) = beNum (bs.take k) * 256 + (bs[k]).toNat := by rw [List.take_succ_eq_append_getElem h, beNum_snoc]
theorem beNum_small (bs : List UInt8) (k : Nat) (h : k ≤ 7) : beNum (bs.take k) < 256 ^ 7 :=
  Nat.lt_of_lt_of_le (beNum_lt _) (Nat.pow_le_pow_right (by omega) (by simp; omega))
theorem or_u64 (p : Nat) (x : UInt8) (hp : p < 256 ^ 7) : bits .or .u64 (IntKind.u64.wrap ((p : Int) * 256)) (IntKind.u64.wrap (x.toNat : Int)) = ((p * 256 + x.toNat : Nat) : Int) := by
  have hx := x.toNat_lt
  rw [IntWalk.u64_in _ (by omega), IntWalk.u64_in _ (by omega), show ((p : Int) * 256) = ((p * 256 : Nat) : Int) by omega, bits_or_u64_nat _ _ (by omega) (by omega)]
  have := Nat.two_pow_add_eq_or_of_lt (i := 8) (b := x.toNat) (by omega) p
  rw [show p * 256 = 2 ^ 8 * p by omega, ← this]
end Go.Pg
namespace Go.Proofs.Ytndkkgkcbbmnpaa
open Go.RowKit Go.Pg

theorem makeBytes (n : Nat) (h : n ≤ 70368744177664) (w : World) : (Instr.makeSlice 25 (.int .i64 n) (.int .i64 n)).run Try.prog w = .ok (.slice (some ⟨w.heap.size, 0, none⟩) n n) (w.alloc (.cells (cellsOf (List.replicate n 0)) 5)) := by
  obtain ⟨i0, hi, hz0, hz1, hz2⟩ := info_parts infoU8
  have := run_make (P := Try.prog) w 25 5 i0 (.int .u8 0) underlying25 hi hz0 .i64 .i64 n n (by omega) (by omega) (by rw [hz2]; omega) (by omega)
  rw [this, hz1, Int.toNat_natCast, Nat.mul_one]
  have e : madeCells (Value.int IntKind.u8 0).cells n = cellsOf (List.replicate n 0) := by
    apply Array.ext'
    simp only [madeCells, cellsOf, Value.cells, Array.toList_map, Array.toList_range, List.map_replicate]
    apply List.ext_getElem (by simp)
    intro i h1 h2
    simp [Nat.mod_one]
  rw [e]
theorem makeBytes8 (w : World) : (Instr.makeSlice 25 (.int .i64 8) (.int .i64 8)).run Try.prog w = .ok (.slice (some ⟨w.heap.size, 0, none⟩) 8 8) (w.alloc (.cells (cellsOf (List.replicate 8 0)) 5)) := makeBytes 8 (by omega) w
set_option maxRecDepth 100000 in
set_option maxHeartbeats 1000000 in
theorem key_any (n : Nat) (w : World) (hn : (n : Int) < 18446744073709551616) :
    Calls Try.prog 97 #[.int .u64 n] w (Fresh w 5 1 byteR (beBytes 8 n)) := by
  have hmk := makeBytes8
  have hn0 : (0 : Int) ≤ (n : Int) := by omega
  go_enter Try.func97, Try.ntmps97
  go_wp2
  go_loopw [6] (fun i wr => ∃ k : Nat, k ≤ 8 ∧ i = .int .i64 k ∧ Hid (Below w.heap.size w wr) ∧ wr.heap[w.heap.size]? = some (.cells (cellsOf (filling (beBytes 8 n) k)) 5 (0, 0))) (fun i _ => 8 - (intOf i).toNat)
  case atStart => exact ⟨0, by omega, rfl, Bel.alloc (Bel.refl w) _, by rw [filling_zero, beBytes_length]; exact heap_alloc_new w _⟩
  case round =>
    obtain ⟨k, hk, rfl, HB, hblk⟩ := hrel
    by_cases hlt : k < 8
    · have hc : wr.cell? ⟨w.heap.size, k, none⟩ = some (.int .u8 (((filling (beBytes 8 n) k)[k]'(by rw [filling_length, beBytes_length]; exact hlt)).toNat : Int)) := by
        rw [cell_of_row _ _ _ _ _ _ hblk, cellsOf_get]
      have hf := frozen_of_row wr w.heap.size k _ _ hblk
      have HK := Lib.hid hblk
      have hk0 : (0 : Int) ≤ (k : Int) := by omega
      have hk1 : (k : Int) < 8 := by omega
      clear hblk
      go_wp2
      go_roundw
      case rel => exact ⟨k + 1, by omega, num_eq (by omega), HB.out.setCell (Nat.le_refl _) _, by rw [key_cell n k hlt, blk_setCell HK.out, cellsOf_set, filling_step _ _ (by rw [beBytes_length]; exact hlt)]⟩
      case measure => simp [intOf]; omega
    · obtain rfl : k = 8 := by omega
      have hb8 := filling_all (beBytes 8 n)
      rw [beBytes_length] at hb8
      rw [hb8] at hblk
      clear hb8
      go_wp2
      go_ret
      have := OwnAt.ofBlk (Nat.le_refl _) hblk (by rw [beBytes_length]; decide)
      rw [beBytes_length] at this
      exact ⟨_, rfl, this, HB⟩

set_option maxRecDepth 100000 in
set_option maxHeartbeats 1000000 in
theorem number_u64 (F : Nat → Prop) (w : World) (a : Option Addr) (n c : Nat) (bs : List UInt8) (h : BytesAt F w (.slice a n c) bs) (hn : n ≤ 8) :
    Calls Try.prog 98 #[.slice a n c] w fun e w' => e = .returned (.int .u64 (beNum bs)) ∧ w' = w := by
  have hnb := (SliceAt.len h)
  obtain ⟨a', c', hv, hnc, hcm, -⟩ := hnb
  simp only [Value.slice.injEq] at hv
  obtain ⟨rfl, hnl, rfl⟩ := hv
  have HN := Lib.hid hnl
  have H := Lib.hid h
  have hnc' : n ≤ c := by omega
  unfold maxLen at hcm
  clear hnl h hnc
  go_enter Try.func98, Try.ntmps98
  go_wp2
  go_loop [3, 7] (fun s i => ∃ k : Nat, k ≤ n ∧ i = .int .i64 k ∧ s = .int .u64 (beNum (bs.take k))) (fun _ i => n - (intOf i).toNat)
  case atStart => exact ⟨0, by omega, rfl, rfl⟩
  case round =>
    obtain ⟨k, hk, rfl, rfl⟩ := hrel
    by_cases hlt : k < n
    · rcases SliceAt.split H.out with ⟨_, h0⟩ | ⟨b, o, rfl, -, -, -⟩
      · omega
      have hc := BytesAt.cell H.out k (by have := HN.out; omega)
      obtain ⟨p, hp⟩ : ∃ p, p = beNum (bs.take k) := ⟨_, rfl⟩
      obtain ⟨x, hx⟩ : ∃ x, x = bs[k]'(by have := HN.out; omega) := ⟨_, rfl⟩
      rw [← hx] at hc
      rw [← hp]
      have HP := Lib.hid hp
      have HX := Lib.hid hx
      have hk0 : (0 : Int) ≤ (k : Int) := by omega
      have hk1 : (k : Int) < (n : Int) := by omega
      clear hp hx
      go_wp2
      go_round
      case rel => exact ⟨k + 1, by omega, num_eq (by omega), num_eq (by rw [number_snoc bs k (by have := HN.out; omega), ← HP.out, ← HX.out]; exact or_u64 p x (by rw [HP.out]; exact beNum_small bs k (by omega)))⟩
      case measure => simp [intOf]; omega
    · obtain rfl : n = k := by omega
      go_wp2
      go_ret
      exact ⟨ret_int (by rw [List.take_of_length_le (by have := HN.out; omega)]), rfl⟩

/-- bytes out of new memory -/
theorem lit_own (w : World) (e : TypeId) : OwnAt w w.heap.size e 1 byteR (.slice none 0 0) ([] : List UInt8) := OwnAt.nil _ _ _ _ _

set_option maxRecDepth 100000 in
set_option maxHeartbeats 1000000 in
theorem wbytes_any (n : Nat) (w : World) (hn : (n : Int) < 18446744073709551616) :
    Calls Try.prog 80 #[.int .u64 n] w (Fresh w 5 1 byteR (wordB n)) := by
  obtain ⟨i0, hi, hz0, hz1, hz2⟩ := info_parts infoU8
  have hst := wordB_strip n hn
  have HST := Lib.hid hst
  clear hst
  go_enter Try.func80, Try.ntmps80
  go_wp2_with fail
  refine (key_any n w hn).mono ?_
  rintro e w1 ⟨v1, rfl, ho, hb⟩
  have hat := ho.at (F := fun _ => True) (fun _ _ _ _ => trivial) (by decide)
  obtain ⟨a1, c1, rfl, h1, h2, -⟩ := ho.len
  rw [beBytes_length] at h1 hat ⊢
  have HB := Lib.hid hb
  have HA := Lib.hid hat
  clear hb hat ho
  go_wp2
  go_loop [3] (fun v => ∃ l a m c, v = .slice a m c ∧ m ≤ 8 ∧ c ≤ 2 ^ 63 - 1 ∧ m ≤ c ∧ Hid (m = l.length ∧ BytesAt (fun _ => True) w1 (.slice a m c) l ∧ l.dropWhile (· == 0) = wordB n)) (fun v => match v with | .slice _ m _ => m | _ => 0)
  case atStart => exact ⟨beBytes 8 n, a1, 8, c1, rfl, by omega, by unfold maxLen at h2; omega, by omega, by rw [beBytes_length], HA.out, HST.out⟩
  case round =>
    obtain ⟨l, a, m, c, rfl, hl8, hcm, hlc, H⟩ := hrel
    obtain ⟨hm, h3, h4⟩ := H.out
    by_cases hz : ∃ t, l = 0 :: t
    · obtain ⟨t, rfl⟩ := hz
      obtain ⟨k, rfl⟩ : ∃ k, m = k + 1 := ⟨t.length, by simpa using hm⟩
      have hk : k = t.length := by simpa using hm
      rcases SliceAt.split h3 with ⟨h0, _⟩ | ⟨b, o, rfl, -, -, -⟩
      · cases h0
      have hc := BytesAt.cell h3 0 (by simp)
      simp only [Nat.add_zero, List.getElem_cons_zero] at hc
      have hs := BytesAt.since h3 1 (by omega) (a2 := if c = 1 then some ⟨b, o, none⟩ else some ⟨b, o + 1, none⟩) (by simp [Addr.add])
      simp only [List.drop_succ_cons, List.drop_zero, Nat.add_sub_cancel] at hs
      have h5 : t.dropWhile (· == 0) = wordB n := by rw [← h4]; simp
      have HS : Hid (k = t.length ∧ BytesAt (fun _ => True) w1 (.slice (if c = 1 then some ⟨b, o, none⟩ else some ⟨b, o + 1, none⟩) k (c - 1)) t ∧ t.dropWhile (· == 0) = wordB n) := Lib.hid ⟨hk, hs, h5⟩
      clear h3 h4 H hs h5 hm hk
      go_wp2
      go_round
      case rel => exact ⟨t, _, _, _, rfl, by omega, by omega, by omega, HS⟩
      case measure => simp
    · have h5 : l = wordB n := by
        rw [← h4]
        cases l with
        | nil => rfl
        | cons x t =>
          have : (x == 0) = false := by simpa using fun e => hz ⟨t, by rw [e]⟩
          simp [this]
      have hpath : m = 0 ∨ (0 < m ∧ ∃ b o x, a = some ⟨b, o, none⟩ ∧ w1.cell? ⟨b, o, none⟩ = some (.int .u8 ((x : Nat) : Int)) ∧ 0 < x) := by
        rcases SliceAt.split h3 with ⟨h0, h1⟩ | ⟨b, o, rfl, -, hp, -⟩
        · exact .inl h1
        · cases l with
          | nil => simp at hm; exact .inl hm
          | cons x t =>
            have hc := BytesAt.cell h3 0 (by simp)
            simp only [Nat.add_zero, List.getElem_cons_zero] at hc
            refine .inr ⟨hp, b, o, x.toNat, rfl, hc, ?_⟩
            rcases Nat.eq_zero_or_pos x.toNat with h | h
            · exact absurd ⟨t, by rw [UInt8.toNat_inj.1 (show x.toNat = (0 : UInt8).toNat from h)]⟩ hz
            · exact h
      have hbase := HB.out.size
      have hle : (([] : List UInt8).length + l.length) * 1 ≤ 140737488355328 := by simp; omega
      subst h5
      have H3 := Lib.hid h3
      have HLE := Lib.hid hle
      clear h3 h4 H hz hm hle
      rcases hpath with rfl | ⟨hp, b, o, x, rfl, hc, hx⟩
      rotate_left
      have hx0 : ((x : Int) == 0) = false := by simp; omega
      all_goals
        go_wp2_with (at_builtin; refine wpList_append_at rfl (.const (.slice none 0 0)) (.tmp 17) 25 rfl w.heap.size 5 i0 (.int .u8 0) 1 1 underlying25 hi hz0 hz1 hz2 rfl (by decide) (by decide) byteR.one (.slice none 0 0) [] rfl (OwnAt.nil _ _ _ _ _) _ (wordB n) (fun _ => True) rfl H3.out HLE.out hbase ?_; intro v2 w2 ho hg hm)
        go_ret
        exact ⟨_, rfl, by simpa using ho, HB.out.grown hg hbase (fun k hk => by cases hk)⟩
end Go.Proofs.Ytndkkgkcbbmnpaa
namespace Go.Pg
open Go.RowKit
def addW (a b : Int) : Int := IntKind.u64.wrap (a + b)
def xorW (a b : Int) : Int := bits .xor .u64 a b
def rotW (x : Int) (n : Nat) : Int := bits .or .u64 (IntKind.u64.wrap (x * 2 ^ n)) (x / 2 ^ (64 - n))
structure S4 where
  a : Int
  b : Int
  c : Int
  d : Int
def S4.get (s : S4) : Nat → Int | 0 => s.a | 1 => s.b | 2 => s.c | _ => s.d
def S4.set (s : S4) : Nat → Int → S4
  | 0, v => { s with a := v } | 1, v => { s with b := v } | 2, v => { s with c := v } | _, v => { s with d := v }
def S4.cells (s : S4) : Array Value := #[.int .u64 s.a, .int .u64 s.b, .int .u64 s.c, .int .u64 s.d]
def S4.xor (s m : S4) : S4 := ⟨xorW s.a m.a, xorW s.b m.b, xorW s.c m.c, xorW s.d m.d⟩
/-- the first k words are those of t, the others those of s -/
def S4.part (k : Nat) (t s : S4) : S4 := ⟨if 0 < k then t.a else s.a, if 1 < k then t.b else s.b, if 2 < k then t.c else s.c, if 3 < k then t.d else s.d⟩
theorem S4.part_zero (t s : S4) : S4.part 0 t s = s := by simp [S4.part]
theorem S4.part_four (t s : S4) : S4.part 4 t s = t := by simp [S4.part]
theorem S4.part_get (t s : S4) (k : Nat) (h : k < 4) : (S4.part k t s).get k = s.get k := by
  rcases k with _ | _ | _ | _ | k
  all_goals first | rfl | omega
theorem S4.part_set (t s : S4) (k : Nat) (h : k < 4) : (S4.part k t s).set k (t.get k) = S4.part (k + 1) t s := by
  rcases k with _ | _ | _ | _ | k
  all_goals first | rfl | omega
theorem S4.xor_get (s m : S4) (k : Nat) (h : k < 4) : (s.xor m).get k = xorW (s.get k) (m.get k) := by
  rcases k with _ | _ | _ | _ | k
  all_goals first | rfl | omega
theorem S4.cells_get (s : S4) (k : Nat) (h : k < 4) : s.cells[k]? = some (.int .u64 (s.get k)) := by
  rcases k with _ | _ | _ | _ | k
  all_goals first | rfl | omega
theorem S4.cells_set (s : S4) (k : Nat) (h : k < 4) (v : Int) : s.cells.setIfInBounds k (.int .u64 v) = (s.set k v).cells := by
  rcases k with _ | _ | _ | _ | k
  all_goals first | rfl | omega
theorem S4.ext' {s t : S4} (h : ∀ k, k < 4 → s.get k = t.get k) : s = t := by
  have h0 := h 0 (by omega)
  have h1 := h 1 (by omega)
  have h2 := h 2 (by omega)
  have h3 := h 3 (by omega)
  obtain ⟨a, b, c, d⟩ := s
  obtain ⟨a', b', c', d'⟩ := t
  simp only [S4.get] at h0 h1 h2 h3
  subst h0 h1 h2 h3
  rfl
def S4.ok (s : S4) : Prop := ∀ k, k < 4 → 0 ≤ s.get k ∧ s.get k ≤ 18446744073709551615
def golden : Int := 11400714819323198485
/-- what is added in a round -/
def kay (r : Nat) : Int := (golden * (r + 1 : Nat)) % 18446744073709551616
theorem kay_zero : kay 0 = 11400714819323198485 := by decide
theorem kay_step (r : Nat) : IntKind.u64.wrap (kay r + 11400714819323198485) = kay (r + 1) := by
  rw [IntKind.wrap_u64]; unfold kay golden; omega
def round (m : S4) (r : Nat) (s : S4) : S4 :=
  let a1 := addW s.a (addW (addW s.b (m.get (r % 4))) (kay r))
  let d1 := rotW (xorW s.d a1) 32
  let c1 := addW s.c d1
  let b1 := rotW (xorW s.b c1) 24
  let a2 := addW a1 b1
  let d2 := rotW (xorW d1 a2) 16
  let c2 := addW c1 d2
  let b2 := rotW (xorW b1 c2) 63
  ⟨b2, c2, d2, a2⟩
def rounds (m s : S4) : Nat → S4
  | 0 => s
  | r + 1 => round m r (rounds m s r)
/-- a state behind four more words -/
def mixedS (s m : S4) : S4 := (rounds m (s.xor m) 8).xor s
/-- the four words of 32 bytes -/
def wordAt (l : List UInt8) (at_ : Nat) : Int := (beNum ((l.drop at_).take 8) : Nat)
def wordsOf (l : List UInt8) : S4 := ⟨wordAt l 0, wordAt l 8, wordAt l 16, wordAt l 24⟩
def begunS : S4 := ⟨kay 0, kay 1, kay 2, kay 3⟩
def absorb (s : S4) (l : List UInt8) : S4 := if 32 ≤ l.length then absorb (mixedS s (wordsOf l)) (l.drop 32) else s
termination_by l.length
decreasing_by simp; omega
/-- how many zeros -/
def zeros (n : Nat) : Nat := (55 + 32 - n % 32) % 32
def padOf (l : List UInt8) (n : Nat) : List UInt8 := l ++ [128] ++ List.replicate (zeros l.length) 0 ++ beBytes 8 n
def outS (s : S4) : List UInt8 := beBytes 8 s.a.toNat ++ beBytes 8 s.b.toNat ++ beBytes 8 s.c.toNat ++ beBytes 8 s.d.toNat
/-- the digest of a text -/
def digestOf (l : List UInt8) : List UInt8 := outS (absorb begunS (padOf l l.length))
theorem outS_length (s : S4) : (outS s).length = 32 := by simp [outS, beBytes_length]
theorem digestOf_length (l : List UInt8) : (digestOf l).length = 32 := outS_length _
theorem padOf_length (l : List UInt8) (n : Nat) : (padOf l n).length % 32 = 0 := by
  simp only [padOf, List.length_append, List.length_cons, List.length_nil, List.length_replicate, beBytes_length, zeros]; omega
theorem absorb_step (s : S4) (l : List UInt8) (h : 32 ≤ l.length) : absorb s l = absorb (mixedS s (wordsOf l)) (l.drop 32) := by rw [absorb, if_pos h]
theorem absorb_done (s : S4) (l : List UInt8) (h : l.length < 32) : absorb s l = s := by rw [absorb, if_neg (by omega)]
theorem wordsOf_append (l m : List UInt8) (h : 32 ≤ l.length) : wordsOf (l ++ m) = wordsOf l := by
  have : ∀ k, k + 8 ≤ 32 → wordAt (l ++ m) k = wordAt l k := fun k hk => by
    unfold wordAt
    rw [List.drop_append_of_le_length (by omega), List.take_append_of_le_length (by rw [List.length_drop]; omega)]
  unfold wordsOf
  rw [this 0 (by omega), this 8 (by omega), this 16 (by omega), this 24 (by omega)]
theorem wordsOf_take (l : List UInt8) : wordsOf (l.take 32) = wordsOf l := by
  have : ∀ k, k + 8 ≤ 32 → wordAt (l.take 32) k = wordAt l k := fun k hk => by
    unfold wordAt
    rw [List.drop_take, List.take_take, Nat.min_eq_left (by omega)]
  unfold wordsOf
  rw [this 0 (by omega), this 8 (by omega), this 16 (by omega), this 24 (by omega)]
/-- whole pieces ahead of more -/
theorem absorb_append (k : Nat) : ∀ (s : S4) (l m : List UInt8), l.length = 32 * k → absorb s (l ++ m) = absorb (absorb s l) m := by
  induction k with
  | zero => intro s l m h; have : l = [] := List.eq_nil_of_length_eq_zero (by omega)
            subst this; rw [absorb_done s [] (by simp)]; rfl
  | succ k ih =>
    intro s l m h
    rw [absorb_step s (l ++ m) (by simp; omega), absorb_step s l (by omega), wordsOf_append l m (by omega), List.drop_append_of_le_length (by omega)]
    exact ih _ _ _ (by rw [List.length_drop]; omega)
/-- the bytes that are left when whole pieces are mixed in -/
def restOf (l : List UInt8) : List UInt8 := l.drop (32 * (l.length / 32))
theorem absorb_rest (s : S4) (l : List UInt8) (n : Nat) : absorb s (padOf l n) = absorb (absorb s l) (padOf (restOf l) n) := by
  have h1 : padOf l n = l.take (32 * (l.length / 32)) ++ padOf (restOf l) n := by
    have hz : zeros l.length = zeros (restOf l).length := by
      unfold restOf zeros; rw [List.length_drop]; omega
    unfold padOf
    rw [hz]
    generalize zeros (restOf l).length = z
    conv => lhs; rw [← List.take_append_drop (32 * (l.length / 32)) l]
    unfold restOf
    simp only [List.append_assoc]
  have hl : (l.take (32 * (l.length / 32))).length = 32 * (l.length / 32) := by rw [List.length_take]; omega
  have h2 : absorb s l = absorb s (l.take (32 * (l.length / 32))) := by
    conv => lhs; rw [← List.take_append_drop (32 * (l.length / 32)) l]
    rw [absorb_append _ _ _ _ hl, absorb_done _ _ (by rw [List.length_drop]; omega)]
  rw [h1, absorb_append _ _ _ _ hl, h2]
end Go.Pg
namespace Go.Pg
open Go.RowKit
/-- bytes that have just been laid -/
theorem OwnAt.lit (w : World) (e : TypeId) (cs : Array Value) (bs : List UInt8) (h : cs.toList = bs.map fun x => .int .u8 (x.toNat : Int)) (hl : bs.length ≤ maxLen) :
    OwnAt (w.alloc (.cells cs e)) w.heap.size e 1 byteR (.slice (some ⟨w.heap.size, 0, none⟩) bs.length bs.length) bs := by
  refine ⟨cs.toList, World.ownsRow_lit w cs bs.length (Nat.le_refl _) hl (by rw [← Array.length_toList, h]; simp), by rw [h]; simp, fun i x hx => ?_⟩
  refine ⟨[.int .u8 (x.toNat : Int)], rfl, rfl, fun j u hu => ?_⟩
  match j, hu with
  | 0, hu =>
    simp at hu; subst hu
    rw [h]; simp [hx]
theorem toNat_ofNat_lt (n : Nat) (h : n < 256) : (((UInt8.ofNat n).toNat : Nat) : Int) = (n : Int) := by
  rw [UInt8.toNat_ofNat', Nat.mod_eq_of_lt (by omega)]
theorem headB_1 (base n : Nat) (h : n ≤ 55) : headB base n = [UInt8.ofNat (base + n)] := by unfold headB; rw [if_pos h]
theorem number_1 (n : Nat) (h0 : 0 < n) (h : n < 256) : number n = 1 := by
  rw [number_pos h0, show n / 256 = 0 by omega, number_zero]
theorem number_2 (n : Nat) (h0 : 256 ≤ n) (h : n < 65536) : number n = 2 := by
  rw [number_pos (by omega), number_1 _ (by omega) (by omega)]
theorem number_3 (n : Nat) (h0 : 65536 ≤ n) (h : n < 16777216) : number n = 3 := by
  rw [number_pos (by omega), number_2 _ (by omega) (by omega)]
theorem headB_2 (base n : Nat) (h0 : 55 < n) (h : n < 256) : headB base n = [UInt8.ofNat (base + 56), UInt8.ofNat n] := by
  unfold headB; rw [if_neg (by omega), number_1 n (by omega) h]
  simp only [beBytes, List.nil_append]
  rw [show n % 256 = n by omega]
theorem headB_3 (base n : Nat) (h0 : 256 ≤ n) (h : n < 65536) : headB base n = [UInt8.ofNat (base + 57), UInt8.ofNat (n / 256), UInt8.ofNat (n % 256)] := by
  unfold headB; rw [if_neg (by omega), number_2 n (by omega) h]
  simp only [beBytes, List.nil_append, List.cons_append]
  rw [show n / 256 % 256 = n / 256 by omega]
theorem headB_4 (base n : Nat) (h0 : 65536 ≤ n) (h : n < 16777216) : headB base n = [UInt8.ofNat (base + 58), UInt8.ofNat (n / 65536), UInt8.ofNat (n / 256 % 256), UInt8.ofNat (n % 256)] := by
  unfold headB; rw [if_neg (by omega), number_3 n (by omega) h]
  simp only [beBytes, List.nil_append, List.cons_append]
  rw [show n / 256 / 256 = n / 65536 by omega, show n / 65536 % 256 = n / 65536 by omega]
end Go.Pg
namespace Go.Proofs.Ytndkkgkcbbmnpaa
open Go.RowKit Go.Pg

set_option maxRecDepth 100000 in
set_option maxHeartbeats 1000000 in
theorem head_any (base n : Nat) (w : World) (hb : base ≤ 192) (hn : n < 16777216) :
    Calls Try.prog 93 #[.int .i64 base, .int .i64 n] w (Fresh w 5 1 byteR (headB base n)) := by
  by_cases h1 : n ≤ 55
  · have e := headB_1 base n h1
    rw [e]
    go_enter Try.func93, Try.ntmps93
    go_wp2
    go_ret
    exact ⟨_, rfl, OwnAt.lit w _ _ [UInt8.ofNat (base + n)] (by simp only [List.map_cons, List.map_nil]; rw [toNat_ofNat_lt _ (by omega)]; rfl) (show 1 ≤ maxLen by decide), Bel.alloc (Bel.refl w) _⟩
  · by_cases h2 : n < 256
    · have e := headB_2 base n (by omega) h2
      rw [e]
      go_enter Try.func93, Try.ntmps93
      go_wp2
      go_ret
      exact ⟨_, rfl, OwnAt.lit w _ _ [UInt8.ofNat (base + 56), UInt8.ofNat n] (by simp only [List.map_cons, List.map_nil]; rw [toNat_ofNat_lt _ (by omega), toNat_ofNat_lt _ (by omega)]; rfl) (show 2 ≤ maxLen by decide), Bel.alloc (Bel.refl w) _⟩
    · by_cases h3 : n < 65536
      · have e := headB_3 base n (by omega) h3
        have HE := Lib.hid e
        have H2 := Lib.hid h2
        have H3 := Lib.hid h3
        have HN := Lib.hid hn
        have z1 : ¬ (n : Int) ≤ 55 := by omega
        have z2 : ¬ (n : Int) < 256 := by omega
        have z3 : (0 : Int) ≤ n := by omega
        have z4 : (n : Int) < 65536 := by omega
        clear h1 h2 h3 hn e
        go_enter Try.func93, Try.ntmps93
        go_wp2
        go_ret
        have h2 := H2.out
        have h3 := H3.out
        have hn := HN.out
        have hq := OwnAt.lit w 5 #[.int .u8 ((base : Int) + 57), .int .u8 ((n : Int) / 256), .int .u8 ((n : Int) % 256)] [UInt8.ofNat (base + 57), UInt8.ofNat (n / 256), UInt8.ofNat (n % 256)] (by simp only [List.map_cons, List.map_nil]; rw [toNat_ofNat_lt _ (by omega), toNat_ofNat_lt _ (by omega), toNat_ofNat_lt _ (by omega)]; rfl) (show 3 ≤ maxLen by decide)
        rw [HE.out]
        exact ⟨.slice (some ⟨w.heap.size, 0, none⟩) 3 3, rfl, hq, Bel.alloc (Bel.refl w) _⟩
      · have e := headB_4 base n (by omega) hn
        have HE := Lib.hid e
        have H2 := Lib.hid h2
        have H3 := Lib.hid h3
        have HN := Lib.hid hn
        have z1 : ¬ (n : Int) ≤ 55 := by omega
        have z2 : ¬ (n : Int) < 256 := by omega
        have z3 : ¬ (n : Int) < 65536 := by omega
        have z4 : (n : Int) < 16777216 := by omega
        clear h1 h2 h3 hn e
        go_enter Try.func93, Try.ntmps93
        go_wp2
        go_ret
        have h2 := H2.out
        have h3 := H3.out
        have hn := HN.out
        have hq := OwnAt.lit w 5 #[.int .u8 ((base : Int) + 58), .int .u8 ((n : Int) / 65536), .int .u8 ((n : Int) / 256 % 256), .int .u8 ((n : Int) % 256)] [UInt8.ofNat (base + 58), UInt8.ofNat (n / 65536), UInt8.ofNat (n / 256 % 256), UInt8.ofNat (n % 256)] (by simp only [List.map_cons, List.map_nil]; rw [toNat_ofNat_lt _ (by omega), toNat_ofNat_lt _ (by omega), toNat_ofNat_lt _ (by omega), toNat_ofNat_lt _ (by omega)]; rfl) (show 4 ≤ maxLen by decide)
        rw [HE.out]
        exact ⟨.slice (some ⟨w.heap.size, 0, none⟩) 4 4, rfl, hq, Bel.alloc (Bel.refl w) _⟩

end Go.Proofs.Ytndkkgkcbbmnpaa
namespace Go.Pg
theorem triple {A B C : Type} (p : A × B × C) : ∃ a b c, p = (a, b, c) := ⟨p.1, p.2.1, p.2.2, rfl⟩
theorem beBytes_beNum_snoc (l : List UInt8) (c : UInt8) (h : beBytes l.length (beNum l) = l) : beBytes (l ++ [c]).length (beNum (l ++ [c])) = l ++ [c] := by
  have hc := c.toNat_lt
  rw [beNum_snoc, List.length_append, List.length_singleton]
  simp only [beBytes]
  rw [show (beNum l * 256 + c.toNat) / 256 = beNum l by omega, show (beNum l * 256 + c.toNat) % 256 = c.toNat by omega, h]
  simp
theorem beBytes_beNum (l : List UInt8) : beBytes l.length (beNum l) = l := by
  have : ∀ r : List UInt8, beBytes r.reverse.length (beNum r.reverse) = r.reverse := by
    intro r
    induction r with
    | nil => rfl
    | cons c r ih => rw [List.reverse_cons]; exact beBytes_beNum_snoc _ _ ih
  have h := this l.reverse
  rwa [List.reverse_reverse] at h
theorem beNum_beBytes (k : Nat) : ∀ n, n < 256 ^ k → beNum (beBytes k n) = n := by
  induction k with
  | zero => intro n h; have : n = 0 := by simpa using h
            subst this; rfl
  | succ k ih =>
    intro n h
    simp only [beBytes]
    rw [beNum_snoc, ih (n / 256) (by rw [Nat.pow_succ] at h; omega), UInt8.toNat_ofNat', Nat.mod_eq_of_lt (a := n % 256) (by omega)]
    omega
theorem foldl_ge (l : List UInt8) : ∀ a : Nat, a * 256 ^ l.length ≤ l.foldl (fun n c => n * 256 + c.toNat) a := by
  induction l with
  | nil => intro a; simp
  | cons c l ih =>
    intro a
    have h1 := ih (a * 256 + c.toNat)
    simp only [List.foldl_cons, List.length_cons, Nat.pow_succ]
    have h3 : (a * 256) * 256 ^ l.length ≤ (a * 256 + c.toNat) * 256 ^ l.length := Nat.mul_le_mul_right _ (by omega)
    have h4 : a * (256 ^ l.length * 256) = (a * 256) * 256 ^ l.length := by rw [Nat.mul_comm (256 ^ l.length), Nat.mul_assoc]
    omega
theorem beNum_ge (c : UInt8) (l : List UInt8) (h : c ≠ 0) : 256 ^ l.length ≤ beNum (c :: l) := by
  have h1 := foldl_ge l (0 * 256 + c.toNat)
  have h2 : 1 ≤ c.toNat := by
    have : c.toNat ≠ 0 := fun e => h (UInt8.toNat_inj.1 (by simpa using e))
    omega
  have h3 : 1 * 256 ^ l.length ≤ (0 * 256 + c.toNat) * 256 ^ l.length := Nat.mul_le_mul_right _ (by omega)
  show _ ≤ List.foldl _ 0 (c :: l)
  simp only [List.foldl_cons]; omega
theorem number_ge (k : Nat) : ∀ n, 256 ^ k ≤ n → k + 1 ≤ number n := by
  induction k with
  | zero => intro n h; rw [number_pos (by simp at h; omega)]; omega
  | succ k ih =>
    intro n h
    have h0 : 0 < 256 ^ (k + 1) := Nat.pow_pos (by omega)
    rw [number_pos (by omega)]
    have := ih (n / 256) (by rw [Nat.pow_succ] at h; omega)
    omega
theorem number_eq (k n : Nat) (h1 : 256 ^ k ≤ n) (h2 : n < 256 ^ (k + 1)) : number n = k + 1 := by
  have := number_ge k n h1
  have := number_le (k + 1) n h2
  omega

/-- a size that was read is the one that is written -/
theorem readSize_sound (base m n : Nat) (t t' : List UInt8) (h : readSize m t = (0, n, t')) : UInt8.ofNat (base + m) :: t = headB base n ++ t' ∧ n ≤ 16777215 := by
  unfold readSize at h
  by_cases h55 : m ≤ 55
  · rw [if_pos h55] at h
    simp only [Prod.mk.injEq, true_and] at h
    obtain ⟨rfl, rfl⟩ := h
    unfold headB; rw [if_pos h55]; exact ⟨rfl, by omega⟩
  · rw [if_neg h55] at h
    by_cases h58 : 58 < m
    · rw [if_pos h58] at h; simp at h
    · rw [if_neg h58] at h
      by_cases hl : t.length < m - 55
      · rw [if_pos hl] at h; simp at h
      · rw [if_neg hl] at h
        obtain ⟨k, rfl⟩ : ∃ k, m = k + 56 := ⟨m - 56, by omega⟩
        rw [show k + 56 - 55 = k + 1 by omega] at h hl
        split at h
        · simp at h
        · rename_i hc
          simp only [Prod.mk.injEq, true_and] at h
          obtain ⟨rfl, rfl⟩ := h
          have hlen : (t.take (k + 1)).length = k + 1 := by rw [List.length_take]; omega
          cases t with
          | nil => simp at hl
          | cons c s =>
            have hc0 : c ≠ 0 := fun e => hc (.inl (by simpa using e))
            have hn55 : ¬ beNum ((c :: s).take (k + 1)) ≤ 55 := fun e => hc (.inr e)
            have hlo : 256 ^ k ≤ beNum ((c :: s).take (k + 1)) := by
              have := beNum_ge c (s.take k) hc0
              rw [List.length_take] at this
              simp only [List.length_cons] at hl
              rwa [Nat.min_eq_left (by omega)] at this
            have hhi := beNum_lt ((c :: s).take (k + 1))
            rw [hlen] at hhi
            have hnum := number_eq k _ hlo hhi
            have hb := beBytes_beNum ((c :: s).take (k + 1))
            rw [hlen] at hb
            refine ⟨?_, ?_⟩
            · unfold headB
              rw [if_neg hn55, hnum, hb, show base + (k + 56) = base + 55 + (k + 1) by omega, List.cons_append, List.take_append_drop]
            · have : 256 ^ (k + 1) ≤ 256 ^ 3 := Nat.pow_le_pow_right (by omega) (by omega)
              omega
/-- what is written of a size is read -/
theorem readSize_head (base n : Nat) (t : List UInt8) (h : n ≤ 16777215) : ∃ m s, m ≤ 58 ∧ headB base n ++ t = UInt8.ofNat (base + m) :: s ∧ readSize m s = (0, n, t) := by
  by_cases h55 : n ≤ 55
  · refine ⟨n, t, by omega, by unfold headB; rw [if_pos h55]; rfl, by unfold readSize; rw [if_pos h55]⟩
  · have hn3 : number n ≤ 3 := number_le 3 n (by omega)
    have hk : ∃ k, number n = k + 1 := ⟨number n - 1, by rw [number_pos (by omega)]; omega⟩
    obtain ⟨k, hk⟩ := hk
    have hlt : n < 256 ^ (k + 1) := by
      by_cases h : n < 256 ^ (k + 1)
      · exact h
      · have := number_ge (k + 1) n (by omega); omega
    have hge : 256 ^ k ≤ n := by
      by_cases h : 256 ^ k ≤ n
      · exact h
      · have := number_le k n (by omega); omega
    have hbl := beBytes_length (k + 1) n
    refine ⟨55 + (k + 1), beBytes (k + 1) n ++ t, by omega, by unfold headB; rw [if_neg h55, hk, show base + 55 + (k + 1) = base + (55 + (k + 1)) by omega]; rfl, ?_⟩
    unfold readSize
    rw [if_neg (by omega), if_neg (by omega), show 55 + (k + 1) - 55 = k + 1 by omega, if_neg (by rw [List.length_append]; omega), List.take_append_of_le_length (by omega), List.drop_append_of_le_length (by omega),
      List.take_of_length_le (by omega), List.drop_of_length_le (by omega), beNum_beBytes _ _ hlt, if_neg]
    · rfl
    · rintro (h0 | h0)
      · have hh : beBytes (k + 1) n = [] ∨ ∃ c s, beBytes (k + 1) n = c :: s := by
          cases beBytes (k + 1) n with
          | nil => exact .inl rfl
          | cons c s => exact .inr ⟨c, s, rfl⟩
        rcases hh with e | ⟨c, s, e⟩
        · rw [e] at hbl; simp at hbl
        · rw [e] at h0
          simp at h0
          subst h0
          have e2 := beNum_beBytes (k + 1) n hlt
          rw [e] at e2
          have e3 : beNum ((0 : UInt8) :: s) = beNum s := by simp [beNum]
          have e4 := beNum_lt s
          have e5 : s.length = k := by rw [e] at hbl; simpa using hbl
          rw [e5] at e4
          omega
      · omega

/-- items that have an encoding: so many lists in one another, bodies not too long -/
def It.fits : Nat → It → Prop
  | _, .text b => b.length ≤ 16777215
  | 0, .list _ => False
  | f + 1, .list l => It.wholes l ≤ 16777215 ∧ ∀ y, y ∈ l → It.fits f y

theorem rdAll_sound (rd : List UInt8 → Nat × It × List UInt8) (P : It → Prop) (hs : ∀ bs x r, rd bs = (0, x, r) → bs = x.enc ++ r ∧ P x) :
    ∀ (k : Nat) (L : List UInt8) (l : List It), rdAll rd k L = (0, l) → L.length ≤ k → L = It.encs l ∧ ∀ y, y ∈ l → P y := by
  intro k
  induction k with
  | zero =>
    intro L l h hl
    have : L = [] := List.eq_nil_of_length_eq_zero (by omega)
    subst this
    simp only [rdAll, Prod.mk.injEq, true_and] at h
    subst h
    exact ⟨rfl, fun y hy => by cases hy⟩
  | succ k ih =>
    intro L l h hl
    simp only [rdAll] at h
    by_cases h0 : L = []
    · rw [if_pos h0] at h
      simp only [Prod.mk.injEq, true_and] at h
      subst h h0
      exact ⟨rfl, fun y hy => by cases hy⟩
    · rw [if_neg h0] at h
      by_cases he : (rd L).1 = 0
      · rw [if_neg (by simpa using he)] at h
        simp only [Prod.mk.injEq] at h
        obtain ⟨h1, rfl⟩ := h
        obtain ⟨e1, e2⟩ := hs L (rd L).2.1 (rd L).2.2 (by rw [← he])
        have hpos := It.whole_pos (rd L).2.1
        have hlen : L.length = ((rd L).2.1.enc ++ (rd L).2.2).length := by rw [← e1]
        rw [List.length_append, It.enc_length] at hlen
        obtain ⟨e3, e4⟩ := ih (rd L).2.2 _ (by rw [← h1]) (by omega)
        refine ⟨by rw [It.encs, ← e3]; exact e1, fun y hy => ?_⟩
        rcases List.mem_cons.1 hy with rfl | hy
        · exact e2
        · exact e4 y hy
      · rw [if_pos he] at h
        simp only [Prod.mk.injEq] at h
        exact absurd h.1 he
theorem rdAll_back (rd : List UInt8 → Nat × It × List UInt8) (l : List It) (hs : ∀ x, x ∈ l → ∀ r, rd (x.enc ++ r) = (0, x, r)) :
    ∀ (k : Nat), (It.encs l).length ≤ k → rdAll rd k (It.encs l) = (0, l) := by
  induction l with
  | nil => intro k _; cases k <;> simp [rdAll, It.encs]
  | cons x l ih =>
    intro k hk
    have hpos := It.whole_pos x
    have hne : It.encs (x :: l) ≠ [] := by
      intro e
      have := congrArg List.length e
      rw [It.encs_length, It.wholes] at this
      simp at this; omega
    have hle : (It.encs (x :: l)).length = x.whole + (It.encs l).length := by rw [It.encs_length, It.wholes, It.encs_length]
    cases k with
    | zero => omega
    | succ k =>
      simp only [rdAll]
      rw [if_neg hne]
      have h1 := hs x (List.mem_cons_self ..) (It.encs l)
      have h2 := ih (fun y hy => hs y (List.mem_cons_of_mem _ hy)) k (by omega)
      simp only [It.encs, h1, h2]
      rfl

theorem rdItem_sound (f : Nat) : ∀ (bs : List UInt8) (x : It) (r : List UInt8), rdItem f bs = (0, x, r) → bs = x.enc ++ r ∧ It.fits f x := by
  induction f with
  | zero =>
    intro bs x r h
    cases bs with
    | nil => simp [rdItem] at h
    | cons c t => exact rdItem_sound_text 0 c t x r h (fun h1 h2 => by
        have : rdItem 0 (c :: t) = (21, .text [], []) := by unfold rdItem; rw [if_neg h1, if_neg h2]
        rw [this] at h; simp at h)
  | succ f ih =>
    intro bs x r h
    cases bs with
    | nil => simp [rdItem] at h
    | cons c t => exact rdItem_sound_text (f + 1) c t x r h (fun h1 h2 => by
        have hr : rdItem (f + 1) (c :: t) = rdList (rdItem f) (readSize (c.toNat - 192) t) := by rw [rdItem, if_neg h1, if_neg h2]
        rw [hr] at h
        obtain ⟨e1, n, t', hs⟩ := triple (readSize (c.toNat - 192) t)
        rw [hs] at h
        unfold rdList at h
        by_cases he : e1 = 0
        · subst he
          rw [if_neg (by simp)] at h
          by_cases hn : t'.length < n
          · rw [if_pos hn] at h; simp at h
          · rw [if_neg hn] at h
            simp only at h hn
            obtain ⟨l, e2, hl⟩ : ∃ l e2, rdAll (rdItem f) n (t'.take n) = (e2, l) := ⟨_, _, rfl⟩
            rw [hl] at h
            by_cases h2 : e2 = 0
            · subst h2
              rw [if_neg (by simp)] at h
              simp only [Prod.mk.injEq, true_and] at h
              obtain ⟨rfl, rfl⟩ := h
              have htl : (t'.take n).length = n := by rw [List.length_take]; omega
              obtain ⟨g1, g2⟩ := rdAll_sound (rdItem f) (It.fits f) ih n _ l hl (by omega)
              obtain ⟨g3, g4⟩ := readSize_sound 192 _ _ _ _ hs
              have hw : It.wholes l = n := by rw [← It.encs_length, ← g1, htl]
              refine ⟨?_, by rw [hw]; exact g4, g2⟩
              rw [It.enc, ← g1, htl, List.append_assoc, List.take_append_drop, ← g3, show 192 + (c.toNat - 192) = c.toNat by omega, UInt8.ofNat_toNat]
            · rw [if_pos (by simpa using h2)] at h
              simp only [Prod.mk.injEq] at h
              exact absurd h.1 h2
        · rw [if_pos (by simpa using he)] at h
          simp only [Prod.mk.injEq] at h
          exact absurd h.1 he)
where
  rdItem_sound_text (f : Nat) (c : UInt8) (t : List UInt8) (x : It) (r : List UInt8) (h : rdItem f (c :: t) = (0, x, r)) (hl : ¬ c.toNat < 128 → ¬ c.toNat < 192 → c :: t = x.enc ++ r ∧ It.fits f x) : c :: t = x.enc ++ r ∧ It.fits f x := by
    by_cases h1 : c.toNat < 128
    · have hr : rdItem f (c :: t) = (0, .text [c], t) := by unfold rdItem; rw [if_pos h1]
      rw [hr] at h
      simp only [Prod.mk.injEq, true_and] at h
      obtain ⟨rfl, rfl⟩ := h
      have hp : plainB [c] = true := by unfold plainB; simp; exact h1
      refine ⟨by rw [It.enc, if_pos hp]; rfl, ?_⟩
      unfold It.fits; simp
    · by_cases h2 : c.toNat < 192
      · have hr : rdItem f (c :: t) = rdText (readSize (c.toNat - 128) t) := by unfold rdItem; rw [if_neg h1, if_pos h2]
        rw [hr] at h
        obtain ⟨e1, n, t', hs⟩ := triple (readSize (c.toNat - 128) t)
        rw [hs] at h
        unfold rdText at h
        by_cases he : e1 = 0
        · subst he
          rw [if_neg (by simp)] at h
          by_cases hn : t'.length < n
          · rw [if_pos hn] at h; simp at h
          · rw [if_neg hn] at h
            by_cases hb : n = 1 ∧ (t'.headD 0).toNat < 128
            · rw [if_pos hb] at h; simp at h
            · rw [if_neg hb] at h
              simp only [Prod.mk.injEq, true_and] at h hn
              obtain ⟨rfl, rfl⟩ := h
              have htl : (t'.take n).length = n := by rw [List.length_take]; omega
              obtain ⟨g3, g4⟩ := readSize_sound 128 _ _ _ _ hs
              have hp : plainB (t'.take n) = false := by
                cases hpp : plainB (t'.take n) with
                | false => rfl
                | true =>
                  unfold plainB at hpp
                  rw [htl] at hpp
                  simp only [Bool.and_eq_true, beq_iff_eq, decide_eq_true_eq] at hpp
                  obtain ⟨rfl, h3⟩ := hpp
                  refine absurd ⟨rfl, ?_⟩ hb
                  cases t' with
                  | nil => simp at hn
                  | cons y s => simpa using h3
              refine ⟨?_, ?_⟩
              · rw [It.enc, if_neg (by simp [hp]), htl, List.append_assoc, List.take_append_drop, ← g3, show 128 + (c.toNat - 128) = c.toNat by omega, UInt8.ofNat_toNat]
              · unfold It.fits; rw [htl]; exact g4
        · rw [if_pos (by simpa using he)] at h
          simp only [Prod.mk.injEq] at h
          exact absurd h.1 he
      · exact hl h1 h2
theorem rdItem_back : ∀ (f : Nat) (x : It) (r : List UInt8), It.fits f x → rdItem f (x.enc ++ r) = (0, x, r)
  | f, .text b, r, h => by
    have hb : b.length ≤ 16777215 := by unfold It.fits at h; exact h
    rw [It.enc]
    by_cases hp : plainB b = true
    · rw [if_pos hp]
      unfold plainB at hp
      simp only [Bool.and_eq_true, beq_iff_eq, decide_eq_true_eq] at hp
      match b, hp with
      | [c], hp => 
        have h1 : c.toNat < 128 := by simpa using hp.2
        show rdItem f (c :: r) = _
        unfold rdItem; rw [if_pos h1]
    · rw [if_neg hp, List.append_assoc]
      obtain ⟨m, s, hm, e1, e2⟩ := readSize_head 128 b.length (b ++ r) hb
      rw [e1]
      have hc : (UInt8.ofNat (128 + m)).toNat = 128 + m := by rw [UInt8.toNat_ofNat', Nat.mod_eq_of_lt (by omega)]
      have : rdItem f (UInt8.ofNat (128 + m) :: s) = rdText (readSize ((UInt8.ofNat (128 + m)).toNat - 128) s) := by unfold rdItem; rw [if_neg (by omega), if_pos (by omega)]
      rw [this, hc, Nat.add_sub_cancel_left, e2]
      unfold rdText
      rw [if_neg (by simp), if_neg (by simp), if_neg]
      · simp
      · rintro ⟨h1, h2⟩
        simp only at h1 h2
        refine hp ?_
        unfold plainB
        match b, h1 with
        | [c], _ => simpa using h2
  | 0, .list l, r, h => by unfold It.fits at h; exact h.elim
  | f + 1, .list l, r, h => by
    unfold It.fits at h
    obtain ⟨hw, hall⟩ := h
    rw [It.enc, List.append_assoc]
    have hel := It.encs_length l
    obtain ⟨m, s, hm, e1, e2⟩ := readSize_head 192 (It.encs l).length (It.encs l ++ r) (by omega)
    rw [e1]
    have hc : (UInt8.ofNat (192 + m)).toNat = 192 + m := by rw [UInt8.toNat_ofNat', Nat.mod_eq_of_lt (by omega)]
    have : rdItem (f + 1) (UInt8.ofNat (192 + m) :: s) = rdList (rdItem f) (readSize ((UInt8.ofNat (192 + m)).toNat - 192) s) := by rw [rdItem, if_neg (by omega), if_neg (by omega)]
    rw [this, hc, Nat.add_sub_cancel_left, e2]
    have hr := rdAll_back (rdItem f) l (fun x hx r' => rdItem_back f x r' (hall x hx)) (It.encs l).length (Nat.le_refl _)
    unfold rdList
    simp only [List.take_left', List.drop_left']
    rw [if_neg (by simp), if_neg (by simp), hr]
    simp
/-- bytes that are read whole are the item's encoding -/
theorem rdWhole_sound (bs : List UInt8) (x : It) (h : rdWhole bs = (0, x)) : bs = x.enc ∧ It.fits 8 x := by
  unfold rdWhole at h
  obtain ⟨e, y, r, hr⟩ := triple (rdItem 8 bs)
  rw [hr] at h
  by_cases he : e = 0
  · subst he
    rw [if_neg (by simp)] at h
    by_cases hr0 : r = []
    · subst hr0
      rw [if_neg (by simp)] at h
      simp only [Prod.mk.injEq, true_and] at h
      subst h
      have := rdItem_sound 8 bs y [] hr
      rwa [List.append_nil] at this
    · rw [if_pos hr0] at h; simp at h
  · rw [if_pos he] at h
    simp only [Prod.mk.injEq] at h
    exact absurd h.1 he
theorem rdWhole_back (x : It) (h : It.fits 8 x) : rdWhole x.enc = (0, x) := by
  have := rdItem_back 8 x [] h
  rw [List.append_nil] at this
  unfold rdWhole
  rw [this]; simp
theorem enc_inj (x y : It) (hx : It.fits 8 x) (hy : It.fits 8 y) (h : x.enc = y.enc) : x = y := by
  have h1 := rdWhole_back x hx
  rw [h, rdWhole_back y hy] at h1
  simpa using h1.symm
end Go.Pg
namespace Go.Pg
open Go.RowKit
/-- the bytes from one place up to another -/
def seg (B : List UInt8) (p e : Nat) : List UInt8 := (B.take e).drop p
theorem seg_nil (B : List UInt8) (p e : Nat) (h : e ≤ p) : seg B p e = [] := by
  unfold seg; apply List.drop_of_length_le; rw [List.length_take]; omega
theorem seg_len (B : List UInt8) (p e : Nat) (h : e ≤ B.length) : (seg B p e).length = e - p := by
  unfold seg; rw [List.length_drop, List.length_take]; omega
theorem seg_drop (B : List UInt8) (p e k : Nat) : (seg B p e).drop k = seg B (p + k) e := by
  unfold seg; rw [List.drop_drop]
theorem seg_take (B : List UInt8) (p e k : Nat) (h : p + k ≤ e) : (seg B p e).take k = seg B p (p + k) := by
  unfold seg
  rw [List.take_drop, List.take_take, Nat.min_eq_left h]
theorem seg_get (B : List UInt8) (p e i : Nat) (h : p + i < e) : (seg B p e)[i]? = B[p + i]? := by
  unfold seg
  rw [List.getElem?_drop, List.getElem?_take, if_pos h]
theorem seg_cons (B : List UInt8) (p e : Nat) (h : p < e) (he : e ≤ B.length) : seg B p e = B[p]'(by omega) :: seg B (p + 1) e := by
  unfold seg
  rw [List.drop_eq_getElem_cons (by rw [List.length_take]; omega), List.getElem_take]
theorem seg_getD (B : List UInt8) (p e : Nat) (h : p < e) (he : e ≤ B.length) : seg B p e = B.getD p 0 :: seg B (p + 1) e := by
  rw [seg_cons B p e h he, List.getD_eq_getElem?_getD, List.getElem?_eq_getElem (by omega)]; rfl
theorem BytesAt.cellD {F : Nat → Prop} {w : World} {b o n c : Nat} {bs : List UInt8} (h : BytesAt F w (.slice (some ⟨b, o, none⟩) n c) bs) (i : Nat) (hi : i < bs.length) : w.cell? ⟨b, o + i, none⟩ = some (.int .u8 ((bs.getD i 0).toNat : Int)) := by
  rw [BytesAt.cell h i hi, List.getD_eq_getElem?_getD, List.getElem?_eq_getElem hi]; rfl
theorem seg_all (B : List UInt8) : seg B 0 B.length = B := by unfold seg; simp
theorem addr_map_add (b o k : Nat) : (some (⟨b, o, none⟩ : Addr)).map (·.add k) = some ⟨b, o + k, none⟩ := by
  simp only [Option.map_some, Option.some.injEq]
  unfold Addr.add; split <;> simp_all
/-- b[lo:hi] -/
theorem BytesAt.seg {F : Nat → Prop} {w : World} {a a2 : Option Addr} {n c : Nat} {bs : List UInt8} (h : BytesAt F w (.slice a n c) bs) (lo hi : Nat) (hl : lo ≤ hi) (hk : hi ≤ n) (ha2 : (if c = lo then a else a.map (·.add lo)) = a2) :
    BytesAt F w (.slice a2 (hi - lo) (c - lo)) (seg bs lo hi) :=
  BytesAt.since (BytesAt.upto h hi hk) lo hl ha2
theorem BytesAt.n {F : Nat → Prop} {w : World} {a : Option Addr} {n c : Nat} {bs : List UInt8} (h : BytesAt F w (.slice a n c) bs) : n = bs.length ∧ n ≤ c ∧ c ≤ maxLen := by
  obtain ⟨a', c', hv, h1, h2, -⟩ := h
  simp only [Value.slice.injEq] at hv
  obtain ⟨-, rfl, rfl⟩ := hv
  exact ⟨rfl, h1, h2⟩
end Go.Pg
namespace Go.Proofs.Ytndkkgkcbbmnpaa
open Go.RowKit Go.Pg

set_option maxRecDepth 100000 in
set_option maxHeartbeats 400000 in
theorem copied_any (F : Nat → Prop) (w : World) (v : Value) (bs : List UInt8) (h : BytesAt F w v bs) (hlen : bs.length ≤ 70368744177664) :
    Calls Try.prog 111 #[v] w (Fresh w 5 1 byteR bs) := by
  obtain ⟨i0, hi, hz0, hz1, hz2⟩ := info_parts infoU8
  have hle : (([] : List UInt8).length + bs.length) * 1 ≤ 140737488355328 := by simp; omega
  go_enter Try.func111, Try.ntmps111
  go_wp2_with (at_builtin; refine wpList_append_at rfl (.tmp 4) (.tmp 5) 25 rfl w.heap.size 5 i0 (.int .u8 0) 1 1 underlying25 hi hz0 hz1 hz2 rfl (by decide) (by decide) byteR.one (.slice none 0 0) [] rfl (OwnAt.nil _ _ _ _ _) _ bs F rfl h hle (Nat.le_refl _) ?_; intro v' w2 ho hg hm)
  have HO := Lib.hid ho
  have HG := Lib.hid hg
  clear ho hg hm
  go_wp2
  go_ret
  exact ⟨v', rfl, by simpa using HO.out, (Below.refl _ _).grown HG.out (Nat.le_refl _) (fun k hk => by simp [Value.ownBlock] at hk)⟩
end Go.Proofs.Ytndkkgkcbbmnpaa
namespace Go.Pg
open Go.RowKit
/-- what bytes say as a word: the number, and whether they are a word's -/
def readWord (bs : List UInt8) : Nat × Bool := if 8 < bs.length ∨ bs.head? = some 0 then (0, false) else (beNum bs, true)
end Go.Pg
namespace Go.Proofs.Ytndkkgkcbbmnpaa
open Go.RowKit Go.Pg

set_option maxRecDepth 100000 in
set_option maxHeartbeats 1000000 in
theorem wread_any (F : Nat → Prop) (w : World) (a : Option Addr) (n c : Nat) (bs : List UInt8) (h : BytesAt F w (.slice a n c) bs) :
    Calls Try.prog 82 #[.slice a n c] w fun e w' => e = .returned (.tuple #[.int .u64 (readWord bs).1, .bool (readWord bs).2]) ∧ w = w' := by
  obtain ⟨hn, -, -⟩ := BytesAt.n h
  by_cases h8 : 8 < n
  · have hr : readWord bs = (0, false) := by unfold readWord; rw [if_pos (.inl (by omega))]
    rw [hr]
    have HN := Lib.hid hn
    have H := Lib.hid h
    have hn8 : (8 : Int) < (n : Int) := by omega
    clear hr hn h h8
    go_enter Try.func82, Try.ntmps82
    go_wp2
    go_ret2
    exact ⟨rfl, rfl⟩
  · by_cases hz : bs.head? = some 0
    · have hr : readWord bs = (0, false) := by unfold readWord; rw [if_pos (.inr hz)]
      obtain ⟨t, rfl⟩ : ∃ t, bs = 0 :: t := by
        cases bs with
        | nil => cases hz
        | cons x t => simp at hz; subst hz; exact ⟨t, rfl⟩
      rw [hr]
      rcases SliceAt.split h with ⟨h0, _⟩ | ⟨b, o, rfl, -, hp, -⟩
      · cases h0
      have hc := BytesAt.cell h 0 (by simp)
      simp only [Nat.add_zero, List.getElem_cons_zero] at hc
      have hn8 : (n : Int) ≤ 8 := by omega
      clear hr hn h h8 hz
      go_enter Try.func82, Try.ntmps82
      go_wp2
      go_ret2
      exact ⟨rfl, rfl⟩
    · have hr : readWord bs = (beNum bs, true) := by
        unfold readWord; rw [if_neg]
        rintro (h1 | h1)
        · omega
        · exact hz h1
      have hpath : n = 0 ∨ (0 < n ∧ ∃ b o x, a = some ⟨b, o, none⟩ ∧ w.cell? ⟨b, o, none⟩ = some (.int .u8 ((x : Nat) : Int)) ∧ 0 < x) := by
        rcases SliceAt.split h with ⟨h0, h1⟩ | ⟨b, o, rfl, -, hp, -⟩
        · exact .inl h1
        · cases bs with
          | nil => simp at hn; exact .inl hn
          | cons x t =>
            have hc := BytesAt.cell h 0 (by simp)
            simp only [Nat.add_zero, List.getElem_cons_zero] at hc
            refine .inr ⟨hp, b, o, x.toNat, rfl, hc, ?_⟩
            rcases Nat.eq_zero_or_pos x.toNat with h | h
            · exact absurd (by rw [UInt8.toNat_inj.1 (show x.toNat = (0 : UInt8).toNat from h)]; rfl) hz
            · exact h
      rw [hr]
      have hn8 : (n : Int) ≤ 8 := by omega
      have H := Lib.hid h
      clear hr hn h h8 hz
      rcases hpath with rfl | ⟨hp, b, o, x, rfl, hc, hx⟩
      rotate_left
      have hx0 : ((x : Int) == 0) = false := by simp; omega
      all_goals
        go_enter Try.func82, Try.ntmps82
        go_wp2_with fail
        refine (number_u64 F w _ _ c bs H.out (by omega)).mono ?_
        rintro e w' ⟨rfl, rfl⟩
        go_wp2
        go_ret2
        exact ⟨rfl, rfl⟩

set_option maxRecDepth 100000 in
set_option maxHeartbeats 1000000 in
theorem r3bytes_any (n : Nat) (w : World) (hn : (n : Int) < 18446744073709551616) :
    Calls Try.prog 81 #[.int .u64 n] w (Fresh w 5 1 byteR (wordB n)) := by
  obtain ⟨i0, hi, hz0, hz1, hz2⟩ := info_parts infoU8
  go_enter Try.func81, Try.ntmps81
  go_wp2
  go_loopw [0, 3] (fun m v wr => ∃ (k : Nat) (l : List UInt8) (a : Option Addr) (c : Nat) (j : Nat), m = .int .u64 k ∧ (k : Int) < 18446744073709551616 ∧ j ≤ 8 ∧ v = .slice a j c ∧
     Hid (OwnAt wr w.heap.size 5 1 byteR (.slice a j c) l ∧ wordB k ++ l = wordB n ∧ Below w.heap.size w wr)) (fun m _ _ => (intOf m).toNat)
  case atStart => exact ⟨n, [], none, 0, 0, rfl, hn, by omega, rfl, OwnAt.nil _ _ _ _ _, by simp, Bel.refl _⟩
  case round =>
    obtain ⟨k, l, a, c, j, rfl, hk, hj, rfl, H⟩ := hrel
    by_cases h0 : k = 0
    · subst h0
      go_wp2
      go_ret
      obtain ⟨h1, h2, h3⟩ := H.out
      have h4 : l = wordB n := by rw [← h2]; unfold wordB; rw [number_zero]; rfl
      rw [h4] at h1
      exact ⟨_, rfl, h1, h3⟩
    · have hk0 : (0 : Int) < (k : Int) := by omega
      have hk1 : (k : Int) ≠ 0 := by omega
      obtain ⟨h1, h2, h3⟩ := H.out
      have hw : wordB k = wordB (k / 256) ++ [UInt8.ofNat (k % 256)] := by unfold wordB; rw [number_pos (n := k) (by omega)]; rfl
      have hl : l.length = j := by
        obtain ⟨_, _, e, -⟩ := h1.len
        simp only [Value.slice.injEq] at e
        omega
      have hlen : ([UInt8.ofNat (k % 256)] : List UInt8).length + l.length = j + 1 := by simp; omega
      have hj1 : j + 1 ≤ 8 := by
        have e1 := congrArg List.length h2
        rw [hw] at e1
        simp only [List.length_append, List.length_cons, List.length_nil] at e1
        have e2 := wordB_le n hn
        omega
      have hkey : wordB (k / 256) ++ ([UInt8.ofNat (k % 256)] ++ l) = wordB n := by rw [← h2, hw]; simp
      have hat := h1.at (F := fun _ => True) (fun _ _ _ _ => trivial) (by decide)
      have hb := h3.size
      have hsrc : BytesAt (fun _ => True) (wr.alloc (.cells #[.int .u8 ((k : Int) % 256)] 5)) (.slice a j c) l := BytesAt.below hat (Bel.alloc (Bel.refl wr) _)
      have hown : OwnAt (wr.alloc (.cells #[.int .u8 ((k : Int) % 256)] 5)) w.heap.size 5 1 byteR (.slice (some ⟨wr.heap.size, 0, none⟩) 1 1) [UInt8.ofNat (k % 256)] := by
        have := (OwnAt.lit' wr 5 (UInt8.ofNat (k % 256))).lower hb
        rw [UInt8.toNat_ofNat', Nat.mod_eq_of_lt (Nat.mod_lt _ (by omega))] at this
        exact this
      have hle : (([UInt8.ofNat (k % 256)] : List UInt8).length + l.length) * 1 ≤ 140737488355328 := by rw [hlen]; omega
      have hbase : w.heap.size ≤ (wr.alloc (.cells #[.int .u8 ((k : Int) % 256)] 5)).heap.size := by simp; omega
      have H1 := Lib.hid hown
      have H2 := Lib.hid hsrc
      have H3 := Lib.hid hkey
      have H4 := Lib.hid h3
      have H5 := Lib.hid hle
      have H6 := Lib.hid hlen
      obtain ⟨ki, hki⟩ : ∃ ki : Int, ki = (k : Int) := ⟨_, rfl⟩
      rw [← hki] at H1 H2 hbase hk hk0 hk1 ⊢
      have HKI := Lib.hid hki
      have HN := Lib.hid hn
      clear hki hn h0
      clear h1 h2 h3 hw hkey hat hb hsrc hown hle hl hlen H
      go_wp2_with (at_builtin; refine wpList_append_at rfl (.tmp 9) (.tmp 10) 25 rfl w.heap.size 5 i0 (.int .u8 0) 1 1 underlying25 hi hz0 hz1 hz2 rfl (by decide) (by decide) byteR.one (.slice (some ⟨wr.heap.size, 0, none⟩) 1 1) [UInt8.ofNat (k % 256)] rfl H1.out _ l (fun _ => True) rfl H2.out H5.out hbase ?_; intro v2 w2 ho hg hm)
      have hown2 := (H1.out).own
      have hbel := (H4.out.alloc (by have := H4.out.size; omega) (.cells #[.int .u8 (ki % 256)] 5)).grown hg hbase (fun g hg' => (hown2 g hg').1)
      obtain ⟨a2, c2, hv2, -, -, -⟩ := ho.len
      rw [List.length_append, H6.out] at hv2
      subst hv2
      have HNX : Hid (OwnAt w2 w.heap.size 5 1 byteR (.slice a2 (j + 1) c2) ([UInt8.ofNat (k % 256)] ++ l) ∧ wordB (k / 256) ++ ([UInt8.ofNat (k % 256)] ++ l) = wordB n ∧ Below w.heap.size w w2) := ⟨ho, H3.out, hbel⟩
      clear ho hg hm hown2 hbel
      go_wp2
      go_roundw
      case rel => exact ⟨k / 256, _, a2, c2, j + 1, num_eq (by rw [HKI.out]; omega), by have := HKI.out; omega, by omega, rfl, HNX⟩
      case measure => have := HKI.out; simp [intOf]; omega
end Go.Proofs.Ytndkkgkcbbmnpaa
