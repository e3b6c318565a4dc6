/-
  Contracts of words.Key, words.number, words.Bytes, words.Read.
  Digests as plain functions: words as whole numbers from 0 to below 2^64, states of four words, texts mixed in 32 bytes at a time.
  Contracts of words.Read, pergolaref03.Bytes, pergolaref03.Read.
  Contract of pergolaref03.Read.
  Contracts of bits.RotateLeft64, pergolaref01.rot, digest.word, pergolaref01.word.
-/
import Derived.Test.YtndkkgkcbbmnpaaQbAJ
namespace Go.Pg
open Go.RowKit
/-- the cells of bytes -/
def cellsOf (l : List UInt8) : Array Value := (l.map fun x => Value.int .u8 (x.toNat : Int)).toArray
theorem cellsOf_size (l : List UInt8) : (cellsOf l).size = l.length := by simp [cellsOf]
theorem cellsOf_get (l : List UInt8) (i : Nat) (h : i < l.length) : (cellsOf l)[i]? = some (.int .u8 ((l[i]).toNat : Int)) := by simp [cellsOf, h]
theorem cellsOf_set (l : List UInt8) (i : Nat) (x : UInt8) : (cellsOf l).setIfInBounds i (.int .u8 (x.toNat : Int)) = cellsOf (l.set i x) := by
  apply Array.ext'
  simp [cellsOf, List.map_set]
/-- a row of bytes that is filled from its head on -/
def filling (l : List UInt8) (k : Nat) : List UInt8 := l.take k ++ List.replicate (l.length - k) 0
theorem filling_length (l : List UInt8) (k : Nat) : (filling l k).length = l.length := by simp [filling]; omega
theorem filling_zero (l : List UInt8) : filling l 0 = List.replicate l.length 0 := by simp [filling]
theorem filling_all (l : List UInt8) : filling l l.length = l := by simp [filling]
theorem filling_step (l : List UInt8) (k : Nat) (h : k < l.length) : (filling l k).set k l[k] = filling l (k + 1) := by
  unfold filling
  rw [List.set_append_right _ _ (by simp; omega), List.length_take, Nat.min_eq_left (by omega), Nat.sub_self]
  rw [show l.length - k = (l.length - (k + 1)) + 1 by omega, List.replicate_succ, List.set_cons_zero, List.take_succ_eq_append_getElem h, List.append_assoc]
  rfl
/-- a block of bytes reads as bytes -/
theorem OwnAt.ofBlk {w : World} {base g : Nat} {e : TypeId} {l : List UInt8} (hg : base ≤ g) (h : w.heap[g]? = some (.cells (cellsOf l) e (0, 0))) (hm : l.length ≤ maxLen) : OwnAt w base e 1 byteR (.slice (some ⟨g, 0, none⟩) l.length l.length) l := by
  refine ⟨(cellsOf l).toList, ⟨by simp [cellsOf], .inr ⟨g, l.length, cellsOf l, rfl, hg, h, Nat.le_refl _, hm, by simp [cellsOf], by rw [Nat.mul_one, List.take_of_length_le (by simp [cellsOf])]⟩⟩, by simp [cellsOf], fun i x hx => ?_⟩
  refine ⟨[.int .u8 (x.toNat : Int)], rfl, rfl, fun j u hu => ?_⟩
  match j, hu with
  | 0, hu => simp at hu; subst hu; simp [cellsOf, hx]
theorem beBytes8_get (n k : Nat) (h : k < 8) : (beBytes 8 n)[k]'(by rw [beBytes_length]; exact h) = UInt8.ofNat (n / 256 ^ (7 - k) % 256) := by
  have := beBytes_get 8 n k h
  rw [List.getElem?_eq_getElem (by rw [beBytes_length]; exact h)] at this
  exact Option.some.inj this
theorem key_cell (n k : Nat) (h : k < 8) : (.int .u8 ((n : Int) / 2 ^ (56 - 8 * k) % 256) : Value) = .int .u8 (((beBytes 8 n)[k]'(by rw [beBytes_length]; exact h)).toNat : Int) := by
  rw [beBytes8_get n k h, show 56 - 8 * k = 8 * (7 - k) by omega, shift_byte, UInt8.toNat_ofNat', Nat.mod_eq_of_lt (Nat.mod_lt _ (by omega))]
theorem beBytes_zero (k : Nat) : beBytes k 0 = List.replicate k 0 := by
  induction k with
  | zero => rfl
  | succ k ih => simp only [beBytes, Nat.zero_div, ih, Nat.zero_mod]; rw [List.replicate_succ']; rfl
/-- a word in as few bytes as may be -/
def wordB (n : Nat) : List UInt8 := beBytes (number n) n
theorem strip_be (k : Nat) : ∀ n, n < 256 ^ k → (beBytes k n).dropWhile (· == 0) = wordB n := by
  unfold wordB
  induction k with
  | zero => intro n h; have : n = 0 := by simpa using h
            subst this; rw [number_zero]; rfl
  | succ k ih =>
    intro n h
    have hd : n / 256 < 256 ^ k := by rw [Nat.pow_succ] at h; exact Nat.div_lt_of_lt_mul (by omega)
    by_cases h0 : n = 0
    · subst h0; rw [beBytes_zero, number_zero]; simp [beBytes]
    · simp only [beBytes]
      rw [List.dropWhile_append, ih _ hd, number_pos (n := n) (by omega)]
      by_cases h1 : n / 256 = 0
      · rw [h1, number_zero]
        have h2 : (UInt8.ofNat (n % 256) == 0) = false := by
          have h3 : UInt8.ofNat (n % 256) ≠ 0 := fun e => by
            have := congrArg UInt8.toNat e
            rw [UInt8.toNat_ofNat'] at this
            simp at this; omega
          simpa using h3
        simp [beBytes, h2]
      · have h2 : (beBytes (number (n / 256)) (n / 256)).isEmpty = false := by
          rw [List.isEmpty_eq_false_iff]
          intro e
          have := congrArg List.length e
          rw [beBytes_length, number_pos (n := n / 256) (by omega)] at this
          simp at this
        rw [h2]
        simp [beBytes]
theorem wordB_strip (n : Nat) (h : (n : Int) < 18446744073709551616) : (beBytes 8 n).dropWhile (· == 0) = wordB n := strip_be 8 n (by omega)
theorem wordB_length (n : Nat) : (wordB n).length = number n := beBytes_length _ _
theorem wordB_le (n : Nat) (h : (n : Int) < 18446744073709551616) : (wordB n).length ≤ 8 := by rw [wordB_length]; exact number_le 8 n (by omega)
theorem number_snoc (bs : List UInt8) (k : Nat) (h : k < bs.length) : beNum (bs.take (k + 1)) = beNum (bs.take k) * 256 + (bs[k]).toNat := by rw [List.take_succ_eq_append_getElem h, beNum_snoc]
theorem beNum_small (bs : List UInt8) (k : Nat) (h : k ≤ 7) : beNum (bs.take k) < 256 ^ 7 :=
  Nat.lt_of_lt_of_le (beNum_lt _) (Nat.pow_le_pow_right (by omega) (by simp; omega))
theorem or_u64 (p : Nat) (x : UInt8) (hp : p < 256 ^ 7) : bits .or .u64 (IntKind.u64.wrap ((p : Int) * 256)) (IntKind.u64.wrap (x.toNat : Int)) = ((p * 256 + x.toNat : Nat) : Int) := by
  have hx := x.toNat_lt
  rw [IntWalk.u64_in _ (by omega), IntWalk.u64_in _ (by omega), show ((p : Int) * 256) = ((p * 256 : Nat) : Int) by omega, bits_or_u64_nat _ _ (by omega) (by omega)]
  have := Nat.two_pow_add_eq_or_of_lt (i := 8) (b := x.toNat) (by omega) p
  rw [show p * 256 = 2 ^ 8 * p by omega, ← this]
end Go.Pg
namespace Go.Proofs.Ytndkkgkcbbmnpaa
open Go.RowKit Go.Pg

theorem makeBytes (n : Nat) (h : n ≤ 140737488351232) (w : World) : (Instr.makeSlice 25 (.int .i64 n) (.int .i64 n)).run Try.prog w = .ok (.slice (some ⟨w.heap.size, 0, none⟩) n n) (w.alloc (.cells (cellsOf (List.replicate n 0)) 5)) := by
  obtain ⟨i0, hi, hz0, hz1, hz2⟩ := info_parts infoU8
  have := run_make (P := Try.prog) w 25 5 i0 (.int .u8 0) underlying25 hi hz0 .i64 .i64 n n (by omega) (by omega) (by rw [hz2]; omega) (by omega)
  rw [this, hz1, Int.toNat_natCast, Nat.mul_one]
  have e : madeCells (Value.int IntKind.u8 0).cells n = cellsOf (List.replicate n 0) := by
    apply Array.ext'
    simp only [madeCells, cellsOf, Value.cells, Array.toList_map, Array.toList_range, List.map_replicate]
    apply List.ext_getElem (by simp)
    intro i h1 h2
    simp [Nat.mod_one]
  rw [e]
theorem makeBytes8 (w : World) : (Instr.makeSlice 25 (.int .i64 8) (.int .i64 8)).run Try.prog w = .ok (.slice (some ⟨w.heap.size, 0, none⟩) 8 8) (w.alloc (.cells (cellsOf (List.replicate 8 0)) 5)) := makeBytes 8 (by omega) w
set_option maxRecDepth 100000 in
set_option maxHeartbeats 1000000 in
theorem key_any (n : Nat) (w : World) (hn : (n : Int) < 18446744073709551616) :
    Calls Try.prog 97 #[.int .u64 n] w (Fresh w 5 1 byteR (beBytes 8 n)) := by
  have hmk := makeBytes8
  have hn0 : (0 : Int) ≤ (n : Int) := by omega
  go_enter Try.func97, Try.ntmps97
  go_wp2
  go_loopw [6] (fun i wr => ∃ k : Nat, k ≤ 8 ∧ i = .int .i64 k ∧ Hid (Below w.heap.size w wr) ∧ wr.heap[w.heap.size]? = some (.cells (cellsOf (filling (beBytes 8 n) k)) 5 (0, 0))) (fun i _ => 8 - (intOf i).toNat)
  case atStart => exact ⟨0, by omega, rfl, Bel.alloc (Bel.refl w) _, by rw [filling_zero, beBytes_length]; exact heap_alloc_new w _⟩
  case round =>
    obtain ⟨k, hk, rfl, HB, hblk⟩ := hrel
    by_cases hlt : k < 8
    · have hc : wr.cell? ⟨w.heap.size, k, none⟩ = some (.int .u8 (((filling (beBytes 8 n) k)[k]'(by rw [filling_length, beBytes_length]; exact hlt)).toNat : Int)) := by
        rw [cell_of_row _ _ _ _ _ _ hblk, cellsOf_get]
      have hf := frozen_of_row wr w.heap.size k _ _ hblk
      have HK := Lib.hid hblk
      have hk0 : (0 : Int) ≤ (k : Int) := by omega
      have hk1 : (k : Int) < 8 := by omega
      clear hblk
      go_wp2
      go_roundw
      case rel => exact ⟨k + 1, by omega, num_eq (by omega), HB.out.setCell (Nat.le_refl _) _, by rw [key_cell n k hlt, blk_setCell HK.out, cellsOf_set, filling_step _ _ (by rw [beBytes_length]; exact hlt)]⟩
      case measure => simp [intOf]; omega
    · obtain rfl : k = 8 := by omega
      have hb8 := filling_all (beBytes 8 n)
      rw [beBytes_length] at hb8
      rw [hb8] at hblk
      clear hb8
      go_wp2
      go_ret
      have := OwnAt.ofBlk (Nat.le_refl _) hblk (by rw [beBytes_length]; decide)
      rw [beBytes_length] at this
      exact ⟨_, rfl, this, HB⟩

set_option maxRecDepth 100000 in
set_option maxHeartbeats 1000000 in
theorem number_u64 (F : Nat → Prop) (w : World) (a : Option Addr) (n c : Nat) (bs : List UInt8) (h : BytesAt F w (.slice a n c) bs) (hn : n ≤ 8) :
    Calls Try.prog 98 #[.slice a n c] w fun e w' => e = .returned (.int .u64 (beNum bs)) ∧ w' = w := by
  have hnb := (SliceAt.len h)
  obtain ⟨a', c', hv, hnc, hcm, -⟩ := hnb
  simp only [Value.slice.injEq] at hv
  obtain ⟨rfl, hnl, rfl⟩ := hv
  have HN := Lib.hid hnl
  have H := Lib.hid h
  have hnc' : n ≤ c := by omega
  unfold maxLen at hcm
  clear hnl h hnc
  go_enter Try.func98, Try.ntmps98
  go_wp2
  go_loop [3, 7] (fun s i => ∃ k : Nat, k ≤ n ∧ i = .int .i64 k ∧ s = .int .u64 (beNum (bs.take k))) (fun _ i => n - (intOf i).toNat)
  case atStart => exact ⟨0, by omega, rfl, rfl⟩
  case round =>
    obtain ⟨k, hk, rfl, rfl⟩ := hrel
    by_cases hlt : k < n
    · rcases SliceAt.split H.out with ⟨_, h0⟩ | ⟨b, o, rfl, -, -, -⟩
      · omega
      have hc := BytesAt.cell H.out k (by have := HN.out; omega)
      obtain ⟨p, hp⟩ : ∃ p, p = beNum (bs.take k) := ⟨_, rfl⟩
      obtain ⟨x, hx⟩ : ∃ x, x = bs[k]'(by have := HN.out; omega) := ⟨_, rfl⟩
      rw [← hx] at hc
      rw [← hp]
      have HP := Lib.hid hp
      have HX := Lib.hid hx
      have hk0 : (0 : Int) ≤ (k : Int) := by omega
      have hk1 : (k : Int) < (n : Int) := by omega
      clear hp hx
      go_wp2
      go_round
      case rel => exact ⟨k + 1, by omega, num_eq (by omega), num_eq (by rw [number_snoc bs k (by have := HN.out; omega), ← HP.out, ← HX.out]; exact or_u64 p x (by rw [HP.out]; exact beNum_small bs k (by omega)))⟩
      case measure => simp [intOf]; omega
    · obtain rfl : n = k := by omega
      go_wp2
      go_ret
      exact ⟨ret_int (by rw [List.take_of_length_le (by have := HN.out; omega)]), rfl⟩

/-- bytes out of new memory -/
theorem lit_own (w : World) (e : TypeId) : OwnAt w w.heap.size e 1 byteR (.slice none 0 0) ([] : List UInt8) := OwnAt.nil _ _ _ _ _

set_option maxRecDepth 100000 in
set_option maxHeartbeats 1000000 in
theorem wbytes_any (n : Nat) (w : World) (hn : (n : Int) < 18446744073709551616) :
    Calls Try.prog 80 #[.int .u64 n] w (Fresh w 5 1 byteR (wordB n)) := by
  obtain ⟨i0, hi, hz0, hz1, hz2⟩ := info_parts infoU8
  have hst := wordB_strip n hn
  have HST := Lib.hid hst
  clear hst
  go_enter Try.func80, Try.ntmps80
  go_wp2_with fail
  refine (key_any n w hn).mono ?_
  rintro e w1 ⟨v1, rfl, ho, hb⟩
  have hat := ho.at (F := fun _ => True) (fun _ _ _ _ => trivial) (by decide)
  obtain ⟨a1, c1, rfl, h1, h2, -⟩ := ho.len
  rw [beBytes_length] at h1 hat ⊢
  have HB := Lib.hid hb
  have HA := Lib.hid hat
  clear hb hat ho
  go_wp2
  go_loop [3] (fun v => ∃ l a m c, v = .slice a m c ∧ m ≤ 8 ∧ c ≤ 2 ^ 63 - 1 ∧ m ≤ c ∧ Hid (m = l.length ∧ BytesAt (fun _ => True) w1 (.slice a m c) l ∧ l.dropWhile (· == 0) = wordB n)) (fun v => match v with | .slice _ m _ => m | _ => 0)
  case atStart => exact ⟨beBytes 8 n, a1, 8, c1, rfl, by omega, by unfold maxLen at h2; omega, by omega, by rw [beBytes_length], HA.out, HST.out⟩
  case round =>
    obtain ⟨l, a, m, c, rfl, hl8, hcm, hlc, H⟩ := hrel
    obtain ⟨hm, h3, h4⟩ := H.out
    by_cases hz : ∃ t, l = 0 :: t
    · obtain ⟨t, rfl⟩ := hz
      obtain ⟨k, rfl⟩ : ∃ k, m = k + 1 := ⟨t.length, by simpa using hm⟩
      have hk : k = t.length := by simpa using hm
      rcases SliceAt.split h3 with ⟨h0, _⟩ | ⟨b, o, rfl, -, -, -⟩
      · cases h0
      have hc := BytesAt.cell h3 0 (by simp)
      simp only [Nat.add_zero, List.getElem_cons_zero] at hc
      have hs := BytesAt.since h3 1 (by omega) (a2 := if c = 1 then some ⟨b, o, none⟩ else some ⟨b, o + 1, none⟩) (by simp [Addr.add])
      simp only [List.drop_succ_cons, List.drop_zero, Nat.add_sub_cancel] at hs
      have h5 : t.dropWhile (· == 0) = wordB n := by rw [← h4]; simp
      have HS : Hid (k = t.length ∧ BytesAt (fun _ => True) w1 (.slice (if c = 1 then some ⟨b, o, none⟩ else some ⟨b, o + 1, none⟩) k (c - 1)) t ∧ t.dropWhile (· == 0) = wordB n) := Lib.hid ⟨hk, hs, h5⟩
      clear h3 h4 H hs h5 hm hk
      go_wp2
      go_round
      case rel => exact ⟨t, _, _, _, rfl, by omega, by omega, by omega, HS⟩
      case measure => simp
    · have h5 : l = wordB n := by
        rw [← h4]
        cases l with
        | nil => rfl
        | cons x t =>
          have : (x == 0) = false := by simpa using fun e => hz ⟨t, by rw [e]⟩
          simp [this]
      have hpath : m = 0 ∨ (0 < m ∧ ∃ b o x, a = some ⟨b, o, none⟩ ∧ w1.cell? ⟨b, o, none⟩ = some (.int .u8 ((x : Nat) : Int)) ∧ 0 < x) := by
        rcases SliceAt.split h3 with ⟨h0, h1⟩ | ⟨b, o, rfl, -, hp, -⟩
        · exact .inl h1
        · cases l with
          | nil => simp at hm; exact .inl hm
          | cons x t =>
            have hc := BytesAt.cell h3 0 (by simp)
            simp only [Nat.add_zero, List.getElem_cons_zero] at hc
            refine .inr ⟨hp, b, o, x.toNat, rfl, hc, ?_⟩
            rcases Nat.eq_zero_or_pos x.toNat with h | h
            · exact absurd ⟨t, by rw [UInt8.toNat_inj.1 (show x.toNat = (0 : UInt8).toNat from h)]⟩ hz
            · exact h
      have hbase := HB.out.size
      have hle : (([] : List UInt8).length + l.length) * 1 ≤ 140737488355328 := by simp; omega
      subst h5
      have H3 := Lib.hid h3
      have HLE := Lib.hid hle
      clear h3 h4 H hz hm hle
      rcases hpath with rfl | ⟨hp, b, o, x, rfl, hc, hx⟩
      rotate_left
      have hx0 : ((x : Int) == 0) = false := by simp; omega
      all_goals
        go_wp2_with (at_builtin; refine wpList_append_at rfl (.const (.slice none 0 0)) (.tmp 17) 25 rfl w.heap.size 5 i0 (.int .u8 0) 1 1 underlying25 hi hz0 hz1 hz2 rfl (by decide) (by decide) byteR.one (.slice none 0 0) [] rfl (OwnAt.nil _ _ _ _ _) _ (wordB n) (fun _ => True) rfl H3.out HLE.out hbase ?_; intro v2 w2 ho hg hm)
        go_ret
        exact ⟨_, rfl, by simpa using ho, HB.out.grown hg hbase (fun k hk => by cases hk)⟩
end Go.Proofs.Ytndkkgkcbbmnpaa
namespace Go.Pg
open Go.RowKit
def addW (a b : Int) : Int := IntKind.u64.wrap (a + b)
def xorW (a b : Int) : Int := bits .xor .u64 a b
def rotW (x : Int) (n : Nat) : Int := bits .or .u64 (IntKind.u64.wrap (x * 2 ^ n)) (x / 2 ^ (64 - n))
structure S4 where
  a : Int
  b : Int
  c : Int
  d : Int
def S4.get (s : S4) : Nat → Int | 0 => s.a | 1 => s.b | 2 => s.c | _ => s.d
def S4.set (s : S4) : Nat → Int → S4
  | 0, v => { s with a := v } | 1, v => { s with b := v } | 2, v => { s with c := v } | _, v => { s with d := v }
def S4.cells (s : S4) : Array Value := #[.int .u64 s.a, .int .u64 s.b, .int .u64 s.c, .int .u64 s.d]
def S4.xor (s m : S4) : S4 := ⟨xorW s.a m.a, xorW s.b m.b, xorW s.c m.c, xorW s.d m.d⟩
/-- the first k words are those of t, the others those of s -/
def S4.part (k : Nat) (t s : S4) : S4 := ⟨if 0 < k then t.a else s.a, if 1 < k then t.b else s.b, if 2 < k then t.c else s.c, if 3 < k then t.d else s.d⟩
theorem S4.part_zero (t s : S4) : S4.part 0 t s = s := by simp [S4.part]
theorem S4.part_four (t s : S4) : S4.part 4 t s = t := by simp [S4.part]
theorem S4.part_get (t s : S4) (k : Nat) (h : k < 4) : (S4.part k t s).get k = s.get k := by
  rcases k with _ | _ | _ | _ | k
  all_goals first | rfl | omega
theorem S4.part_set (t s : S4) (k : Nat) (h : k < 4) : (S4.part k t s).set k (t.get k) = S4.part (k + 1) t s := by
  rcases k with _ | _ | _ | _ | k
  all_goals first | rfl | omega
theorem S4.xor_get (s m : S4) (k : Nat) (h : k < 4) : (s.xor m).get k = xorW (s.get k) (m.get k) := by
  rcases k with _ | _ | _ | _ | k
  all_goals first | rfl | omega
theorem S4.cells_get (s : S4) (k : Nat) (h : k < 4) : s.cells[k]? = some (.int .u64 (s.get k)) := by
  rcases k with _ | _ | _ | _ | k
  all_goals first | rfl | omega
theorem S4.cells_set (s : S4) (k : Nat) (h : k < 4) (v : Int) : s.cells.setIfInBounds k (.int .u64 v) = (s.set k v).cells := by
  rcases k with _ | _ | _ | _ | k
  all_goals first | rfl | omega
theorem S4.ext' {s t : S4} (h : ∀ k, k < 4 → s.get k = t.get k) : s = t := by
  have h0 := h 0 (by omega)
  have h1 := h 1 (by omega)
  have h2 := h 2 (by omega)
  have h3 := h 3 (by omega)
  obtain ⟨a, b, c, d⟩ := s
  obtain ⟨a', b', c', d'⟩ := t
  simp only [S4.get] at h0 h1 h2 h3
  subst h0 h1 h2 h3
  rfl
def S4.ok (s : S4) : Prop := ∀ k, k < 4 → 0 ≤ s.get k ∧ s.get k ≤ 18446744073709551615
def golden : Int := 11400714819323198485
/-- what is added in a round -/
def kay (r : Nat) : Int := (golden * (r + 1 : Nat)) % 18446744073709551616
theorem kay_zero : kay 0 = 11400714819323198485 := by decide
theorem kay_step (r : Nat) : IntKind.u64.wrap (kay r + 11400714819323198485) = kay (r + 1) := by
  rw [IntKind.wrap_u64]; unfold kay golden; omega
def round (m : S4) (r : Nat) (s : S4) : S4 :=
  let a1 := addW s.a (addW (addW s.b (m.get (r % 4))) (kay r))
  let d1 := rotW (xorW s.d a1) 32
  let c1 := addW s.c d1
  let b1 := rotW (xorW s.b c1) 24
  let a2 := addW a1 b1
  let d2 := rotW (xorW d1 a2) 16
  let c2 := addW c1 d2
  let b2 := rotW (xorW b1 c2) 63
  ⟨b2, c2, d2, a2⟩
def rounds (m s : S4) : Nat → S4
  | 0 => s
  | r + 1 => round m r (rounds m s r)
/-- a state behind four more words -/
def mixedS (s m : S4) : S4 := (rounds m (s.xor m) 8).xor s
/-- the four words of 32 bytes -/
def wordAt (l : List UInt8) (at_ : Nat) : Int := (beNum ((l.drop at_).take 8) : Nat)
def wordsOf (l : List UInt8) : S4 := ⟨wordAt l 0, wordAt l 8, wordAt l 16, wordAt l 24⟩
def begunS : S4 := ⟨kay 0, kay 1, kay 2, kay 3⟩
def absorb (s : S4) (l : List UInt8) : S4 := if 32 ≤ l.length then absorb (mixedS s (wordsOf l)) (l.drop 32) else s
termination_by l.length
decreasing_by simp; omega
/-- how many zeros -/
def zeros (n : Nat) : Nat := (55 + 32 - n % 32) % 32
def padOf (l : List UInt8) (n : Nat) : List UInt8 := l ++ [128] ++ List.replicate (zeros l.length) 0 ++ beBytes 8 n
def outS (s : S4) : List UInt8 := beBytes 8 s.a.toNat ++ beBytes 8 s.b.toNat ++ beBytes 8 s.c.toNat ++ beBytes 8 s.d.toNat
/-- the digest of a text -/
def digestOf (l : List UInt8) : List UInt8 := outS (absorb begunS (padOf l l.length))
theorem outS_length (s : S4) : (outS s).length = 32 := by simp [outS, beBytes_length]
theorem digestOf_length (l : List UInt8) : (digestOf l).length = 32 := outS_length _
theorem padOf_length (l : List UInt8) (n : Nat) : (padOf l n).length % 32 = 0 := by
  simp only [padOf, List.length_append, List.length_cons, List.length_nil, List.length_replicate, beBytes_length, zeros]; omega
theorem absorb_step (s : S4) (l : List UInt8) (h : 32 ≤ l.length) : absorb s l = absorb (mixedS s (wordsOf l)) (l.drop 32) := by rw [absorb, if_pos h]
theorem absorb_done (s : S4) (l : List UInt8) (h : l.length < 32) : absorb s l = s := by rw [absorb, if_neg (by omega)]
theorem wordsOf_append (l m : List UInt8) (h : 32 ≤ l.length) : wordsOf (l ++ m) = wordsOf l := by
  have : ∀ k, k + 8 ≤ 32 → wordAt (l ++ m) k = wordAt l k := fun k hk => by
    unfold wordAt
    rw [List.drop_append_of_le_length (by omega), List.take_append_of_le_length (by rw [List.length_drop]; omega)]
  unfold wordsOf
  rw [this 0 (by omega), this 8 (by omega), this 16 (by omega), this 24 (by omega)]
theorem wordsOf_take (l : List UInt8) : wordsOf (l.take 32) = wordsOf l := by
  have : ∀ k, k + 8 ≤ 32 → wordAt (l.take 32) k = wordAt l k := fun k hk => by
    unfold wordAt
    rw [List.drop_take, List.take_take, Nat.min_eq_left (by omega)]
  unfold wordsOf
  rw [this 0 (by omega), this 8 (by omega), this 16 (by omega), this 24 (by omega)]
/-- whole pieces ahead of more -/
theorem absorb_append (k : Nat) : ∀ (s : S4) (l m : List UInt8), l.length = 32 * k → absorb s (l ++ m) = absorb (absorb s l) m := by
  induction k with
  | zero => intro s l m h; have : l = [] := List.eq_nil_of_length_eq_zero (by omega)
            subst this; rw [absorb_done s [] (by simp)]; rfl
  | succ k ih =>
    intro s l m h
    rw [absorb_step s (l ++ m) (by simp; omega), absorb_step s l (by omega), wordsOf_append l m (by omega), List.drop_append_of_le_length (by omega)]
    exact ih _ _ _ (by rw [List.length_drop]; omega)
/-- the bytes that are left when whole pieces are mixed in -/
def restOf (l : List UInt8) : List UInt8 := l.drop (32 * (l.length / 32))
theorem absorb_rest (s : S4) (l : List UInt8) (n : Nat) : absorb s (padOf l n) = absorb (absorb s l) (padOf (restOf l) n) := by
  have h1 : padOf l n = l.take (32 * (l.length / 32)) ++ padOf (restOf l) n := by
    have hz : zeros l.length = zeros (restOf l).length := by
      unfold restOf zeros; rw [List.length_drop]; omega
    unfold padOf
    rw [hz]
    generalize zeros (restOf l).length = z
    conv => lhs; rw [← List.take_append_drop (32 * (l.length / 32)) l]
    unfold restOf
    simp only [List.append_assoc]
  have hl : (l.take (32 * (l.length / 32))).length = 32 * (l.length / 32) := by rw [List.length_take]; omega
  have h2 : absorb s l = absorb s (l.take (32 * (l.length / 32))) := by
    conv => lhs; rw [← List.take_append_drop (32 * (l.length / 32)) l]
    rw [absorb_append _ _ _ _ hl, absorb_done _ _ (by rw [List.length_drop]; omega)]
  rw [h1, absorb_append _ _ _ _ hl, h2]
end Go.Pg
namespace Go.Pg
open Go.RowKit
/-- what bytes say as a word: the number, and whether they are a word's -/
def readWord (bs : List UInt8) : Nat × Bool := if 8 < bs.length ∨ bs.head? = some 0 then (0, false) else (beNum bs, true)
end Go.Pg
namespace Go.Proofs.Ytndkkgkcbbmnpaa
open Go.RowKit Go.Pg

set_option maxRecDepth 100000 in
set_option maxHeartbeats 1000000 in
theorem wread_any (F : Nat → Prop) (w : World) (a : Option Addr) (n c : Nat) (bs : List UInt8) (h : BytesAt F w (.slice a n c) bs) :
    Calls Try.prog 82 #[.slice a n c] w fun e w' => e = .returned (.tuple #[.int .u64 (readWord bs).1, .bool (readWord bs).2]) ∧ w = w' := by
  obtain ⟨hn, -, -⟩ := BytesAt.n h
  by_cases h8 : 8 < n
  · have hr : readWord bs = (0, false) := by unfold readWord; rw [if_pos (.inl (by omega))]
    rw [hr]
    have HN := Lib.hid hn
    have H := Lib.hid h
    have hn8 : (8 : Int) < (n : Int) := by omega
    clear hr hn h h8
    go_enter Try.func82, Try.ntmps82
    go_wp2
    go_ret2
    exact ⟨rfl, rfl⟩
  · by_cases hz : bs.head? = some 0
    · have hr : readWord bs = (0, false) := by unfold readWord; rw [if_pos (.inr hz)]
      obtain ⟨t, rfl⟩ : ∃ t, bs = 0 :: t := by
        cases bs with
        | nil => cases hz
        | cons x t => simp at hz; subst hz; exact ⟨t, rfl⟩
      rw [hr]
      rcases SliceAt.split h with ⟨h0, _⟩ | ⟨b, o, rfl, -, hp, -⟩
      · cases h0
      have hc := BytesAt.cell h 0 (by simp)
      simp only [Nat.add_zero, List.getElem_cons_zero] at hc
      have hn8 : (n : Int) ≤ 8 := by omega
      clear hr hn h h8 hz
      go_enter Try.func82, Try.ntmps82
      go_wp2
      go_ret2
      exact ⟨rfl, rfl⟩
    · have hr : readWord bs = (beNum bs, true) := by
        unfold readWord; rw [if_neg]
        rintro (h1 | h1)
        · omega
        · exact hz h1
      have hpath : n = 0 ∨ (0 < n ∧ ∃ b o x, a = some ⟨b, o, none⟩ ∧ w.cell? ⟨b, o, none⟩ = some (.int .u8 ((x : Nat) : Int)) ∧ 0 < x) := by
        rcases SliceAt.split h with ⟨h0, h1⟩ | ⟨b, o, rfl, -, hp, -⟩
        · exact .inl h1
        · cases bs with
          | nil => simp at hn; exact .inl hn
          | cons x t =>
            have hc := BytesAt.cell h 0 (by simp)
            simp only [Nat.add_zero, List.getElem_cons_zero] at hc
            refine .inr ⟨hp, b, o, x.toNat, rfl, hc, ?_⟩
            rcases Nat.eq_zero_or_pos x.toNat with h | h
            · exact absurd (by rw [UInt8.toNat_inj.1 (show x.toNat = (0 : UInt8).toNat from h)]; rfl) hz
            · exact h
      rw [hr]
      have hn8 : (n : Int) ≤ 8 := by omega
      have H := Lib.hid h
      clear hr hn h h8 hz
      rcases hpath with rfl | ⟨hp, b, o, x, rfl, hc, hx⟩
      rotate_left
      have hx0 : ((x : Int) == 0) = false := by simp; omega
      all_goals
        go_enter Try.func82, Try.ntmps82
        go_wp2_with fail
        refine (number_u64 F w _ _ c bs H.out (by omega)).mono ?_
        rintro e w' ⟨rfl, rfl⟩
        go_wp2
        go_ret2
        exact ⟨rfl, rfl⟩

set_option maxRecDepth 100000 in
set_option maxHeartbeats 1000000 in
theorem r3bytes_any (n : Nat) (w : World) (hn : (n : Int) < 18446744073709551616) :
    Calls Try.prog 81 #[.int .u64 n] w (Fresh w 5 1 byteR (wordB n)) := by
  obtain ⟨i0, hi, hz0, hz1, hz2⟩ := info_parts infoU8
  go_enter Try.func81, Try.ntmps81
  go_wp2
  go_loopw [0, 3] (fun m v wr => ∃ (k : Nat) (l : List UInt8) (a : Option Addr) (c : Nat) (j : Nat), m = .int .u64 k ∧ (k : Int) < 18446744073709551616 ∧ j ≤ 8 ∧ v = .slice a j c ∧
     Hid (OwnAt wr w.heap.size 5 1 byteR (.slice a j c) l ∧ wordB k ++ l = wordB n ∧ Below w.heap.size w wr)) (fun m _ _ => (intOf m).toNat)
  case atStart => exact ⟨n, [], none, 0, 0, rfl, hn, by omega, rfl, OwnAt.nil _ _ _ _ _, by simp, Bel.refl _⟩
  case round =>
    obtain ⟨k, l, a, c, j, rfl, hk, hj, rfl, H⟩ := hrel
    by_cases h0 : k = 0
    · subst h0
      go_wp2
      go_ret
      obtain ⟨h1, h2, h3⟩ := H.out
      have h4 : l = wordB n := by rw [← h2]; unfold wordB; rw [number_zero]; rfl
      rw [h4] at h1
      exact ⟨_, rfl, h1, h3⟩
    · have hk0 : (0 : Int) < (k : Int) := by omega
      have hk1 : (k : Int) ≠ 0 := by omega
      obtain ⟨h1, h2, h3⟩ := H.out
      have hw : wordB k = wordB (k / 256) ++ [UInt8.ofNat (k % 256)] := by unfold wordB; rw [number_pos (n := k) (by omega)]; rfl
      have hl : l.length = j := by
        obtain ⟨_, _, e, -⟩ := h1.len
        simp only [Value.slice.injEq] at e
        omega
      have hlen : ([UInt8.ofNat (k % 256)] : List UInt8).length + l.length = j + 1 := by simp; omega
      have hj1 : j + 1 ≤ 8 := by
        have e1 := congrArg List.length h2
        rw [hw] at e1
        simp only [List.length_append, List.length_cons, List.length_nil] at e1
        have e2 := wordB_le n hn
        omega
      have hkey : wordB (k / 256) ++ ([UInt8.ofNat (k % 256)] ++ l) = wordB n := by rw [← h2, hw]; simp
      have hat := h1.at (F := fun _ => True) (fun _ _ _ _ => trivial) (by decide)
      have hb := h3.size
      have hsrc : BytesAt (fun _ => True) (wr.alloc (.cells #[.int .u8 ((k : Int) % 256)] 5)) (.slice a j c) l := BytesAt.below hat (Bel.alloc (Bel.refl wr) _)
      have hown : OwnAt (wr.alloc (.cells #[.int .u8 ((k : Int) % 256)] 5)) w.heap.size 5 1 byteR (.slice (some ⟨wr.heap.size, 0, none⟩) 1 1) [UInt8.ofNat (k % 256)] := by
        have := (OwnAt.lit' wr 5 (UInt8.ofNat (k % 256))).lower hb
        rw [UInt8.toNat_ofNat', Nat.mod_eq_of_lt (Nat.mod_lt _ (by omega))] at this
        exact this
      have hle : (([UInt8.ofNat (k % 256)] : List UInt8).length + l.length) * 1 ≤ 140737488355328 := by rw [hlen]; omega
      have hbase : w.heap.size ≤ (wr.alloc (.cells #[.int .u8 ((k : Int) % 256)] 5)).heap.size := by simp; omega
      have H1 := Lib.hid hown
      have H2 := Lib.hid hsrc
      have H3 := Lib.hid hkey
      have H4 := Lib.hid h3
      have H5 := Lib.hid hle
      have H6 := Lib.hid hlen
      obtain ⟨ki, hki⟩ : ∃ ki : Int, ki = (k : Int) := ⟨_, rfl⟩
      rw [← hki] at H1 H2 hbase hk hk0 hk1 ⊢
      have HKI := Lib.hid hki
      have HN := Lib.hid hn
      clear hki hn h0
      clear h1 h2 h3 hw hkey hat hb hsrc hown hle hl hlen H
      go_wp2_with (at_builtin; refine wpList_append_at rfl (.tmp 9) (.tmp 10) 25 rfl w.heap.size 5 i0 (.int .u8 0) 1 1 underlying25 hi hz0 hz1 hz2 rfl (by decide) (by decide) byteR.one (.slice (some ⟨wr.heap.size, 0, none⟩) 1 1) [UInt8.ofNat (k % 256)] rfl H1.out _ l (fun _ => True) rfl H2.out H5.out hbase ?_; intro v2 w2 ho hg hm)
      have hown2 := (H1.out).own
      have hbel := (H4.out.alloc (by have := H4.out.size; omega) (.cells #[.int .u8 (ki % 256)] 5)).grown hg hbase (fun g hg' => (hown2 g hg').1)
      obtain ⟨a2, c2, hv2, -, -, -⟩ := ho.len
      rw [List.length_append, H6.out] at hv2
      subst hv2
      have HNX : Hid (OwnAt w2 w.heap.size 5 1 byteR (.slice a2 (j + 1) c2) ([UInt8.ofNat (k % 256)] ++ l) ∧ wordB (k / 256) ++ ([UInt8.ofNat (k % 256)] ++ l) = wordB n ∧ Below w.heap.size w w2) := ⟨ho, H3.out, hbel⟩
      clear ho hg hm hown2 hbel
      go_wp2
      go_roundw
      case rel => exact ⟨k / 256, _, a2, c2, j + 1, num_eq (by rw [HKI.out]; omega), by have := HKI.out; omega, by omega, rfl, HNX⟩
      case measure => have := HKI.out; simp [intOf]; omega
end Go.Proofs.Ytndkkgkcbbmnpaa
namespace Go.Pg
open Go.RowKit
theorem mul_u64 (p : Nat) (x : UInt8) (hp : p < 256 ^ 7) : IntKind.u64.wrap (IntKind.u64.wrap ((p : Int) * 256) + IntKind.u64.wrap (x.toNat : Int)) = ((p * 256 + x.toNat : Nat) : Int) := by
  have hx := x.toNat_lt
  rw [IntWalk.u64_in (x.toNat : Int) (by omega), IntWalk.u64_in ((p : Int) * 256) (by omega), IntWalk.u64_in _ (by omega)]
  omega
theorem beNum_be (k n : Nat) (h : n < 256 ^ k) : beNum (beBytes k n) = n := by
  induction k generalizing n with
  | zero => have : n = 0 := by simpa using h
            subst this; rfl
  | succ k ih =>
    simp only [beBytes]
    rw [beNum_snoc, ih (n / 256) (by rw [Nat.pow_succ] at h; exact Nat.div_lt_of_lt_mul (by omega)), UInt8.toNat_ofNat', Nat.mod_eq_of_lt (Nat.mod_lt _ (by omega))]
    omega
theorem lt_number (n : Nat) : n < 256 ^ number n := by
  induction n using Nat.strongRecOn with
  | _ n ih =>
    by_cases h : n = 0
    · subst h; rw [number_zero]; exact Nat.one_pos
    · rw [number_pos (n := n) (by omega), Nat.pow_succ]
      have := ih (n / 256) (by omega)
      omega
theorem beNum_wordB (n : Nat) : beNum (wordB n) = n := by
  unfold wordB
  exact beNum_be _ _ (lt_number n)
theorem be_beNum (l : List UInt8) : ∀ k, k ≤ l.length → beBytes k (beNum (l.take k)) = l.take k := by
  intro k
  induction k with
  | zero => intro _; simp [beBytes]
  | succ k ih =>
    intro h
    rw [number_snoc l k (by omega)]
    simp only [beBytes]
    have hx := (l[k]).toNat_lt
    rw [show (beNum (l.take k) * 256 + (l[k]).toNat) / 256 = beNum (l.take k) by omega, show (beNum (l.take k) * 256 + (l[k]).toNat) % 256 = (l[k]).toNat by omega, ih (by omega), List.take_succ_eq_append_getElem (by omega)]
    congr 2
    exact UInt8.ofNat_toNat
theorem wordB_beNum (l : List UInt8) : wordB (beNum l) = l.dropWhile (· == 0) := by
  rw [← strip_be l.length (beNum l) (beNum_lt l)]
  have := be_beNum l l.length (Nat.le_refl _)
  rw [List.take_length] at this
  rw [this]
theorem wordB_beNum_iff (l : List UInt8) : wordB (beNum l) = l ↔ l.head? ≠ some 0 := by
  rw [wordB_beNum]
  cases l with
  | nil => simp
  | cons x t =>
    by_cases h : x = 0
    · subst h
      simp only [List.head?_cons, ne_eq, not_true, iff_false]
      intro e
      have := congrArg List.length e
      have h2 := (List.dropWhile_suffix (l := t) (fun x : UInt8 => x == 0)).length_le
      simp at this
      omega
    · have : (x == 0) = false := by simpa using h
      simp [this, h]
theorem beNum_w64 (l : List UInt8) (h : l.length ≤ 8) : (beNum l : Int) < 18446744073709551616 := by
  have h1 := beNum_lt l
  have h2 : 256 ^ l.length ≤ 256 ^ 8 := Nat.pow_le_pow_right (by omega) h
  have h3 : beNum l < 256 ^ 8 := Nat.lt_of_lt_of_le h1 h2
  omega
end Go.Pg
namespace Go.Proofs.Ytndkkgkcbbmnpaa
open Go.RowKit Go.Pg

set_option maxRecDepth 100000 in
set_option maxHeartbeats 1000000 in
theorem rread_any (F : Nat → Prop) (w : World) (a : Option Addr) (n c : Nat) (bs : List UInt8) (h : BytesAt F w (.slice a n c) bs) :
    Calls Try.prog 83 #[.slice a n c] w fun e w' => e = .returned (.tuple #[.int .u64 (readWord bs).1, .bool (readWord bs).2]) ∧ Below w.heap.size w w' := by
  obtain ⟨hn, hnc, hcm⟩ := BytesAt.n h
  by_cases h8 : 8 < n
  · have hr : readWord bs = (0, false) := by unfold readWord; rw [if_pos (.inl (by omega))]
    rw [hr]
    have hn8 : (8 : Int) < (n : Int) := by omega
    clear hr hn h h8 hnc hcm
    go_enter Try.func83, Try.ntmps83
    go_wp2
    go_ret2
    exact ⟨rfl, Bel.refl _⟩
  · have hn8 : (n : Int) ≤ 8 := by omega
    unfold maxLen at hcm
    have H := Lib.hid h
    have HN := Lib.hid hn
    clear h hn h8
    go_enter Try.func83, Try.ntmps83
    go_wp2
    go_loop [4, 5] (fun s i => ∃ k : Nat, k ≤ n ∧ i = .int .i64 k ∧ s = .int .u64 (beNum (bs.take k))) (fun _ i => n - (intOf i).toNat)
    case atStart => exact ⟨0, by omega, rfl, rfl⟩
    case round =>
      obtain ⟨k, hk, rfl, rfl⟩ := hrel
      by_cases hlt : k < n
      · rcases SliceAt.split H.out with ⟨_, h0⟩ | ⟨b, o, rfl, -, -, -⟩
        · omega
        have hc := BytesAt.cell H.out k (by have := HN.out; omega)
        obtain ⟨p, hp⟩ : ∃ p, p = beNum (bs.take k) := ⟨_, rfl⟩
        obtain ⟨x, hx⟩ : ∃ x, x = bs[k]'(by have := HN.out; omega) := ⟨_, rfl⟩
        rw [← hx] at hc
        rw [← hp]
        have HP := Lib.hid hp
        have HX := Lib.hid hx
        have hk0 : (0 : Int) ≤ (k : Int) := by omega
        have hk1 : (k : Int) < (n : Int) := by omega
        clear hp hx
        go_wp2
        go_round
        case rel => exact ⟨k + 1, by omega, num_eq (by omega), num_eq (by rw [number_snoc bs k (by have := HN.out; omega), ← HP.out, ← HX.out]; exact mul_u64 p x (by rw [HP.out]; exact beNum_small bs k (by omega)))⟩
        case measure => simp [intOf]; omega
      · obtain rfl : n = k := by omega
        rw [List.take_of_length_le (by have := HN.out; omega)]
        obtain ⟨p, hp⟩ : ∃ p, p = beNum bs := ⟨_, rfl⟩
        have hpb := beNum_w64 bs (by have := HN.out; omega)
        rw [← hp] at hpb ⊢
        have HP := Lib.hid hp
        have hs : ∀ w' : World, Below w.heap.size w w' → (convert 25 9 (.slice a n c)).run Try.prog w' = .ok (.string ⟨bs.toArray⟩) w' := fun w' hb => run_string_at (P := Try.prog) (BytesAt.below H.out hb) 25 5 9 Try.underlying25 Try.underlying5 Try.underlying9
        obtain ⟨L, hL⟩ : ∃ L, L = wordB p := ⟨_, rfl⟩
        have hcall : ∀ w1 : World, Calls Try.prog 81 #[.int .u64 p] w1 (Fresh w1 5 1 byteR L) := fun w1 => by rw [hL]; exact r3bytes_any p w1 hpb
        have HL := Lib.hid hL
        have HC := Lib.hid hcall
        clear hp hpb hL hcall
        go_wp2_with fail
        have hs0 := hs w.drew (Bel.drew (Bel.refl _))
        have HS := Lib.hid hs
        clear hs
        go_region_with (first
            | (go_at_call 81; refine (HC.out _).mono ?_; rintro e w1 ⟨v1, rfl, ho, hb1⟩; obtain ⟨a1, c1, rfl, -, -, -⟩ := ho.len; have hs1 := run_string_at (P := Try.prog) (ho.at (F := fun _ => True) (fun _ _ _ _ => trivial) (by decide)) 25 5 9 Try.underlying25 Try.underlying5 Try.underlying9; have hs2 := HS.out w1 (Bel.call (Bel.drew (Bel.refl _)) hb1)))
        all_goals
          have hlen8 : ¬ 8 < bs.length := by have := HN.out; omega
          have HBX := Lib.hid (Bel.call (Bel.drew (Bel.refl w)) hb1)
          have H8 := Lib.hid hlen8
          clear hs0 hs1 hs2 hb1 ho hlen8 hcm hnc hlt hk
          go_wp2
          · have hne : ¬ L = bs := by
              have h : (!L == bs) = true := by assumption
              simpa using h
            have hr : readWord bs = (0, false) := by
              unfold readWord; rw [if_pos]
              rw [HL.out, HP.out, wordB_beNum_iff] at hne
              exact .inr (Classical.not_not.1 hne)
            go_ret2
            exact ⟨by rw [hr]; rfl, HBX.out⟩
          · have hne : L = bs := by
              have h : (!L == bs) = false := by assumption
              simpa using h
            have hr : readWord bs = (p, true) := by
              unfold readWord
              rw [HL.out, HP.out, wordB_beNum_iff] at hne
              rw [if_neg (fun h => h.elim H8.out hne), HP.out]
            go_ret2
            exact ⟨by rw [hr]; rfl, HBX.out⟩
end Go.Proofs.Ytndkkgkcbbmnpaa
namespace Go.Proofs.Ytndkkgkcbbmnpaa
open Go.RowKit Go.Pg

def RotD (w : World) (x : Int) (n : Nat) (e : Ending) (w' : World) : Prop := e = .returned (.int .u64 (rotW x n)) ∧ w = w'
def RotQ (w : World) (x : Int) (n : Nat) (e : Ending) (w' : World) : Prop := e = .returned (.int .u64 (rotW x n)) ∧ ∃ k, w' = w.drewN k
set_option maxRecDepth 100000 in
set_option maxHeartbeats 1000000 in
theorem rotl_32 (x : Int) (w : World) (_h0 : 0 ≤ x) (_h1 : x ≤ 18446744073709551615) : Calls Try.prog 114 #[.int .u64 x, .int .i64 32] w (RotD w x 32) := by
  have hb : bits .and .u64 32 63 = 32 := by rfl
  go_enter Try.func114, Try.ntmps114
  go_wp2
  go_ret
  exact ⟨rfl, rfl⟩
set_option maxRecDepth 100000 in
set_option maxHeartbeats 1000000 in
theorem rrot_32 (x : Int) (w : World) (_h0 : 0 ≤ x) (_h1 : x ≤ 18446744073709551615) : Calls Try.prog 65 #[.int .u64 x, .int .i64 32] w (RotQ w x 32) := by
  go_enter Try.func65, Try.ntmps65
  go_wp2
  go_quiet (fail)
  go_wp2
  go_ret
  exact ⟨rfl, _, rfl⟩
set_option maxRecDepth 100000 in
set_option maxHeartbeats 1000000 in
theorem rotl_24 (x : Int) (w : World) (_h0 : 0 ≤ x) (_h1 : x ≤ 18446744073709551615) : Calls Try.prog 114 #[.int .u64 x, .int .i64 24] w (RotD w x 24) := by
  have hb : bits .and .u64 24 63 = 24 := by rfl
  go_enter Try.func114, Try.ntmps114
  go_wp2
  go_ret
  exact ⟨rfl, rfl⟩
set_option maxRecDepth 100000 in
set_option maxHeartbeats 1000000 in
theorem rrot_24 (x : Int) (w : World) (_h0 : 0 ≤ x) (_h1 : x ≤ 18446744073709551615) : Calls Try.prog 65 #[.int .u64 x, .int .i64 24] w (RotQ w x 24) := by
  go_enter Try.func65, Try.ntmps65
  go_wp2
  go_quiet (fail)
  go_wp2
  go_ret
  exact ⟨rfl, _, rfl⟩
set_option maxRecDepth 100000 in
set_option maxHeartbeats 1000000 in
theorem rotl_16 (x : Int) (w : World) (_h0 : 0 ≤ x) (_h1 : x ≤ 18446744073709551615) : Calls Try.prog 114 #[.int .u64 x, .int .i64 16] w (RotD w x 16) := by
  have hb : bits .and .u64 16 63 = 16 := by rfl
  go_enter Try.func114, Try.ntmps114
  go_wp2
  go_ret
  exact ⟨rfl, rfl⟩
set_option maxRecDepth 100000 in
set_option maxHeartbeats 1000000 in
theorem rrot_16 (x : Int) (w : World) (_h0 : 0 ≤ x) (_h1 : x ≤ 18446744073709551615) : Calls Try.prog 65 #[.int .u64 x, .int .i64 16] w (RotQ w x 16) := by
  go_enter Try.func65, Try.ntmps65
  go_wp2
  go_quiet (fail)
  go_wp2
  go_ret
  exact ⟨rfl, _, rfl⟩
set_option maxRecDepth 100000 in
set_option maxHeartbeats 1000000 in
theorem rotl_63 (x : Int) (w : World) (_h0 : 0 ≤ x) (_h1 : x ≤ 18446744073709551615) : Calls Try.prog 114 #[.int .u64 x, .int .i64 63] w (RotD w x 63) := by
  have hb : bits .and .u64 63 63 = 63 := by rfl
  go_enter Try.func114, Try.ntmps114
  go_wp2
  go_ret
  exact ⟨rfl, rfl⟩
set_option maxRecDepth 100000 in
set_option maxHeartbeats 1000000 in
theorem rrot_63 (x : Int) (w : World) (_h0 : 0 ≤ x) (_h1 : x ≤ 18446744073709551615) : Calls Try.prog 65 #[.int .u64 x, .int .i64 63] w (RotQ w x 63) := by
  go_enter Try.func65, Try.ntmps65
  go_wp2
  go_quiet (fail)
  go_wp2
  go_ret
  exact ⟨rfl, _, rfl⟩

set_option maxRecDepth 100000 in
set_option maxHeartbeats 1000000 in
theorem dword_any (F : Nat → Prop) (w : World) (a : Option Addr) (n c : Nat) (bs : List UInt8) (h : BytesAt F w (.slice a n c) bs) (h8 : 8 ≤ n) :
    Calls Try.prog 113 #[.slice a n c] w fun e w' => e = .returned (.int .u64 (wordAt bs 0)) ∧ w = w' := by
  obtain ⟨hn, hnc, hcm⟩ := BytesAt.n h
  unfold maxLen at hcm
  rcases SliceAt.split h with ⟨rfl, h0⟩ | ⟨b, o, rfl, -, -, -⟩
  · simp at hn; omega
  have HN := Lib.hid hn
  have H := Lib.hid h
  have h8c : 8 ≤ c := by omega
  clear h hn
  go_enter Try.func113, Try.ntmps113
  go_wp2
  go_loop [3, 9] (fun s i => ∃ k : Nat, k ≤ 8 ∧ i = .int .i64 k ∧ s = .int .u64 (beNum (bs.take k))) (fun _ i => 8 - (intOf i).toNat)
  case atStart => exact ⟨0, by omega, rfl, rfl⟩
  case round =>
    obtain ⟨k, hk, rfl, rfl⟩ := hrel
    by_cases hlt : k < 8
    · have hc := BytesAt.cell H.out k (by have := HN.out; omega)
      obtain ⟨p, hp⟩ : ∃ p, p = beNum (bs.take k) := ⟨_, rfl⟩
      obtain ⟨x, hx⟩ : ∃ x, x = bs[k]'(by have := HN.out; omega) := ⟨_, rfl⟩
      rw [← hx] at hc
      rw [← hp]
      have HP := Lib.hid hp
      have HX := Lib.hid hx
      have hk0 : (0 : Int) ≤ (k : Int) := by omega
      have hk1 : (k : Int) < 8 := by omega
      clear hp hx
      go_wp2
      go_round
      case rel => exact ⟨k + 1, by omega, num_eq (by omega), num_eq (by rw [number_snoc bs k (by have := HN.out; omega), ← HP.out, ← HX.out]; exact or_u64 p x (by rw [HP.out]; exact beNum_small bs k (by omega)))⟩
      case measure => simp [intOf]; omega
    · obtain rfl : k = 8 := by omega
      go_wp2
      go_ret
      exact ⟨rfl, rfl⟩

set_option maxRecDepth 100000 in
set_option maxHeartbeats 1000000 in
theorem rword_any (F : Nat → Prop) (w : World) (a : Option Addr) (n c : Nat) (bs : List UInt8) (h : BytesAt F w (.slice a n c) bs) (at_ : Nat) (ai : Int) (hai : ai = at_) (h8 : at_ + 8 ≤ n) :
    Calls Try.prog 64 #[.slice a n c, .int .i64 ai] w fun e w' => e = .returned (.int .u64 (wordAt bs at_)) ∧ w = w' := by
  subst hai
  obtain ⟨hn, hnc, hcm⟩ := BytesAt.n h
  unfold maxLen at hcm
  rcases SliceAt.split h with ⟨rfl, h0⟩ | ⟨b, o, rfl, -, -, -⟩
  · simp at hn; omega
  have HN := Lib.hid hn
  have H := Lib.hid h
  clear h hn
  go_enter Try.func64, Try.ntmps64
  go_wp2
  go_loop [5, 6] (fun s i => ∃ k : Nat, k ≤ 8 ∧ i = .int .i64 k ∧ s = .int .u64 (beNum ((bs.drop at_).take k))) (fun _ i => 8 - (intOf i).toNat)
  case atStart => exact ⟨0, by omega, rfl, rfl⟩
  case round =>
    obtain ⟨k, hk, rfl, rfl⟩ := hrel
    by_cases hlt : k < 8
    · have hc := BytesAt.cell H.out (at_ + k) (by have := HN.out; omega)
      obtain ⟨p, hp⟩ : ∃ p, p = beNum ((bs.drop at_).take k) := ⟨_, rfl⟩
      obtain ⟨x, hx⟩ : ∃ x, x = bs[at_ + k]'(by have := HN.out; omega) := ⟨_, rfl⟩
      rw [← hx] at hc
      rw [← hp]
      have HP := Lib.hid hp
      have HX := Lib.hid hx
      have hk0 : (0 : Int) ≤ (k : Int) := by omega
      have hk1 : (at_ : Int) + (k : Int) < (n : Int) := by omega
      clear hp hx
      go_wp2
      go_round
      case rel => exact ⟨k + 1, by omega, num_eq (by omega), num_eq (by rw [number_snoc (bs.drop at_) k (by rw [List.length_drop]; have := HN.out; omega), ← HP.out, List.getElem_drop, ← HX.out]; exact mul_u64 p x (by rw [HP.out]; exact beNum_small _ k (by omega)))⟩
      case measure => simp [intOf]; omega
    · obtain rfl : k = 8 := by omega
      go_wp2
      go_ret
      exact ⟨rfl, rfl⟩
end Go.Proofs.Ytndkkgkcbbmnpaa
