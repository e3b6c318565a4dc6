/-
  Contract of (*digest.Hash).Sum.
  Contract of digest.Of.
  Contracts of witness.read and witness.Decode: who owns what they tell.
-/
import Derived.Test.YtndkkgkcbbmnpaaQnAB
import Derived.Laws.CopyOwn
namespace Go.Pg
open Go.RowKit
theorem rows_bytes {xs : List Value} {l : List UInt8} (h : Rows 1 byteR xs l) : xs = l.map fun x => Value.int .u8 (x.toNat : Int) := by
  have hl := h.1
  rw [Nat.mul_one] at hl
  apply List.ext_getElem (by simpa using hl)
  intro i h1 h2
  obtain ⟨cs, -, hr, hj⟩ := h.2 i (l[i]'(by simpa using h2)) (by simp)
  rw [hr] at hj
  have := hj 0 _ rfl
  simp only [Nat.mul_one, Nat.add_zero] at this
  rw [List.getElem?_eq_getElem h1] at this
  simpa using this
theorem OwnAt.form {w : World} {base : Nat} {e : TypeId} {v : Value} {l : List UInt8} (h : OwnAt w base e 1 byteR v l) (hp : 0 < l.length) :
    ∃ g cap cur, v = .slice (some ⟨g, 0, none⟩) l.length cap ∧ base ≤ g ∧ w.heap[g]? = some (.cells cur e (0, 0)) ∧ l.length ≤ cap ∧ cap ≤ maxLen ∧ cur.size = cap ∧ cur.toList.take l.length = l.map fun x => Value.int .u8 (x.toNat : Int) := by
  obtain ⟨xs, h1, h2⟩ := h
  rcases h1.2 with ⟨-, h0⟩ | ⟨g, cap, cur, hv, hbg, hg, hc, hm, hs, ht⟩
  · omega
  · exact ⟨g, cap, cur, hv, hbg, hg, hc, hm, by omega, by rw [← rows_bytes h2, ← ht, Nat.mul_one]⟩
theorem layAt_filling (L M : List UInt8) (o m : Nat) (hm : M.length = m) (h : o + m ≤ L.length) (hM : (L.drop o).take m = M) : layAt (cellsOf (filling L o)) o M m = cellsOf (filling L (o + m)) := by
  apply Array.ext'
  have h1 : (L.take o).length = o := by rw [List.length_take]; omega
  simp only [layAt, cellsOf, filling, List.toList_toArray]
  rw [List.map_append, List.take_append_of_le_length (by rw [List.length_map, h1]; exact Nat.le_refl _), List.take_of_length_le (by rw [List.length_map, h1]; exact Nat.le_refl _), List.drop_append, List.length_map, h1, List.drop_of_length_le (by rw [List.length_map, h1]; omega), List.nil_append, ← List.map_drop, List.drop_replicate, List.take_of_length_le (show M.length ≤ m by omega)]
  rw [List.take_add, hM, List.map_append, List.map_append]
  congr 3
  omega
theorem outS_piece (s : S4) (k : Nat) (h : k < 4) : ((outS s).drop (8 * k)).take 8 = beBytes 8 (s.get k).toNat := by
  have e : ∀ n, (beBytes 8 n).length = 8 := fun n => beBytes_length 8 n
  unfold outS
  rcases k with _ | _ | _ | _ | k
  · rw [List.append_assoc, List.append_assoc]; exact List.take_left' (e _)
  · rw [List.append_assoc, List.append_assoc, List.drop_left' (e _)]; exact List.take_left' (e _)
  · rw [List.append_assoc, List.drop_left' (by rw [List.length_append, e, e])]; exact List.take_left' (e _)
  · rw [List.drop_left' (by rw [List.length_append, List.length_append, e, e, e])]; exact List.take_of_length_le (by rw [e]; exact Nat.le_refl _)
  · omega
theorem SliceAt.drew'' {α : Type} {F : Nat → Prop} {w : World} {sz : Nat} {R : List Value → α → Prop} {v : Value} {l : List α} (h : SliceAt F w sz R v l) : SliceAt F w.drew sz R v l := h
theorem OwnAt.ofForm {w : World} {base g cap : Nat} {e : TypeId} {cur : Array Value} {l : List UInt8} (hbg : base ≤ g) (hg : w.heap[g]? = some (.cells cur e (0, 0))) (hc : l.length ≤ cap) (hm : cap ≤ maxLen) (hs : cur.size = cap) (ht : cur.toList.take l.length = l.map fun x => Value.int .u8 (x.toNat : Int)) :
    OwnAt w base e 1 byteR (.slice (some ⟨g, 0, none⟩) l.length cap) l := by
  refine ⟨l.map fun x => Value.int .u8 (x.toNat : Int), ⟨by simp, .inr ⟨g, cap, cur, rfl, hbg, hg, hc, hm, by omega, by rw [Nat.mul_one]; exact ht⟩⟩, by simp, fun i x hx => ?_⟩
  refine ⟨[.int .u8 (x.toNat : Int)], rfl, rfl, fun j u hu => ?_⟩
  match j, hu with
  | 0, hu => simp at hu; subst hu; simp [hx]
/-- bytes laid over the last ones -/
theorem layAt_take (cur : Array Value) (l L : List UInt8) (k : Nat) (hk : l.length = k + L.length) (_hs : l.length ≤ cur.size) (ht : cur.toList.take l.length = l.map fun x => Value.int .u8 (x.toNat : Int)) :
    (layAt cur k L L.length).toList.take l.length = (l.take k ++ L).map fun x => Value.int .u8 (x.toNat : Int) := by
  have h1 : cur.toList.take k = (l.take k).map fun x => Value.int .u8 (x.toNat : Int) := by
    rw [List.map_take, ← ht, List.take_take, Nat.min_eq_left (by omega)]
  simp only [layAt, List.take_length]
  rw [h1, ← List.map_append]
  rw [List.take_append_of_le_length (by simp; omega), List.take_of_length_le (by simp; omega)]
end Go.Pg
namespace Go.Proofs.Ytndkkgkcbbmnpaa
open Go.RowKit Go.Pg

theorem mixedS_ok (s m : S4) : (mixedS s m).ok := by
  intro k hk
  unfold mixedS
  rw [S4.xor_get _ _ k hk]
  exact bits_u64_range _ _ _
/-- what stands throughout a call of Sum -/
structure SumSt (w wr : World) (hb : Nat) (s : S4) (v0 : Value) (n : Nat) : Prop where
  bel : Below w.heap.size w wr
  res : wr.heap[w.heap.size]? = some (.cells (cellsOf (List.replicate 32 0)) 37 (0, 0))
  hash : HashAt wr hb s v0 n
  old : hb < w.heap.size
theorem SumSt.lt {w wr : World} {hb : Nat} {s : S4} {v0 : Value} {n : Nat} (h : SumSt w wr hb s v0 n) : w.heap.size < wr.heap.size := (Array.getElem?_eq_some_iff.1 h.res).1
theorem SumSt.chg {w wr w2 : World} {hb : Nat} {s : S4} {v0 : Value} {n : Nat} (h : SumSt w wr hb s v0 n) (hc : Chg (fun k => w.heap.size < k) wr w2) : SumSt w w2 hb s v0 n :=
  ⟨h.bel.trans (hc.toBelowAt h.bel.size (fun k hk => by omega)), (hc.block _ h.lt (by omega)).trans h.res, h.hash.same (hc.block _ h.hash.lt (by have := h.old; omega)), h.old⟩
theorem SumSt.grown {w wr w2 : World} {hb : Nat} {s : S4} {v0 : Value} {n : Nat} (h : SumSt w wr hb s v0 n) {row : Option Nat} (hg : wr.grownBy w2 row) (hr : ∀ g, row = some g → w.heap.size < g) : SumSt w w2 hb s v0 n :=
  h.chg ((Chg.ofGrown hg).mono (fun k _ e => hr k e.symm))
theorem underlyingDig : Try.prog.underlying 37 = some (.array 32 5) := by kernel_rfl
theorem idx4 (xa xb xc xd : Int) (k : Nat) (hk : k < 4) (w : World) : (Instr.index 121 (.agg #[.int .u64 xa, .int .u64 xb, .int .u64 xc, .int .u64 xd]) (.int .i64 k)).run Try.prog w = .ok (.int .u64 (S4.get ⟨xa, xb, xc, xd⟩ k)) w := by
  rcases k with _ | _ | _ | _ | k
  all_goals first | omega | kernel_rfl
theorem sliceD (D k : Nat) (hk : k < 4) (w : World) : (Instr.sliceAt 37 (.pointer (some ⟨D, 0, none⟩)) (some (.int .i64 (8 * (k : Int)))) (some (.int .i64 (8 * (k : Int) + 8))) none).run Try.prog w = .ok (.slice (some ⟨D, 8 * k, none⟩) 8 (32 - 8 * k)) w := by
  rcases k with _ | _ | _ | _ | k
  all_goals first | omega | kernel_rfl
def SumD (w : World) (d : List UInt8) (e : Ending) (w' : World) : Prop := e = .returned (.agg (cellsOf d)) ∧ Below w.heap.size w w'
set_option maxRecDepth 100000 in
set_option maxHeartbeats 4000000 in
theorem dsum_any (F : Nat → Prop) (w : World) (hb : Nat) (s : S4) (a : Option Addr) (m c n : Nat) (l : List UInt8) (h : BytesAt F w (.slice a m c) l) (hl : l.length < 32) (hk : HashAt w hb s (.slice a m c) n) (hn : n ≤ 140737488351232) (hok : s.ok) :
    Calls Try.prog 86 #[.pointer (some ⟨hb, 0, none⟩)] w (SumD w (outS (absorb s (padOf l n)))) := by
  obtain ⟨i0, hi, hz0, hz1, hz2⟩ := info_parts infoU8
  have HOK := Lib.hid hok
  clear hok
  obtain ⟨sa, sb, sc, sd⟩ := s
  obtain ⟨DD, hDD⟩ : ∃ D, D = padOf l n := ⟨_, rfl⟩
  rw [← hDD]
  obtain ⟨Wz, hWz⟩ : ∃ W : World, W = w.alloc (.cells #[.int .u8 0, .int .u8 0, .int .u8 0, .int .u8 0, .int .u8 0, .int .u8 0, .int .u8 0, .int .u8 0, .int .u8 0, .int .u8 0, .int .u8 0, .int .u8 0, .int .u8 0, .int .u8 0, .int .u8 0, .int .u8 0, .int .u8 0, .int .u8 0, .int .u8 0, .int .u8 0, .int .u8 0, .int .u8 0, .int .u8 0, .int .u8 0, .int .u8 0, .int .u8 0, .int .u8 0, .int .u8 0, .int .u8 0, .int .u8 0, .int .u8 0, .int .u8 0] 37) := ⟨_, rfl⟩
  have hbz : Below w.heap.size w Wz := by rw [hWz]; exact Bel.alloc (Bel.refl w) _
  have hkz : HashAt Wz hb ⟨sa, sb, sc, sd⟩ (.slice a m c) n := hk.same (hbz.block _ hk.lt)
  have hBz := BytesAt.below h hbz
  have q4 := hkz.cells.2.2.2.2.1
  have hle : (([] : List UInt8).length + l.length) * 1 ≤ 140737488355328 := by simp; omega
  have hbase : w.heap.size + 1 ≤ Wz.heap.size := by rw [hWz]; simp
  have HD := Lib.hid hDD
  have HB := Lib.hid hBz
  have HLE := Lib.hid hle
  have HK := Lib.hid hk
  have HBZ := Lib.hid hbz
  have HL := Lib.hid hl
  have HWz := Lib.hid hWz
  rw [hWz] at q4 HB hbase
  clear h hl hk hDD hbz hkz hBz hle hWz
  go_enter Try.func86, Try.ntmps86
  go_wp2_with (at_builtin; refine wpList_append_at rfl (.const (.slice none 0 0)) (.tmp 11) 25 rfl (w.heap.size + 1) 5 i0 (.int .u8 0) 1 1 underlying25 hi hz0 hz1 hz2 rfl (by decide) (by decide) byteR.one (.slice none 0 0) [] rfl (OwnAt.nil _ _ _ _ _) _ l F rfl HB.out HLE.out hbase ?next)
  case next =>
  intro v2 w2 ho hg hm
  rw [← HWz.out] at hg
  have hb2 : Below w.heap.size w w2 := HBZ.out.grown hg HBZ.out.size (fun k hk => by cases hk)
  obtain ⟨a2, c2, rfl, h2, h3, -⟩ := ho.len
  have hk2 : HashAt w2 hb ⟨sa, sb, sc, sd⟩ (.slice a m c) n := HK.out.same (hb2.block _ HK.out.lt)
  have hr2 : w2.heap[w.heap.size]? = some (.cells (cellsOf (List.replicate 32 0)) 37 (0, 0)) := by
    rw [hg.block _ (by rw [HWz.out]; simp) (fun e => by cases e), HWz.out]; exact heap_alloc_new w _
  have hst : SumSt w w2 hb ⟨sa, sb, sc, sd⟩ (.slice a m c) n := ⟨hb2, hr2, hk2, HK.out.lt⟩
  obtain ⟨k2, hk2'⟩ : ∃ k, k = l.length := ⟨_, rfl⟩
  have hk2l : k2 < 32 := by have := HL.out; omega
  have hown2 := (OwnAt.own ho)
  have HST := Lib.hid hst
  have HO := Lib.hid ho
  have hsrc : BytesAt (fun _ => True) (w2.alloc (.cells #[.int .u8 128] 5)) (.slice (some ⟨w2.heap.size, 0, none⟩) 1 1) [128] := by
    have := (OwnAt.lit' w2 5 128).at (F := fun _ => True) (fun _ _ _ _ => trivial) (by decide)
    exact this
  have hle2 : (l.length + ([128] : List UInt8).length) * 1 ≤ 140737488355328 := by simp; omega
  have hbase2 : w.heap.size + 1 ≤ (w2.alloc (.cells #[.int .u8 128] 5)).heap.size := by simp; have := hst.lt; omega
  have HO' := Lib.hid (ho.carry (w' := w2.alloc (.cells #[.int .u8 128] 5)) (fun g _ _ hlt => Below.heap_alloc _ _ _ hlt))
  have HS2 := Lib.hid hsrc
  have HL2 := Lib.hid hle2
  rw [← hk2'] at HO HO' ⊢
  have HK2 := Lib.hid hk2'
  have hc2n : k2 ≤ c2 := by omega
  clear hb2 hk2 hr2 hst hk2' ho hsrc hle2 q4 hg hm h2 hbase hown2
  go_wp2_with (at_builtin; refine wpList_append_at rfl (.tmp 13) (.tmp 14) 25 rfl (w.heap.size + 1) 5 i0 (.int .u8 0) 1 1 underlying25 hi hz0 hz1 hz2 rfl (by decide) (by decide) byteR.one (.slice a2 k2 c2) l rfl HO'.out _ [128] (fun _ => True) rfl HS2.out HL2.out hbase2 ?next)
  case next =>
  intro v3 w3 ho hg hm
  have hown3 := (HO'.out).own
  have hst3 : SumSt w w3 hb ⟨sa, sb, sc, sd⟩ (.slice a m c) n := (HST.out.chg (Chg.alloc (Chg.refl _ _) _)).grown hg (fun g hg' => by have := (hown3 g hg').1; omega)
  obtain ⟨a3, c3, rfl, h2, h3, -⟩ := ho.len
  have HI : Hid (SumSt w w3 hb ⟨sa, sb, sc, sd⟩ (.slice a m c) n ∧ OwnAt w3 (w.heap.size + 1) 5 1 byteR (.slice a3 (k2 + 1) c3) (l ++ [128] ++ List.replicate 0 0)) := by
    have e : (l ++ [128]).length = k2 + 1 := by rw [List.length_append, ← HK2.out]; rfl
    rw [e] at ho
    exact ⟨hst3, by simpa using ho⟩
  have hl128 : (l ++ [(128 : UInt8)]).length = k2 + 1 := by rw [List.length_append, ← HK2.out]; rfl
  rw [hl128]
  clear hl128 hst3 ho hg hm hown3 HST HO HO' HS2 HL2 hbase2 h2 h3
  obtain ⟨z, hz⟩ : ∃ z, z = zeros l.length := ⟨_, rfl⟩
  have hzz : (k2 + 1 + z) % 32 = 24 ∧ z < 32 ∧ ∀ j, j < z → (k2 + 1 + j) % 32 ≠ 24 := by
    rw [← HK2.out] at hz
    unfold zeros at hz
    exact ⟨by omega, by omega, fun j hj => by omega⟩
  have HZ := Lib.hid hz
  have HZZ := Lib.hid hzz
  have hz32 := hzz.2.1
  clear hz hzz
  go_wp2_with fail
  go_loopw [3] (fun v wr => ∃ (j k : Nat) (ax : Option Addr) (c' : Nat), v = .slice ax k c' ∧ k = k2 + 1 + j ∧ j ≤ z ∧ Hid (SumSt w wr hb ⟨sa, sb, sc, sd⟩ (.slice a m c) n ∧ OwnAt wr (w.heap.size + 1) 5 1 byteR (.slice ax k c') (l ++ [128] ++ List.replicate j 0))) (fun v _ => match v with | .slice _ k _ => 64 - k | _ => 0)
  case atStart => exact ⟨0, k2 + 1, a3, c3, rfl, rfl, by omega, HI⟩
  case round =>
    obtain ⟨j, k, ax, c', rfl, hkj, hj, HS⟩ := hrel
    obtain ⟨h1, h2⟩ := HS.out
    have hk64 : k ≤ 64 := by omega
    obtain ⟨_, cx, ex, hkc, hcm, -⟩ := h2.len
    simp only [Value.slice.injEq] at ex
    obtain ⟨rfl, -, rfl⟩ := ex
    have hklen : (l ++ [(128 : UInt8)] ++ List.replicate j 0).length = k := by rw [List.length_append, List.length_append, List.length_replicate, ← HK2.out, hkj]; rfl
    by_cases hjz : j < z
    · have hne : k % 32 ≠ 24 := by rw [hkj]; exact HZZ.out.2.2 j hjz
      have ht : (((k : Nat) : Int) % 32 == 24) = false := by simp; omega
      have ht2 : (((k : Nat) : Int) % 32 != 24) = true := by simp; omega
      obtain ⟨LJ, hLJ⟩ : ∃ LJ, LJ = l ++ [(128 : UInt8)] ++ List.replicate j 0 := ⟨_, rfl⟩
      rw [← hLJ] at hklen h2
      have hsrc : BytesAt (fun _ => True) (wr.alloc (.cells #[.int .u8 0] 5)) (.slice (some ⟨wr.heap.size, 0, none⟩) 1 1) [0] := by
        have := (OwnAt.lit' wr 5 0).at (F := fun _ => True) (fun _ _ _ _ => trivial) (by decide)
        exact this
      have hbase2 : w.heap.size + 1 ≤ (wr.alloc (.cells #[.int .u8 0] 5)).heap.size := by simp; have := h1.lt; omega
      have hle : (LJ.length + ([0] : List UInt8).length) * 1 ≤ 140737488355328 := by rw [hklen]; simp; omega
      have HO := Lib.hid (h2.carry (w' := wr.alloc (.cells #[.int .u8 0] 5)) (fun g _ _ hlt => Below.heap_alloc _ _ _ hlt))
      have HS2 := Lib.hid hsrc
      have HLE := Lib.hid hle
      have HKL := Lib.hid hklen
      have HKJ := Lib.hid hkj
      have H1 := Lib.hid h1
      have HLJ := Lib.hid hLJ
      clear h1 h2 hsrc hle hklen hne hkj HS hcm hLJ
      go_wp2_with (at_builtin; refine wpList_append_at rfl (.tmp 20) (.tmp 21) 25 rfl (w.heap.size + 1) 5 i0 (.int .u8 0) 1 1 underlying25 hi hz0 hz1 hz2 rfl (by decide) (by decide) byteR.one (.slice ax k c') LJ rfl HO.out _ [0] (fun _ => True) rfl HS2.out HLE.out hbase2 ?next)
      case next =>
      intro v4 w4 ho hg hm
      have hown4 := (HO.out).own
      have hst4 : SumSt w w4 hb ⟨sa, sb, sc, sd⟩ (.slice a m c) n := (H1.out.chg (Chg.alloc (Chg.refl _ _) _)).grown hg (fun g hg' => by have := (hown4 g hg').1; omega)
      obtain ⟨a4, c4, rfl, -, -, -⟩ := ho.len
      have e : (LJ ++ [0]).length = k + 1 := by rw [List.length_append, HKL.out]; rfl
      have e2 : LJ ++ [0] = l ++ [128] ++ List.replicate (j + 1) 0 := by rw [HLJ.out, List.replicate_succ', ← List.append_assoc]
      rw [e] at ho ⊢
      rw [e2] at ho
      have HN4 := Lib.hid (And.intro hst4 ho)
      clear e e2 hst4 ho hg hm hown4
      go_wp2_with fail
      go_roundw
      case rel => exact ⟨j + 1, k + 1, a4, c4, rfl, by have := HKJ.out; omega, by omega, HN4⟩
      case measure => have := HKJ.out; simp; omega
    · obtain rfl : j = z := by omega
      have he : k % 32 = 24 := by rw [hkj]; exact HZZ.out.1
      have ht : (((k : Nat) : Int) % 32 == 24) = true := by simp; omega
      have ht2 : (((k : Nat) : Int) % 32 != 24) = false := by simp; omega
      obtain ⟨LJ, hLJ⟩ : ∃ LJ, LJ = l ++ [(128 : UInt8)] ++ List.replicate j 0 := ⟨_, rfl⟩
      rw [← hLJ] at hklen h2
      obtain ⟨g, rfl⟩ : ∃ g, ax = some ⟨g, 0, none⟩ := by
        obtain ⟨g, cap, cur, e, -⟩ := h2.form (by omega)
        simp only [Value.slice.injEq] at e
        exact ⟨g, e.1⟩
      have hDD : LJ ++ beBytes 8 n = DD := by rw [HD.out, hLJ, HZ.out]; rfl
      have hbase2 : w.heap.size + 1 ≤ wr.heap.size := h1.lt
      have hgb := (OwnAt.own h2 g rfl)
      have H1 := Lib.hid h1
      have HO := Lib.hid h2
      have HKL := Lib.hid hklen
      have HDD := Lib.hid hDD
      have HE := Lib.hid he
      have hle : (LJ.length + 8) * 1 ≤ 140737488355328 := by rw [hklen]; omega
      have HLE := Lib.hid hle
      clear h1 h2 hklen hDD hLJ he HS hkj hcm hle hjz hj
      go_wp2_with (refine wpList_append_zeros rfl (.tmp 23) (.const (.int .i64 8)) 25 3 rfl (w.heap.size + 1) 5 i0 underlying25 Try.underlying3 hi hz0 hz1 hz2 g k c' LJ rfl HO.out 8 rfl HLE.out (by decide) hbase2 ?next)
      case next =>
      intro v5 w5 ho hg hm
      have hst5 : SumSt w w5 hb ⟨sa, sb, sc, sd⟩ (.slice a m c) n := H1.out.grown hg (fun g' hg' => by simp only [Option.some.injEq] at hg'; omega)
      obtain ⟨g5, c5, cur, rfl, hbg5, hg5, hc5, hm5, hs5, ht5⟩ := ho.form (by simp)
      have e8 : (LJ ++ [(0 : UInt8), 0, 0, 0, 0, 0, 0, 0]).length = k + 8 := by rw [List.length_append, HKL.out]; rfl
      rw [e8] at hc5 ht5 ⊢
      have hq5 := hst5.hash.cells.2.2.2.2.2
      have hg5' := Lib.hid hg5
      have HT5 := Lib.hid ht5
      have HST5 := Lib.hid hst5
      have HS5 := Lib.hid hs5
      have HM5 := Lib.hid hm5
      clear ho hg hm ht5 hst5 e8 hg5 hs5 HO H1 hm5
      go_wp2_with fail
      obtain ⟨K8, hK8⟩ : ∃ K8, K8 = k + 8 := ⟨_, rfl⟩
      rw [← hK8] at hc5 HT5 ⊢
      have hw8 : IntKind.i64.wrap ((K8 : Int) - 8) = (k : Int) := by rw [IntWalk.i64_in _ (by omega)]; omega
      have hwn : IntKind.u64.wrap (n : Int) = (n : Int) := IntWalk.u64_in _ (by omega)
      have hk0 : (0 : Int) ≤ (k : Int) := by omega
      have hkc5 : (k : Int) ≤ (c5 : Int) := by omega
      have hkk8 : (k : Int) ≤ (K8 : Int) := by omega
      have hck : ¬ (c5 = k) := by omega
      have h8k : K8 - k = 8 := by omega
      have HK8 := Lib.hid hK8
      clear hK8
      have hne5 : hb ≠ g5 := by have := HST5.out.old; omega
      have HNE := Lib.hid hne5
      go_region_held3 (fun w' => w'.cell? ⟨hb, 5, none⟩ = some (.int .i64 n)) (first | go_keep | exact (hc6.cell (p := ⟨hb, 5, none⟩) (by exact HST5.out.hash.lt) (by exact HNE.out)).trans hq5)
        (first
          | (go_at_call 101; refine (lay_any w5.drew g5 k 8 (c5 - k) cur _ hg5'.out (by have := HS5.out; omega) (Nat.le_refl _) (by omega) n (by omega)).mono ?_; rintro e w6 ⟨rfl, hg6, hc6⟩))
      have ho6 : OwnAt w6 (w.heap.size + 1) 5 1 byteR (.slice (some ⟨g5, 0, none⟩) K8 c5) DD := by
        have hDl : DD.length = K8 := by rw [← HDD.out, List.length_append, HKL.out, beBytes_length, HK8.out]
        have hlt := layAt_take cur (LJ ++ [(0 : UInt8), 0, 0, 0, 0, 0, 0, 0]) (beBytes 8 n) k (by rw [List.length_append, HKL.out, beBytes_length]; rfl) (by rw [List.length_append, HKL.out, HS5.out]; simp; have := HK8.out; omega) (by
          have e : (LJ ++ [(0 : UInt8), 0, 0, 0, 0, 0, 0, 0]).length = K8 := by rw [List.length_append, HKL.out, HK8.out]; rfl
          rw [e]; exact HT5.out)
        have e1 : (LJ ++ [(0 : UInt8), 0, 0, 0, 0, 0, 0, 0]).length = DD.length := by rw [hDl, List.length_append, HKL.out, HK8.out]; rfl
        have e2 : (LJ ++ [(0 : UInt8), 0, 0, 0, 0, 0, 0, 0]).take k = LJ := by rw [List.take_append_of_le_length (by rw [HKL.out]; exact Nat.le_refl _), List.take_of_length_le (by rw [HKL.out]; exact Nat.le_refl _)]
        rw [e1, e2, HDD.out, beBytes_length] at hlt
        rw [← hDl]
        exact OwnAt.ofForm hbg5 hg6 (by rw [hDl]; exact hc5) HM5.out (by rw [layAt_size _ _ _ _ (by rw [beBytes_length]; exact Nat.le_refl _) (by rw [HS5.out]; omega)]; exact HS5.out) hlt
      have hst6 : SumSt w w6 hb ⟨sa, sb, sc, sd⟩ (.slice a m c) n := HST5.out.chg ((Chg.drew (Chg.refl _ w5)).trans hc6 (fun i _ e => by have : i = g5 := e; omega))
      have hat6 := ho6.at (F := fun b => b < w6.heap.size) (fun _ _ _ h => h) (by decide)
      obtain ⟨p0, p1, p2, p3, -, -⟩ := hst6.hash.cells
      simp only at p0 p1 p2 p3
      have hDm : DD.length % 32 = 0 := by rw [HD.out]; exact padOf_length _ _
      have HST6 := Lib.hid hst6
      have HAT6 := Lib.hid hat6
      have HDM := Lib.hid hDm
      have hsz6 := hst6.lt
      clear ho6 hst6 hat6 hg6 hc6 hq5 hw8 hwn hDm
      go_wp2_with fail
      obtain ⟨S, hS⟩ : ∃ S, S = w6.heap.size := ⟨_, rfl⟩
      obtain ⟨W7, hW7⟩ : ∃ v, v = w6.alloc (.cells #[.int .u64 sa, .int .u64 sb, .int .u64 sc, .int .u64 sd] 121) := ⟨_, rfl⟩
      rw [← hW7, ← hS]
      have HI7 : Hid (SumSt w W7 hb ⟨sa, sb, sc, sd⟩ (.slice a m c) n ∧ St4 W7 S 121 ⟨sa, sb, sc, sd⟩ ∧ BytesAt (fun b => b < S) W7 (.slice (some ⟨g5, 0, none⟩) K8 c5) DD ∧ absorb ⟨sa, sb, sc, sd⟩ DD = absorb ⟨sa, sb, sc, sd⟩ DD ∧ DD.length % 32 = 0 ∧ (⟨sa, sb, sc, sd⟩ : S4).ok ∧ w.heap.size < S) := by
        rw [hW7, hS]
        exact ⟨HST6.out.chg (Chg.alloc (Chg.refl _ _) _), St4.new w6 _ ⟨sa, sb, sc, sd⟩ rfl, BytesAt.below HAT6.out (Bel.alloc (Bel.refl w6) _), rfl, HDM.out, HOK.out, hsz6⟩
      clear hW7 hS p0 p1 p2 p3 HST6 HAT6 hsz6
      go_loopg [3] K8 (fun gk v wr => ∃ (X : S4) (lr : List UInt8) (ax : Option Addr) (cx : Nat), v = .slice ax gk cx ∧ Hid (SumSt w wr hb ⟨sa, sb, sc, sd⟩ (.slice a m c) n ∧ St4 wr S 121 X ∧ BytesAt (fun b => b < S) wr (.slice ax gk cx) lr ∧ absorb X lr = absorb ⟨sa, sb, sc, sd⟩ DD ∧ lr.length % 32 = 0 ∧ X.ok ∧ w.heap.size < S))
      case atStart => exact ⟨_, DD, _, _, rfl, HI7⟩
      case round =>
        obtain ⟨X, lr, ax, cx, rfl, HS⟩ := hrel
        obtain ⟨j1, j2, j3, j4, j5, j6, j7⟩ := HS.out
        obtain ⟨n1, n2, n3⟩ := BytesAt.n j3
        unfold maxLen at n3
        have hSlt := j2.lt
        by_cases h0 : 0 < gk
        · have h32 : 32 ≤ gk := by omega
          rcases SliceAt.split j3 with ⟨_, h00⟩ | ⟨ab, ao, rfl, -, -, hFb⟩
          · omega
          have hcut := BytesAt.upto j3 32 h32
          obtain ⟨Y, hY⟩ : ∃ Y, Y = mixedS X (wordsOf lr) := ⟨_, rfl⟩
          have hcall : Calls Try.prog 100 #[.agg X.cells, .slice (some ⟨ab, ao, none⟩) 32 cx] wr.drew (MixD wr.drew Y) := by
            rw [hY, ← wordsOf_take]
            exact mixed_any _ wr.drew X _ 32 cx (lr.take 32) hcut.drew'' (Nat.le_refl _)
          have habs : absorb Y (lr.drop 32) = absorb ⟨sa, sb, sc, sd⟩ DD := by rw [hY, ← absorb_step X lr (by omega)]; exact j4
          have hYok : Y.ok := by rw [hY]; exact mixedS_ok _ _
          obtain ⟨a3, ha3, hsince⟩ : ∃ a3, (if cx = 32 then some ⟨ab, ao, none⟩ else some ⟨ab, ao + 32, none⟩ : Option Addr) = a3 ∧ BytesAt (fun b => b < S) wr (.slice a3 (gk - 32) (cx - 32)) (lr.drop 32) :=
            ⟨_, rfl, BytesAt.since j3 32 h32 (by simp [Addr.add])⟩
          have hlen : (lr.drop 32).length % 32 = 0 := by rw [List.length_drop]; omega
          obtain ⟨xa, xb, xc, xd⟩ := X
          obtain ⟨ya, yb, yc, yd⟩ := Y
          simp only [S4.cells] at hcall
          have r0 := j2.cell 0 (by omega)
          have r1 := j2.cell 1 (by omega)
          have r2 := j2.cell 2 (by omega)
          have r3 := j2.cell 3 (by omega)
          simp only [S4.get] at r0 r1 r2 r3
          have HCA := Lib.hid hcall
          have HAB := Lib.hid habs
          have HSI := Lib.hid hsince
          have HLN := Lib.hid hlen
          have HYO := Lib.hid hYok
          have HA3 := Lib.hid ha3
          have J1 := Lib.hid j1
          have J2 := Lib.hid j2
          have J7 := Lib.hid j7
          have h32i : (32 : Int) ≤ (gk : Int) := by omega
          have h0i : (0 : Int) < (gk : Int) := by omega
          clear hcut hcall habs hsince hlen hYok ha3 j1 j2 j3 j4 j5 j6 j7 HS n1 hY hFb
          go_wp2_with fail
          go_region_with (go_at_call 100; refine HCA.out.mono ?_; rintro e w8 ⟨rfl, hb8⟩; simp only [S4.cells]; have hst8 : St4 w8 S _ _ := J2.out.below (hb8.block _ hSlt); have f0 := hst8.free 0; have f1 := hst8.free 1; have f2 := hst8.free 2; have f3 := hst8.free 3; have e0 := hst8.cell 0 (by omega); have e1 := hst8.cell 1 (by omega); have e2 := hst8.cell 2 (by omega); have e3 := hst8.cell 3 (by omega))
          all_goals
            have hbS : Hid (Below wr.drew.heap.size wr.drew w8) := hb8
            have HT8 := Lib.hid hst8
            obtain ⟨WE, hWE⟩ : ∃ v, v = (((w8.setCell ⟨S, 0, none⟩ (.int .u64 ya)).setCell ⟨S, 1, none⟩ (.int .u64 yb)).setCell ⟨S, 2, none⟩ (.int .u64 yc)).setCell ⟨S, 3, none⟩ (.int .u64 yd) := ⟨_, rfl⟩
            have HN2 : Hid (SumSt w WE hb ⟨sa, sb, sc, sd⟩ (.slice a m c) n ∧ St4 WE S 121 ⟨ya, yb, yc, yd⟩ ∧ BytesAt (fun b => b < S) WE (.slice a3 (gk - 32) (cx - 32)) (lr.drop 32) ∧ absorb ⟨ya, yb, yc, yd⟩ (lr.drop 32) = absorb ⟨sa, sb, sc, sd⟩ DD ∧ (lr.drop 32).length % 32 = 0 ∧ (⟨ya, yb, yc, yd⟩ : S4).ok ∧ w.heap.size < S) := by
              have hj7 := J7.out
              refine ⟨?_, ?_, ?_, HAB.out, HLN.out, HYO.out, J7.out⟩
              · rw [hWE]
                exact J1.out.chg ((((((Chg.drew (Chg.refl _ wr)).trans (Chg.ofBelow hbS.out (fun k => w.heap.size < k)) (fun _ _ x => x)).setCell (.inr hj7) _).setCell (.inr hj7) _).setCell (.inr hj7) _).setCell (.inr hj7) _)
              · rw [hWE]; exact (((HT8.out.set 0 (by omega) ya).set 1 (by omega) yb).set 2 (by omega) yc).set 3 (by omega) yd
              · refine BytesAt.carry HSI.out (fun _ _ x => x) (fun b hb' hl => ?_)
                have hne : b ≠ S := Nat.ne_of_lt hb'
                rw [hWE, Below.heap_setCell _ _ _ _ hne, Below.heap_setCell _ _ _ _ hne, Below.heap_setCell _ _ _ _ hne, Below.heap_setCell _ _ _ _ hne]
                exact hbS.out.block b hl
            have HWE := Lib.hid hWE
            clear hWE hbS hb8 hst8
            by_cases hc32 : cx = 32
            · have hA := HA3.out
              rw [if_pos hc32] at hA
              subst hA
              subst hc32
              obtain rfl : gk = 32 := by omega
              simp only [Nat.sub_self] at HWE HN2
              go_wp2_with fail
              rw [← HWE.out]
              go_roundg 0
              case rel => exact ⟨_, _, _, _, rfl, HN2⟩
              case measure => omega
            · have hA := HA3.out
              rw [if_neg hc32] at hA
              subst hA
              go_wp2_with fail
              rw [← HWE.out]
              go_roundg (gk - 32)
              case rel => exact ⟨_, _, _, _, rfl, HN2⟩
              case measure => omega
        · obtain rfl : gk = 0 := by omega
          obtain rfl : lr = [] := List.eq_nil_of_length_eq_zero n1.symm
          rw [absorb_done X [] (by simp)] at j4
          obtain ⟨xa, xb, xc, xd⟩ := X
          have r0 := j2.cell 0 (by omega)
          have r1 := j2.cell 1 (by omega)
          have r2 := j2.cell 2 (by omega)
          have r3 := j2.cell 3 (by omega)
          simp only [S4.get] at r0 r1 r2 r3
          have J1 := Lib.hid j1
          have J2 := Lib.hid j2
          have J4 := Lib.hid j4
          have J6 := Lib.hid j6
          have J7 := Lib.hid j7
          clear j1 j2 j3 j4 j5 j6 j7 HS n1 h0
          go_wp2_with fail
          obtain ⟨L, hL⟩ : ∃ L, L = outS ⟨xa, xb, xc, xd⟩ := ⟨_, rfl⟩
          have hLl : L.length = 32 := by rw [hL]; exact outS_length _
          obtain ⟨D, hD⟩ : ∃ D, D = wr.heap.size := ⟨_, rfl⟩
          obtain ⟨W9, hW9⟩ : ∃ v, v = wr.alloc (.cells #[.int .u8 0, .int .u8 0, .int .u8 0, .int .u8 0, .int .u8 0, .int .u8 0, .int .u8 0, .int .u8 0, .int .u8 0, .int .u8 0, .int .u8 0, .int .u8 0, .int .u8 0, .int .u8 0, .int .u8 0, .int .u8 0, .int .u8 0, .int .u8 0, .int .u8 0, .int .u8 0, .int .u8 0, .int .u8 0, .int .u8 0, .int .u8 0, .int .u8 0, .int .u8 0, .int .u8 0, .int .u8 0, .int .u8 0, .int .u8 0, .int .u8 0, .int .u8 0] 37) := ⟨_, rfl⟩
          rw [← hW9, ← hD]
          have HI9 : Hid (SumSt w W9 hb ⟨sa, sb, sc, sd⟩ (.slice a m c) n ∧ W9.heap[D]? = some (.cells (cellsOf (filling L 0)) 37 (0, 0)) ∧ w.heap.size < D) := by
            rw [hW9, hD, filling_zero, hLl]
            exact ⟨J1.out.chg (Chg.alloc (Chg.refl _ _) _), heap_alloc_new wr _, J1.out.lt⟩
          have hpc : ∀ k, k < 4 → (L.drop (8 * k)).take 8 = beBytes 8 (S4.get ⟨xa, xb, xc, xd⟩ k).toNat := fun k hk => by rw [hL]; exact outS_piece _ k hk
          have HL := Lib.hid hL
          have HLL := Lib.hid hLl
          have HPC := Lib.hid hpc
          clear hW9 hD hL hLl hpc r0 r1 r2 r3 J1 J2
          go_loopw [50] (fun i wr => ∃ k : Nat, k ≤ 4 ∧ i = .int .i64 k ∧ Hid (SumSt w wr hb ⟨sa, sb, sc, sd⟩ (.slice a m c) n ∧ wr.heap[D]? = some (.cells (cellsOf (filling L (8 * k))) 37 (0, 0)) ∧ w.heap.size < D)) (fun i _ => 4 - (intOf i).toNat)
          case atStart => exact ⟨0, by omega, rfl, HI9⟩
          case round =>
            obtain ⟨k, hk, rfl, HS⟩ := hrel
            by_cases hlt : k < 4
            · obtain ⟨g1, g2, g3⟩ := HS.out
              obtain ⟨xk, hxk⟩ : ∃ xk : Nat, (S4.get ⟨xa, xb, xc, xd⟩ k) = (xk : Int) := ⟨(S4.get ⟨xa, xb, xc, xd⟩ k).toNat, by have := (J6.out k hlt).1; omega⟩
              have hxb : (xk : Int) < 18446744073709551616 := by rw [← hxk]; have := (J6.out k hlt).2; omega
              have hidx : ∀ w : World, (Instr.index 121 (.agg #[.int .u64 xa, .int .u64 xb, .int .u64 xc, .int .u64 xd]) (.int .i64 k)).run Try.prog w = .ok (.int .u64 (xk : Int)) w := fun w => by rw [← hxk]; exact idx4 xa xb xc xd k hlt w
              have hsl := sliceD D k hlt
              have hcells : layAt (cellsOf (filling L (8 * k))) (8 * k) (beBytes 8 xk) 8 = cellsOf (filling L (8 * (k + 1))) := by
                rw [layAt_filling L (beBytes 8 xk) (8 * k) 8 (beBytes_length _ _) (by rw [HLL.out]; omega) (by rw [HPC.out k hlt, hxk, Int.toNat_natCast])]
                congr 2
              have HCL := Lib.hid hcells
              have HXB := Lib.hid hxb
              have G1 := Lib.hid g1
              have G2 := Lib.hid g2
              have G3 := Lib.hid g3
              have hszD : (cellsOf (filling L (8 * k))).size = 32 := by rw [cellsOf_size, filling_length, HLL.out]
              have HSZ := Lib.hid hszD
              have hk0 : (0 : Int) ≤ (k : Int) := by omega
              have hk1 : (k : Int) < 4 := by omega
              clear hcells hxb g1 g2 g3 hxk HS hszD
              go_wp2_with fail
              refine (lay_any wr D (8 * k) 8 (32 - 8 * k) (cellsOf (filling L (8 * k))) _ G2.out (by rw [HSZ.out]; omega) (Nat.le_refl _) (by omega) xk HXB.out).mono ?_
              rintro e w10 ⟨rfl, hg10, hc10⟩
              rw [HCL.out] at hg10
              have HN3 : Hid (SumSt w w10 hb ⟨sa, sb, sc, sd⟩ (.slice a m c) n ∧ w10.heap[D]? = some (.cells (cellsOf (filling L (8 * (k + 1)))) 37 (0, 0)) ∧ w.heap.size < D) :=
                ⟨G1.out.chg (hc10.mono (fun i _ e => by have : i = D := e; have := G3.out; omega)), hg10, G3.out⟩
              clear hg10 hc10 hidx hsl
              go_wp2_with fail
              go_roundw
              case rel => exact ⟨k + 1, by omega, num_eq (by omega), HN3⟩
              case measure => simp [intOf]; omega
            · obtain rfl : k = 4 := by omega
              obtain ⟨g1, g2, g3⟩ := HS.out
              have hf := filling_all L
              rw [HLL.out] at hf
              rw [show 8 * 4 = 32 from rfl, hf] at g2
              have hLs : (cellsOf L).size = 32 := by rw [cellsOf_size, HLL.out]
              have G1 := Lib.hid g1
              have G2 := Lib.hid g2
              have HLS := Lib.hid hLs
              clear g1 g2 hf HS hLs
              have hres := G1.out.res
              have hone : (cellsOf L).all (fun u => u.oneCell') = true := by
                apply Array.all_eq_true_iff_forall_mem.2
                intro u hu
                simp only [cellsOf, List.mem_toArray, List.mem_map] at hu
                obtain ⟨x, -, rfl⟩ := hu
                rfl
              have HRES := Lib.hid hres
              have HONE := Lib.hid hone
              clear hres hone
              go_wp2_with (first
                | (refine wpList_load_row rfl 37 (.tmp 5) rfl D rfl 37 (cellsOf L) (0, 0) (.array 32 5) G2.out underlyingDig rfl (by rw [HLS.out]; kernel_rfl) ?_)
                | (refine wpList_store_row rfl 37 (.tmp 2) (.tmp 63) rfl w.heap.size (cellsOf L) rfl rfl 37 (cellsOf (List.replicate 32 0)) HRES.out (by rw [HLS.out]; kernel_rfl) (by rw [HLS.out]; rfl) HONE.out ?_))
              have hr2 : (wr.setRow w.heap.size (cellsOf L)).heap[w.heap.size]? = some (.cells (cellsOf L) 37 (0, 0)) := setRow_heap wr _ _ _ _ _ HRES.out
              refine bodyPost_ret (v := .agg (cellsOf L)) (results_cell_row rfl _ _ w.heap.size 37 (cellsOf L) (0, 0) (.array 32 5) rfl hr2 underlyingDig rfl (by rw [HLS.out]; kernel_rfl)) rfl ?_
              refine ⟨?_, below_setRow G1.out.bel (Nat.le_refl _) _⟩
              rw [HL.out, J4.out]
end Go.Proofs.Ytndkkgkcbbmnpaa
namespace Go.Pg
open Go.RowKit
theorem kay_range (r : Nat) : 0 ≤ kay r ∧ kay r ≤ 18446744073709551615 := by unfold kay; omega
theorem begunS_ok : begunS.ok := fun k hk => by rw [begunS_get k hk]; exact kay_range k
theorem absorb_ok (n : Nat) : ∀ (s : S4) (l : List UInt8), l.length ≤ n → s.ok → (absorb s l).ok := by
  induction n with
  | zero => intro s l hl hs; rw [absorb_done s l (by omega)]; exact hs
  | succ n ih =>
    intro s l hl hs
    by_cases h : 32 ≤ l.length
    · rw [absorb_step s l h]
      have hm : (mixedS s (wordsOf l)).ok := by
        intro k hk; unfold mixedS; rw [S4.xor_get _ _ k hk]; exact bits_u64_range _ _ _
      exact ih _ _ (by rw [List.length_drop]; omega) hm
    · rw [absorb_done s l (by omega)]; exact hs
theorem digestOf_rest (bs : List UInt8) : outS (absorb (absorb begunS bs) (padOf (restOf bs) bs.length)) = digestOf bs := by
  unfold digestOf; rw [← absorb_rest]
end Go.Pg
namespace Go.Proofs.Ytndkkgkcbbmnpaa
open Go.RowKit Go.Pg

/-- a digest is told -/
def DigD (w : World) (d : List UInt8) (e : Ending) (w' : World) : Prop := e = .returned (.agg (cellsOf d)) ∧ Below w.heap.size w w'
theorem cellsOf_one (l : List UInt8) : (cellsOf l).all (fun u => u.oneCell') = true := by
  apply Array.all_eq_true_iff_forall_mem.2
  intro u hu
  simp only [cellsOf, List.mem_toArray, List.mem_map] at hu
  obtain ⟨x, -, rfl⟩ := hu
  rfl
theorem infoDig : (Try.prog.info? 37).map (·.size) = some 32 := by kernel_rfl
set_option maxRecDepth 100000 in
set_option maxHeartbeats 1000000 in
theorem dof_any (F : Nat → Prop) (w : World) (a : Option Addr) (n c : Nat) (bs : List UInt8) (h : BytesAt F w (.slice a n c) bs) (hn : n ≤ 140737488351232) :
    Calls Try.prog 61 #[.slice a n c] w (DigD w (digestOf bs)) := by
  have hnl := (BytesAt.n h).1
  obtain ⟨R, hR⟩ : ∃ R, R = digestOf bs := ⟨_, rfl⟩
  have hRl : (cellsOf R).size = 32 := by rw [cellsOf_size, hR, digestOf_length]
  rw [← hR]
  have HR := Lib.hid hR
  have HNL := Lib.hid hnl
  have H := Lib.hid h
  have HRL := Lib.hid hRl
  clear h hR hnl hRl
  go_enter Try.func61, Try.ntmps61
  go_wp2_with fail
  obtain ⟨Wz, hWz⟩ : ∃ W : World, W = w.alloc (.cells #[.int .u8 0, .int .u8 0, .int .u8 0, .int .u8 0, .int .u8 0, .int .u8 0, .int .u8 0, .int .u8 0, .int .u8 0, .int .u8 0, .int .u8 0, .int .u8 0, .int .u8 0, .int .u8 0, .int .u8 0, .int .u8 0, .int .u8 0, .int .u8 0, .int .u8 0, .int .u8 0, .int .u8 0, .int .u8 0, .int .u8 0, .int .u8 0, .int .u8 0, .int .u8 0, .int .u8 0, .int .u8 0, .int .u8 0, .int .u8 0, .int .u8 0, .int .u8 0] 37) := ⟨_, rfl⟩
  rw [← hWz]
  have hbz : Below w.heap.size w Wz := by rw [hWz]; exact Bel.alloc (Bel.refl w) _
  have hrz : Wz.heap[w.heap.size]? = some (.cells (cellsOf (List.replicate 32 0)) 37 (0, 0)) := by rw [hWz]; exact heap_alloc_new w _
  have hlt := (Array.getElem?_eq_some_iff.1 hrz).1
  refine (dnew_any Wz).mono ?_
  rintro e w1 ⟨hb, rfl, hb0, hk1, hb1⟩
  have hB1 : BytesAt (fun b => b < w.heap.size) w1 (.slice a n c) bs := BytesAt.carry H.out (fun b hlt _ => hlt) (fun b _ hl => (hb1.block b (by omega)).trans (hbz.block b hl))
  have hr1 := (hb1.block _ hlt).trans hrz
  have HBZ := Lib.hid (Bel.call hbz hb1)
  have HB1 := Lib.hid hB1
  have HK1 := Lib.hid hk1
  have HR1 := Lib.hid hr1
  have hlt1 : w.heap.size < w1.heap.size := Nat.lt_of_lt_of_le hlt hb1.size
  clear hWz hbz hrz hk1 hb1 hB1 hr1
  go_wp2_with fail
  refine (dwrite_new (fun b => b < w.heap.size) w1 hb begunS a n c bs HB1.out (by omega) HK1.out hn).mono ?_
  rintro e w2 ⟨rfl, a2, m2, c2, hk2, hB2, hc2⟩
  have hbl2 : Below w.heap.size w w2 := HBZ.out.trans (hc2.toBelowAt (by omega) (fun k hk e => by omega))
  have hr2 := (hc2.block _ hlt1 (by omega)).trans HR1.out
  have hm2 := (BytesAt.n hB2).1
  have hlt2 := hc2.size
  have HBL2 := Lib.hid hbl2
  have HB2 := Lib.hid hB2
  have HK2 := Lib.hid hk2
  have HR2 := Lib.hid hr2
  clear hbl2 hB2 hk2 hr2 hc2 hm2
  go_wp2_with fail
  refine (dsum_any _ w2 hb (absorb begunS bs) a2 m2 c2 bs.length (restOf bs) HB2.out (restOf_lt bs) HK2.out (by have := HNL.out; omega) (absorb_ok _ _ _ (Nat.le_refl _) begunS_ok)).mono ?_
  rintro e w3 ⟨rfl, hb3⟩
  rw [digestOf_rest, ← HR.out]
  have hr3 := (hb3.block _ (by omega)).trans HR2.out
  have hb03 := HBL2.out.trans (hb3.mono HBL2.out.size)
  have HR3 := Lib.hid hr3
  have HB03 := Lib.hid hb03
  clear hr3 hb03 hb3
  go_wp2_with (refine wpList_store_row rfl 37 (.tmp 2) (.tmp 9) rfl w.heap.size (cellsOf R) rfl rfl 37 (cellsOf (List.replicate 32 0)) HR3.out (by rw [HRL.out]; exact infoDig) (by rw [HRL.out]; rfl) (cellsOf_one R) ?_)
  have hr4 : (w3.setRow w.heap.size (cellsOf R)).heap[w.heap.size]? = some (.cells (cellsOf R) 37 (0, 0)) := setRow_heap w3 _ _ _ _ _ HR3.out
  refine bodyPost_ret (v := .agg (cellsOf R)) (results_cell_row rfl _ _ w.heap.size 37 (cellsOf R) (0, 0) (.array 32 5) rfl hr4 underlyingDig rfl (by rw [HRL.out]; exact infoDig)) rfl ?_
  exact ⟨rfl, below_setRow HB03.out (Nat.le_refl _) _⟩
end Go.Proofs.Ytndkkgkcbbmnpaa
namespace Go.Pg
open Go.RowKit
theorem OwnList.weaken {α : Type} {A : (Nat → Prop) → World → List Value → α → Prop} {G G' : Nat → Prop} {n n' : Nat} {W : World} {e : TypeId} {sz : Nat} {v : Value} {l : List α} (h : OwnList A G n W e sz v l) (hG : ∀ b, G b → G' b) (hn : n' ≤ n) : OwnList A G' n' W e sz v l := by
  obtain ⟨F, h1, h2, h3⟩ := h
  exact ⟨F, fun b hb => ⟨hG b (h1 b hb).1, (h1 b hb).2⟩, h2, h3.lower hn⟩
end Go.Pg
namespace Go.Proofs.Ytndkkgkcbbmnpaa
open Go.RowKit Go.Pg
/-- texts that rise, in a slice of the call's own, or none -/
def ReaddO (F : Nat → Prop) (w : World) (x : It) (e : Ending) (w' : World) : Prop :=
  ∃ v, e = .returned (.tuple #[v, .bool (readOk x)]) ∧ (readOk x = true → OwnList rowR (fun b => F b ∧ b < w.heap.size) (w.heap.size + 1) w' 25 1 v (x.items.map It.bytes)) ∧ Below w.heap.size w w'

set_option maxRecDepth 100000 in
set_option maxHeartbeats 1000000 in
theorem readO_any (F : Nat → Prop) (w : World) (d : Nat) (x : It) (il : Bool) (a1 a2 : Option Addr) (n1 c1 n2 c2 : Nat) (h : ItemAt F w (d + 1) [.bool il, .slice a1 n1 c1, .slice a2 n2 c2] x) (hlen : x.items.length ≤ 1099511627776) :
    Calls Try.prog 48 #[.agg #[.bool il, .slice a1 n1 c1, .slice a2 n2 c2]] w (ReaddO F w x) := by
  obtain ⟨hil, a1', n1', c1', a2', n2', c2', e1, e2, -, hn⟩ := ItemAt.form h
  simp only [Value.slice.injEq] at e1 e2
  obtain ⟨rfl, rfl, rfl⟩ := e1
  obtain ⟨rfl, rfl, rfl⟩ := e2
  have hits := ItemAt.items h
  replace hits : ItemsAt (fun b => F b ∧ b < w.heap.size) w d (.slice a2 n2 c2) x.items := ItemsAt.carry hits (fun b hb hF => ⟨hF, hb⟩) (fun _ _ _ => rfl)
  obtain ⟨l, hl⟩ : ∃ l, l = x.items := ⟨_, rfl⟩
  rw [← hl] at hits hn hlen
  rw [← hn] at hlen
  obtain ⟨i0, hi, hz0, hz1, hz2⟩ := info_parts infoRow
  have HIL := Lib.hid hil
  have HL := Lib.hid hl
  have HN := Lib.hid hn
  have HITS := Lib.hid hits
  clear hil hl hn hits h
  go_enter Try.func48, Try.ntmps48
  go_wp2
  go_loopw [4, 10] (fun s i wr => ∃ k : Nat, k ≤ n2 ∧ i = .int .i64 k ∧ Hid (flat (l.take k) = true) ∧ Hid (OwnList rowR (fun b => F b ∧ b < w.heap.size) (w.heap.size + 1) wr 25 1 s ((l.take k).map It.bytes)) ∧
      Hid (Below w.heap.size w wr ∧ wr.heap[w.heap.size]? = some (.cells #[.bool il, .slice a1 n1 c1, .slice a2 n2 c2] 65 (0, 0)))) (fun _ i _ => n2 - (intOf i).toNat)
  case atStart => exact ⟨0, Nat.zero_le _, rfl, Lib.hid rfl, OwnList.nil, Bel.alloc (Bel.refl w) _, heap_alloc_new w _⟩
  case round =>
    obtain ⟨k, hk, rfl, HFL, HO, HB⟩ := hrel
    have hN := HN.out
    by_cases hlt : k < n2
    · rcases SliceAt.split HITS.out with ⟨_, h0⟩ | ⟨b, o, rfl, -, -, -⟩
      · omega
      have hwr := ItemsAt.below HITS.out HB.out.1
      obtain ⟨x1, y1, z1, x2, y2, z2, g0, g1, g2, git⟩ := ItemsAt.cell hwr k (by omega)
      have htk : (l.take (k + 1)).map It.bytes = (l.take k).map It.bytes ++ [(l[k]'(by omega)).bytes] := by
        rw [List.take_succ_eq_append_getElem (show k < l.length by omega), List.map_append]; rfl
      have hfl := flat_take_succ l k (by omega)
      have hno := flat_no l k (by omega)
      obtain ⟨y, hy⟩ : ∃ y, y = l[k]'(by omega) := ⟨_, rfl⟩
      rw [← hy] at g0 git htk hfl hno
      have HT := Lib.hid htk
      have hby := ItemAt.bytes git
      obtain ⟨q, hq⟩ : ∃ q, q = y.isList := ⟨_, rfl⟩
      rw [← hq] at g0 hfl hno
      obtain ⟨L, hL⟩ : ∃ L, L = (l.take k).map It.bytes := ⟨_, rfl⟩
      rw [← hL] at HO HT
      have hLl : L.length = k := by rw [hL]; simp; omega
      have HLL := Lib.hid hLl
      clear hwr hy htk hL hLl hN git hq
      cases q with
      | true =>
        have HNO := Lib.hid (hno rfl)
        clear hno hfl hby
        go_wp2_with fail
        go_ret2
        have hr : readOk x = false := by unfold readOk; rw [← HL.out, HNO.out]; rfl
        exact ⟨.slice none 0 0, by rw [hr]; rfl, (fun h => by rw [hr] at h; cases h), HB.out.1.alloc HB.out.1.size _⟩
      | false =>
        have HFL1 : Hid (flat (l.take (k + 1)) = true) := Lib.hid (by rw [hfl, HFL.out]; rfl)
        have hsw := (Array.getElem?_eq_some_iff.1 HB.out.2).1
        have howr := (HO.out).own
        have HB1 : Hid (Below w.heap.size w (wr.alloc (.cells #[.bool false, .slice x1 y1 z1, .slice x2 y2 z2] 65)) ∧ (wr.alloc (.cells #[.bool false, .slice x1 y1 z1, .slice x2 y2 z2] 65)).heap[w.heap.size]? = some (.cells #[.bool il, .slice a1 n1 c1, .slice (some ⟨b, o, none⟩) n2 c2] 65 (0, 0))) :=
          Lib.hid ⟨Bel.alloc HB.out.1 _, (Below.heap_alloc _ _ _ hsw).trans HB.out.2⟩
        have hO1 := (HO.out).call carriedRow (Bel.alloc (Bel.refl wr) (.cells #[.bool false, .slice x1 y1 z1, .slice x2 y2 z2] 65))
        have hrow : rowR (fun b => F b ∧ b < w.heap.size) (wr.alloc (.cells #[.bool false, .slice x1 y1 z1, .slice x2 y2 z2] 65)) [.slice x1 y1 z1] y.bytes := ⟨_, rfl, BytesAt.below hby (Bel.alloc (Bel.refl wr) _)⟩
        obtain ⟨R, hR1, hRo, hRs, hRn⟩ := hO1.push carriedRow hrow rfl (by decide) (fun b' _ hb' => ⟨hb', fun e => by have := (howr b' e).1; have := hb'.2; omega⟩) 25
        have hle : (L.length + [y.bytes].length) * 24 ≤ 140737488355328 := by rw [HLL.out]; simp; omega
        have hbase : w.heap.size + 1 ≤ ((wr.alloc (.cells #[.bool false, .slice x1 y1 z1, .slice x2 y2 z2] 65)).alloc (.cells [.slice x1 y1 z1].toArray 25)).heap.size := by simp; omega
        simp only [World.size_alloc] at hRs
        have HRN := Lib.hid hRn
        have HRO := Lib.hid hRo
        have HRS := Lib.hid hRs
        have HR1 := Lib.hid hR1
        clear hRn hO1 howr hRo hRs hR1 hrow hno hfl hby
        go_wp2_with (at_builtin; refine wpList_append_at rfl (.tmp 16) (.tmp 19) 22 rfl (w.heap.size + 1) 25 i0 (.slice none 0 0) 1 24 underlyingRows hi hz0 hz1 hz2 rfl (by decide) (by decide) HR1.out _ L rfl HRO.out _ [y.bytes] (fun _ => True) rfl HRS.out hle hbase ?_; intro v' w2 ho hg hm)
        have HOn := Lib.hid (HRN.out _ _ ho hg hm)
        have hown := (HRO.out).own
        have HB2 : Hid (Below w.heap.size w w2 ∧ w2.heap[w.heap.size]? = some (.cells #[.bool il, .slice a1 n1 c1, .slice (some ⟨b, o, none⟩) n2 c2] 65 (0, 0))) := by
          have hb1 := HB1.out.1
          have hbx := HB1.out.2
          have hlt' := (Array.getElem?_eq_some_iff.1 hbx).1
          refine ⟨(Bel.alloc hb1 _).grown hg (by simp; omega) (fun k hk => by have := (hown k hk).1; omega), ?_⟩
          rw [hg.block _ (by simp; omega) (fun e => by have := (hown _ e.symm).1; omega), Below.heap_alloc _ _ _ hlt']
          exact hbx
        clear ho hg hm hown
        go_roundw
        case rel => exact ⟨k + 1, by omega, num_eq (by omega), HFL1, by rw [HT.out]; exact HOn.out, HB2.out⟩
        case measure => simp [intOf]; omega
    · obtain rfl : k = n2 := by omega
      have hO := HO.out
      have hfl := HFL.out
      rw [List.take_of_length_le (by omega)] at hO hfl
      have hits := hO.at carriedRow (G' := fun b => F b ∧ b < w.heap.size ∨ w.heap.size + 1 ≤ b) (fun _ h _ => .inl h) (fun b h _ => .inr h) (by decide)
      obtain ⟨va, vc, hvv, -, -, -⟩ := SliceAt.len hits
      have hll : (l.map It.bytes).length ≤ 1152921504606846976 := by simp; omega
      obtain ⟨q0, q1, q2⟩ := cells3 HB.out.2
      have hsw := (Array.getElem?_eq_some_iff.1 HB.out.2).1
      have HFL' := Lib.hid hfl
      have HITS' := Lib.hid hits
      have HOO := Lib.hid hO
      clear hO hfl hits hN hvv
      cases il with
      | false =>
        go_wp2_with fail
        go_ret2
        have hr : readOk x = false := by unfold readOk; rw [← HIL.out]; simp
        exact ⟨_, by rw [hr]; rfl, (fun h => by rw [hr] at h; cases h), HB.out.1⟩
      | true =>
        go_wp2_with fail
        refine (rises_any _ wr _ _ HITS'.out hll).mono ?_
        rintro e w1 ⟨rfl, hb1⟩
        have hr : readOk x = rising (l.map It.bytes) := by unfold readOk; rw [← HIL.out, ← HL.out, HFL'.out]; rfl
        have HR := Lib.hid hr
        have HB1 := Lib.hid hb1
        clear hr hb1
        go_wp2_with fail
        go_ret2
        refine ⟨_, by rw [HR.out]; rfl, fun h => ?_, Bel.call HB.out.1 HB1.out⟩
        rw [← HL.out]
        exact HOO.out.call carriedRow HB1.out

/-- a witness, in slices of the call's own, or an empty one and a fault -/
def WDecdO (w : World) (r : List (List UInt8) × List (List UInt8) × Nat) (e : Ending) (w' : World) : Prop :=
  ∃ N0 a1 n1 c1 a2 n2 c2, e = .returned (.tuple #[.agg #[.slice a1 n1 c1, .slice a2 n2 c2], .int .i64 r.2.2]) ∧ w.heap.size < N0 ∧ OwnList rowR (fun b => w.heap.size ≤ b ∧ b < N0) N0 w' 25 1 (.slice a1 n1 c1) r.1 ∧
    OwnList rowR (fun b => w.heap.size ≤ b ∧ b < N0) N0 w' 25 1 (.slice a2 n2 c2) r.2.1 ∧ Below w.heap.size w w'
theorem WDecdO.bad {w W1 W : World} {o : Obj} (h1 : Below w.heap.size w W1) (hb : Box2 W1 W w.heap.size (.slice none 0 0) (.slice none 0 0) 24) :
    WDecdO w ([], [], 210) (.returned (.tuple #[.agg #[.slice none 0 0, .slice none 0 0], .int .i64 ((210 : Nat) : Int)])) (W.alloc o) :=
  ⟨w.heap.size + 1, none, 0, 0, none, 0, 0, rfl, Nat.lt_succ_self _, OwnList.nil, OwnList.nil, (h1.trans (hb.chg.toBelowAt h1.size (fun k hk e => by omega))).alloc (by rw [hb.size]; exact h1.size) _⟩

set_option maxRecDepth 100000 in
set_option maxHeartbeats 4000000 in
theorem wdecodeO_any (F0 : Nat → Prop) (w : World) (a : Option Addr) (n c : Nat) (bs : List UInt8) (h0 : BytesAt F0 w (.slice a n c) bs) (hn : n ≤ 140737488351232) :
    Calls Try.prog 16 #[.slice a n c] w (WDecdO w (witDecode bs)) := by
  have hnl : n = bs.length := by
    obtain ⟨a', c', hv, h1, -⟩ := h0
    simp only [Value.slice.injEq] at hv
    exact hv.2.1
  obtain ⟨e1, x, hr⟩ : ∃ e1 x, rdWhole bs = (e1, x) := ⟨(rdWhole bs).1, (rdWhole bs).2, rfl⟩
  have hcall := decode_any F0 (w.alloc (.cells #[.slice none 0 0, .slice none 0 0] 24)) a n c bs (BytesAt.below h0 (Bel.alloc (Bel.refl w) _)) (by omega)
  rw [hr] at hcall
  have HC := Lib.hid hcall
  have HR := Lib.hid hr
  have HNL := Lib.hid hnl
  clear h0 hnl hr hcall
  go_enter Try.func16, Try.ntmps16
  go_wp2_with fail
  refine HC.out.mono ?_
  rintro e5 w5 ⟨il, i1, y1, z1, i3, y3, z3, rfl, k1, k2⟩
  have hsz := k2.size
  simp only [World.size_alloc] at hsz
  have h0 : w.heap.size < w5.heap.size := by omega
  have hb5 := (k2.block w.heap.size (by simp)).trans (heap_alloc_new w _)
  have hbel := (Bel.alloc (Bel.refl w) (.cells #[.slice none 0 0, .slice none 0 0] 24)).trans (k2.mono (by simp))
  have HB5 := Lib.hid hb5
  have HBL := Lib.hid hbel
  obtain ⟨hil, a1', n1', c1', a2', n2', c2', e1', e2', -, hn3⟩ := ItemAt.form k1
  simp only [Value.slice.injEq] at e1' e2'
  obtain ⟨rfl, rfl, rfl⟩ := e1'
  obtain ⟨rfl, rfl, rfl⟩ := e2'
  obtain ⟨q0, q1⟩ := cells2 hb5
  have f0 := frozen_of_row w5 w.heap.size 0 _ _ hb5
  have f1 := frozen_of_row w5 w.heap.size 1 _ _ hb5
  have K1 := Lib.hid k1
  have HIL := Lib.hid hil
  have HN3 := Lib.hid hn3
  clear hb5 k1 k2 hsz hbel hil hn3
  by_cases hgood : e1 = 0 ∧ il = true ∧ y3 = 2
  · obtain ⟨rfl, rfl, rfl⟩ := hgood
    obtain ⟨hb, hfit⟩ := rdWhole_sound bs x HR.out
    have hbl : x.whole = n := by rw [← It.enc_length, ← hb]; exact HNL.out.symm
    obtain ⟨i0, i1x, hi⟩ : ∃ i0 i1x, x.items = [i0, i1x] := by
      have := HN3.out
      match x.items, this with
      | [i0, i1x], _ => exact ⟨i0, i1x, rfl⟩
    have hits := ItemAt.items K1.out
    rw [hi] at hits
    replace hits := ItemsAt.carry hits (F' := fun b => (w.alloc (.cells #[.slice none 0 0, .slice none 0 0] 24)).heap.size ≤ b ∧ b < w5.heap.size) (fun b hlt hb => ⟨hb, hlt⟩) (fun _ _ _ => rfl)
    have hl0 : i0.items.length ≤ 1099511627776 ∧ i1x.items.length ≤ 1099511627776 := by
      have h1 := fits_body hfit
      have h2 : x.body = It.wholes x.items + x.bytes.length := by rw [It.body_eq]; omega
      rw [hi] at h2
      simp only [It.wholes] at h2
      have h3 := It.body_le_whole i0
      have h4 := It.body_le_whole i1x
      have h5 := It.length_le_wholes i0.items
      have h6 := It.length_le_wholes i1x.items
      have h7 := It.body_eq i0
      have h8 := It.body_eq i1x
      omega
    have hwd := witDecode_pos bs x i0 i1x HR.out HIL.out.symm hi
    have HWD := Lib.hid hwd
    have HI := Lib.hid hi
    have HL0 := Lib.hid hl0
    rcases SliceAt.split hits with ⟨hh, _⟩ | ⟨b, o, rfl, -, -, hfb⟩
    · cases hh
    obtain ⟨A1, N1, C1, A2, N2, C2, g0, g1, g2, git⟩ := ItemsAt.cell hits 0 (by simp)
    obtain ⟨A3, N3, C3, A4, N4, C4, g3, g4, g5, git'⟩ := ItemsAt.cell hits 1 (by simp)
    simp only [Nat.zero_mul, Nat.one_mul, Nat.add_zero, List.getElem_cons_zero, List.getElem_cons_succ] at g0 g1 g2 g3 g4 g5 git git'
    have hblt := cell_lt g0
    have hbne : b ≠ w.heap.size := by
      have h9 : (w.alloc (.cells #[.slice none 0 0, .slice none 0 0] 24)).heap.size ≤ b := hfb.1
      simp only [World.size_alloc] at h9; omega
    obtain ⟨L0, hL0⟩ : ∃ L, L = i0.isList := ⟨_, rfl⟩
    obtain ⟨L1, hL1⟩ : ∃ L, L = i1x.isList := ⟨_, rfl⟩
    rw [← hL0] at g0 git
    rw [← hL1] at g3 git'
    have GIT := Lib.hid git
    have GIT' := Lib.hid git'
    clear hb hfit hbl hits hl0 hwd hi git git' hL0 hL1 hfb
    obtain ⟨W1, hW1⟩ : ∃ W, W = w5.alloc (.cells #[.bool true, .slice i1 y1 z1, .slice (some ⟨b, o, none⟩) 2 z3] 65) := ⟨_, rfl⟩
    have hbw1 : Below w5.heap.size w5 W1 := by rw [hW1]; exact Bel.alloc (Bel.refl w5) _
    have hx1 : W1.heap[w5.heap.size]? = some (.cells #[.bool true, .slice i1 y1 z1, .slice (some ⟨b, o, none⟩) 2 z3] 65 (0, 0)) := by rw [hW1]; exact heap_alloc_new w5 _
    have hs1 : W1.heap.size = w5.heap.size + 1 := by rw [hW1]; simp
    have HW1 := Lib.hid hW1
    have HBW1 := Lib.hid hbw1
    have HX1 := Lib.hid hx1
    have HS1 := Lib.hid hs1
    clear hW1 hbw1 hx1 hs1
    go_wp2_with fail
    rw [← HW1.out]
    refine (readO_any _ W1 7 i0 L0 A1 A2 N1 C1 N2 C2 (ItemAt.below GIT.out HBW1.out) HL0.out.1).mono ?_
    rintro e w2 ⟨v1, rfl, m1, m2⟩
    have hb02 : Below w5.heap.size w5 w2 := HBW1.out.trans (m2.mono HBW1.out.size)
    have p2 := cell_below hb02 g3
    have p3 := cell_below hb02 g4
    have p4 := cell_below hb02 g5
    have hx2 := (m2.block w5.heap.size (by rw [HS1.out]; omega)).trans HX1.out
    obtain ⟨r0, r1, r2⟩ := cells3 hx2
    have HB02 := Lib.hid hb02
    have M1 := Lib.hid m1
    have GIT2 := Lib.hid (ItemAt.below GIT'.out hb02)
    have HBM := Lib.hid m2
    have HSW1 := HS1
    clear m1 m2 hb02 hx2 g0 g1 g2 g3 g4 g5 q0 q1 f0 f1
    go_wp2_with fail
    refine (readO_any _ w2 7 i1x L1 A3 A4 N3 C3 N4 C4 GIT2.out HL0.out.2).mono ?_
    rintro e w3 ⟨v2, rfl, m3, m4⟩
    have hb03 : Below w5.heap.size w5 w3 := HB02.out.trans (m4.mono HB02.out.size)
    have hb3 := (hb03.block w.heap.size h0).trans HB5.out
    obtain ⟨q0, q1⟩ := cells2 hb3
    have f0 := frozen_of_row w3 w.heap.size 0 _ _ hb3
    have f1 := frozen_of_row w3 w.heap.size 1 _ _ hb3
    have hlt3 : w.heap.size < w3.heap.size := Nat.lt_of_lt_of_le h0 hb03.size
    have HB3 := Lib.hid hb3
    have HB03 := Lib.hid (HBL.out.trans (hb03.mono (Nat.le_of_lt h0)))
    have M3 := Lib.hid m3
    have HB34 := Lib.hid m4
    clear m3 m4 hb03 hb3 r0 r1 r2 p2 p3 p4
    obtain ⟨s0, hs0⟩ : ∃ s, s = readOk i0 := ⟨_, rfl⟩
    obtain ⟨s1, hs1⟩ : ∃ s, s = readOk i1x := ⟨_, rfl⟩
    rw [← hs0] at M1 HWD ⊢
    rw [← hs1] at M3 HWD ⊢
    have HS0 := Lib.hid hs0
    have HS1 := Lib.hid hs1
    clear hs0 hs1
    by_cases hok : s0 = true ∧ s1 = true
    · obtain ⟨rfl, rfl⟩ := hok
      obtain ⟨w1a, w1c, hv1, -, -, -⟩ := OwnList.len (M1.out rfl)
      obtain ⟨w2a, w2c, hv2, -, -, -⟩ := OwnList.len (M3.out rfl)
      have M1' := M1.out rfl
      have M3' := M3.out rfl
      obtain ⟨P, hP⟩ : ∃ P, P = i0.items.map It.bytes := ⟨_, rfl⟩
      obtain ⟨Q, hQ⟩ : ∃ P, P = i1x.items.map It.bytes := ⟨_, rfl⟩
      rw [← hP] at hv1 M1'
      rw [← hQ] at hv2 M3'
      have hfin : witDecode bs = (P, Q, 0) := by rw [HWD.out, if_pos ⟨rfl, rfl⟩, hP, hQ]
      have HF := Lib.hid hfin
      subst hv1 hv2
      have N1' := Lib.hid M1'
      have N3' := Lib.hid M3'
      clear hfin hP hQ M1' M3' M1 M3
      go_wp2_with fail
      have hbx := box2 HB3.out (.slice w1a P.length w1c) (.slice w2a Q.length w2c)
      obtain ⟨W, hW⟩ : ∃ W, W = (w3.setCell ⟨w.heap.size, 0, none⟩ (.slice w1a P.length w1c)).setCell ⟨w.heap.size, 1, none⟩ (.slice w2a Q.length w2c) := ⟨_, rfl⟩
      rw [← hW] at hbx ⊢
      obtain ⟨r0, r1⟩ := cells2 hbx.at_
      refine bodyPost_ret (v := .tuple #[.agg #[.slice w1a P.length w1c, .slice w2a Q.length w2c], .int .i64 ((0 : Nat) : Int)]) (by simp [results, Try.results16, go_sem, r0, r1]) rfl ?_
      rw [HF.out]
      have hfar : ∀ b, w.heap.size < b → W.heap[b]? = w3.heap[b]? := fun b hb => hbx.other b (by omega)
      have hs02 := HB02.out.size
      have hs1 := HSW1.out
      have hsW1 : W1.heap.size ≤ w2.heap.size := HBM.out.size
      have h00 : w.heap.size < W1.heap.size := by rw [hs1]; exact Nat.lt_succ_of_lt h0
      refine ⟨W1.heap.size + 1, w1a, P.length, w1c, w2a, Q.length, w2c, rfl, by omega, ?_, ?_, HB03.out.trans (hbx.chg.toBelowAt (by omega) (fun k hk e => by omega))⟩
      · refine OwnList.weaken (OwnList.carry carriedRow (N1'.out.call carriedRow HB34.out) (by rw [hbx.size]; exact Nat.le_refl _) (fun b hb _ => hfar b ?_) (fun k hk => hfar k ?_)) (fun b hb => ?_) (by omega)
        · have h9 := hb.1.1; simp only [World.size_alloc] at h9; omega
        · have := (N1'.out.own k hk).1; omega
        · have h9 := hb.1.1; have := hb.2; simp only [World.size_alloc] at h9; exact ⟨by omega, by omega⟩
      · refine OwnList.weaken (OwnList.carry carriedRow N3'.out (by rw [hbx.size]; exact Nat.le_refl _) (fun b hb _ => hfar b ?_) (fun k hk => hfar k ?_)) (fun b hb => ?_) (by omega)
        · have h9 := hb.1.1; simp only [World.size_alloc] at h9; omega
        · have := (N3'.out.own k hk).1; omega
        · have h9 := hb.1.1; have := hb.1.2; simp only [World.size_alloc] at h9; exact ⟨by omega, by omega⟩
    · have hfin : witDecode bs = ([], [], 210) := by rw [HWD.out, if_neg hok]
      have HF := Lib.hid hfin
      have hcase : s0 = false ∨ (s0 = true ∧ s1 = false) := by
        cases s0
        · exact .inl rfl
        · cases s1
          · exact .inr ⟨rfl, rfl⟩
          · exact absurd ⟨rfl, rfl⟩ hok
      clear hfin hok M1 M3 HWD
      rcases hcase with rfl | ⟨rfl, rfl⟩
      all_goals
        go_wp2_with fail
        have hbx := box2 HB3.out (.slice none 0 0) (.slice none 0 0)
        obtain ⟨W, hW⟩ : ∃ W, W = (w3.setCell ⟨w.heap.size, 0, none⟩ (.slice none 0 0)).setCell ⟨w.heap.size, 1, none⟩ (.slice none 0 0) := ⟨_, rfl⟩
        rw [← hW] at hbx ⊢
        obtain ⟨r0, r1⟩ := cells2 hbx.at_
        refine bodyPost_ret (v := .tuple #[.agg #[.slice none 0 0, .slice none 0 0], .int .i64 ((210 : Nat) : Int)]) (by simp [results, Try.results16, go_sem, r0, r1]) rfl ?_
        rw [HF.out]
        exact ⟨w.heap.size + 1, none, 0, 0, none, 0, 0, rfl, Nat.lt_succ_self _, OwnList.nil, OwnList.nil, HB03.out.trans (hbx.chg.toBelowAt (by omega) (fun k hk e => by omega))⟩
  · have hfin : witDecode bs = ([], [], 210) := by
      refine witDecode_no bs e1 x HR.out ?_
      by_cases he : e1 = 0
      · by_cases hl : il = true
        · by_cases hy : y3 = 2
          · exact absurd ⟨he, hl, hy⟩ hgood
          · exact .inr (.inr (by rw [← HN3.out]; exact hy))
        · exact .inr (.inl (by rw [← HIL.out]; simpa using hl))
      · exact .inl he
    have HF := Lib.hid hfin
    have hcase : (((e1 : Nat) : Int) != 0) = true ∨ (e1 = 0 ∧ il = false) ∨ (e1 = 0 ∧ il = true ∧ (((y3 : Nat) : Int) != 2) = true) := by
      by_cases he : e1 = 0
      · by_cases hl : il = true
        · by_cases hy : y3 = 2
          · exact absurd ⟨he, hl, hy⟩ hgood
          · exact .inr (.inr ⟨he, hl, by simp; omega⟩)
        · exact .inr (.inl ⟨he, by simpa using hl⟩)
      · exact .inl (by simp; omega)
    clear hfin hgood
    rcases hcase with h | ⟨rfl, rfl⟩ | ⟨rfl, rfl, h⟩
    all_goals
      go_wp2_with fail
      have hbx := box2 HB5.out (.slice none 0 0) (.slice none 0 0)
      obtain ⟨W, hW⟩ : ∃ W, W = (w5.setCell ⟨w.heap.size, 0, none⟩ (.slice none 0 0)).setCell ⟨w.heap.size, 1, none⟩ (.slice none 0 0) := ⟨_, rfl⟩
      rw [← hW] at hbx ⊢
      obtain ⟨r0, r1⟩ := cells2 hbx.at_
      have hlw : w.heap.size < W.heap.size := by rw [hbx.size]; exact h0
      refine bodyPost_ret (v := .tuple #[.agg #[.slice none 0 0, .slice none 0 0], .int .i64 ((210 : Nat) : Int)]) (by simp [results, Try.results16, go_sem, r0, r1, hlw]) rfl ?_
      rw [HF.out]
      exact WDecdO.bad HBL.out hbx
end Go.Proofs.Ytndkkgkcbbmnpaa
