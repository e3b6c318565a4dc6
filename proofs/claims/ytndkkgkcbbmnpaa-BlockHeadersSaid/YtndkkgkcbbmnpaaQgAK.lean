/-
  Contract of pergolaref01.Padded.
  Contract of pergolaref01.Of.
  Contract of witness.read.
  Which items have an encoding; witnesses: reading and writing them are one another's inverse (plain law).
-/
import Derived.Test.YtndkkgkcbbmnpaaQgAJ
namespace Go.Proofs.Ytndkkgkcbbmnpaa
open Go.RowKit Go.Pg

set_option maxRecDepth 100000 in
set_option maxHeartbeats 4000000 in
theorem padded_any (F : Nat → Prop) (w : World) (a : Option Addr) (n c : Nat) (bs : List UInt8) (h : BytesAt F w (.slice a n c) bs) (hn : n ≤ 140737488351232) :
    Calls Try.prog 63 #[.slice a n c] w (Fresh w 5 1 byteR (padOf bs bs.length)) := by
  obtain ⟨i0, hi, hz0, hz1, hz2⟩ := info_parts infoU8
  have hnl := (BytesAt.n h).1
  obtain ⟨DD, hDD⟩ : ∃ D, D = padOf bs bs.length := ⟨_, rfl⟩
  rw [← hDD]
  have hown : OwnAt (w.alloc (.cells #[] 5)) w.heap.size 5 1 byteR (.slice (some ⟨w.heap.size, 0, none⟩) 0 0) ([] : List UInt8) :=
    ⟨[], World.ownsRow_made w #[] 0 (Nat.le_refl _) (by decide) rfl, Rows.nil _ _⟩
  have hsrc : BytesAt F (w.alloc (.cells #[] 5)) (.slice a n c) bs := BytesAt.below h (Bel.alloc (Bel.refl w) _)
  have hle : (([] : List UInt8).length + bs.length) * 1 ≤ 140737488355328 := by simp; omega
  have hbase : w.heap.size ≤ (w.alloc (.cells #[] 5)).heap.size := by simp
  have HD := Lib.hid hDD
  have HNL := Lib.hid hnl
  have HO := Lib.hid hown
  have HS := Lib.hid hsrc
  have HLE := Lib.hid hle
  clear h hnl hDD hown hsrc hle
  go_enter Try.func63, Try.ntmps63
  go_wp2_with (at_builtin; refine wpList_append_at rfl (.tmp 6) (.tmp 7) 25 rfl w.heap.size 5 i0 (.int .u8 0) 1 1 underlying25 hi hz0 hz1 hz2 rfl (by decide) (by decide) byteR.one (.slice (some ⟨w.heap.size, 0, none⟩) 0 0) [] rfl HO.out _ bs F rfl HS.out HLE.out hbase ?next)
  case next =>
  intro v2 w2 ho hg hm
  have hb2 : Below w.heap.size w w2 := (Bel.alloc (Bel.refl w) _).grown hg hbase (fun k hk => ((HO.out).own k hk).1)
  obtain ⟨a2, c2, rfl, h2, h3, -⟩ := ho.len
  have ho' : OwnAt w2 w.heap.size 5 1 byteR (.slice a2 bs.length c2) bs := ho
  rw [← HNL.out] at ho' ⊢
  have hle2 : (bs.length + ([128] : List UInt8).length) * 1 ≤ 140737488355328 := by have := HNL.out; simp; omega
  have hbase2 : w.heap.size ≤ (w2.alloc (.cells #[.int .u8 128] 5)).heap.size := by simp; have := hb2.size; omega
  have HO2 := Lib.hid (ho'.carry (w' := w2.alloc (.cells #[.int .u8 128] 5)) (fun g _ _ hlt => Below.heap_alloc _ _ _ hlt))
  have HS2 : Hid (BytesAt (fun _ => True) (w2.alloc (.cells #[.int .u8 128] 5)) (.slice (some ⟨w2.heap.size, 0, none⟩) 1 1) [128]) :=
    Lib.hid (show BytesAt _ _ _ _ from (OwnAt.lit' w2 5 128).at (F := fun _ => True) (fun _ _ _ _ => trivial) (by decide))
  have HL2 := Lib.hid hle2
  have HB2 := Lib.hid hb2
  clear ho ho' hg hm h2 h3 hle2 hb2 HO HS HLE hbase
  go_wp2_with (at_builtin; refine wpList_append_at rfl (.tmp 9) (.tmp 10) 25 rfl w.heap.size 5 i0 (.int .u8 0) 1 1 underlying25 hi hz0 hz1 hz2 rfl (by decide) (by decide) byteR.one (.slice a2 n c2) bs rfl HO2.out _ [128] (fun _ => True) rfl HS2.out HL2.out hbase2 ?next)
  case next =>
  intro v3 w3 ho hg hm
  have hb3 : Below w.heap.size w w3 := (Bel.alloc HB2.out _).grown hg hbase2 (fun k hk => ((HO2.out).own k hk).1)
  obtain ⟨a3, c3, rfl, h2, h3, -⟩ := ho.len
  have hl128 : (bs ++ [(128 : UInt8)]).length = n + 1 := by rw [List.length_append, ← HNL.out]; rfl
  rw [hl128] at ho ⊢
  have HI : Hid (Below w.heap.size w w3 ∧ OwnAt w3 w.heap.size 5 1 byteR (.slice a3 (n + 1) c3) (bs ++ [128] ++ List.replicate 0 0)) := ⟨hb3, by simpa using ho⟩
  clear hl128 ho hg hm h2 h3 hb3 HO2 HS2 HL2 HB2 hbase2
  obtain ⟨z, hz⟩ : ∃ z, z = zeros bs.length := ⟨_, rfl⟩
  have hzz : (n + 1 + z) % 32 = 24 ∧ z < 32 ∧ ∀ j, j < z → (n + 1 + j) % 32 ≠ 24 := by
    rw [← HNL.out] at hz
    unfold zeros at hz
    exact ⟨by omega, by omega, fun j hj => by omega⟩
  have HZ := Lib.hid hz
  have HZZ := Lib.hid hzz
  have hz32 := hzz.2.1
  clear hz hzz
  go_wp2_with fail
  go_loopw [3] (fun v wr => ∃ (j k : Nat) (ax : Option Addr) (c' : Nat), v = .slice ax k c' ∧ k = n + 1 + j ∧ j ≤ z ∧ Hid (Below w.heap.size w wr ∧ OwnAt wr w.heap.size 5 1 byteR (.slice ax k c') (bs ++ [128] ++ List.replicate j 0))) (fun v _ => match v with | .slice _ k _ => n + 40 - k | _ => 0)
  case atStart => exact ⟨0, n + 1, a3, c3, rfl, rfl, by omega, HI⟩
  case round =>
    obtain ⟨j, k, ax, c', rfl, hkj, hj, HS⟩ := hrel
    obtain ⟨h1, h2⟩ := HS.out
    have hk64 : k ≤ n + 40 := by omega
    obtain ⟨_, cx, ex, hkc, hcm, -⟩ := h2.len
    simp only [Value.slice.injEq] at ex
    obtain ⟨rfl, -, rfl⟩ := ex
    have hklen : (bs ++ [(128 : UInt8)] ++ List.replicate j 0).length = k := by rw [List.length_append, List.length_append, List.length_replicate, ← HNL.out, hkj]; rfl
    by_cases hjz : j < z
    · have hne : k % 32 ≠ 24 := by rw [hkj]; exact HZZ.out.2.2 j hjz
      have ht : (((k : Nat) : Int) % 32 == 24) = false := by simp; omega
      have ht2 : (((k : Nat) : Int) % 32 != 24) = true := by simp; omega
      obtain ⟨LJ, hLJ⟩ : ∃ LJ, LJ = bs ++ [(128 : UInt8)] ++ List.replicate j 0 := ⟨_, rfl⟩
      rw [← hLJ] at hklen h2
      have hsrc : BytesAt (fun _ => True) (wr.alloc (.cells #[.int .u8 0] 5)) (.slice (some ⟨wr.heap.size, 0, none⟩) 1 1) [0] :=
        (OwnAt.lit' wr 5 0).at (F := fun _ => True) (fun _ _ _ _ => trivial) (by decide)
      have hbase2 : w.heap.size ≤ (wr.alloc (.cells #[.int .u8 0] 5)).heap.size := by simp; have := h1.size; omega
      have hle : (LJ.length + ([0] : List UInt8).length) * 1 ≤ 140737488355328 := by rw [hklen]; simp; omega
      have HO := Lib.hid (h2.carry (w' := wr.alloc (.cells #[.int .u8 0] 5)) (fun g _ _ hlt => Below.heap_alloc _ _ _ hlt))
      have HS2 := Lib.hid hsrc
      have HLE := Lib.hid hle
      have HKL := Lib.hid hklen
      have HKJ := Lib.hid hkj
      have H1 := Lib.hid h1
      have HLJ := Lib.hid hLJ
      clear h1 h2 hsrc hle hklen hne hkj HS hcm hLJ
      go_wp2_with (at_builtin; refine wpList_append_at rfl (.tmp 16) (.tmp 17) 25 rfl w.heap.size 5 i0 (.int .u8 0) 1 1 underlying25 hi hz0 hz1 hz2 rfl (by decide) (by decide) byteR.one (.slice ax k c') LJ rfl HO.out _ [0] (fun _ => True) rfl HS2.out HLE.out hbase2 ?next)
      case next =>
      intro v4 w4 ho hg hm
      have hb4 : Below w.heap.size w w4 := (Bel.alloc H1.out _).grown hg hbase2 (fun k hk => ((HO.out).own k hk).1)
      obtain ⟨a4, c4, rfl, -, -, -⟩ := ho.len
      have e : (LJ ++ [0]).length = k + 1 := by rw [List.length_append, HKL.out]; rfl
      have e2 : LJ ++ [0] = bs ++ [128] ++ List.replicate (j + 1) 0 := by rw [HLJ.out, List.replicate_succ', ← List.append_assoc]
      rw [e] at ho ⊢
      rw [e2] at ho
      have HN4 := Lib.hid (And.intro hb4 ho)
      clear e e2 hb4 ho hg hm
      go_wp2_with fail
      go_roundw
      case rel => exact ⟨j + 1, k + 1, a4, c4, rfl, by have := HKJ.out; omega, by omega, HN4⟩
      case measure => have := HKJ.out; simp; omega
    · obtain rfl : j = z := by omega
      have he : k % 32 = 24 := by rw [hkj]; exact HZZ.out.1
      have ht : (((k : Nat) : Int) % 32 == 24) = true := by simp; omega
      have ht2 : (((k : Nat) : Int) % 32 != 24) = false := by simp; omega
      obtain ⟨LJ, hLJ⟩ : ∃ LJ, LJ = bs ++ [(128 : UInt8)] ++ List.replicate j 0 := ⟨_, rfl⟩
      rw [← hLJ] at hklen h2
      have hDD : LJ ++ beBytes 8 n = DD := by rw [HD.out, hLJ, HZ.out]; unfold padOf; rw [HNL.out]
      have hwn : IntKind.u64.wrap (n : Int) = (n : Int) := IntWalk.u64_in _ (by omega)
      have HI2 : Hid (Below w.heap.size w wr ∧ OwnAt wr w.heap.size 5 1 byteR (.slice ax k c') (LJ ++ (beBytes 8 n).take 0)) := ⟨h1, by simpa using h2⟩
      have HKL := Lib.hid hklen
      have HDD := Lib.hid hDD
      clear h1 h2 hklen hDD hLJ he HS hkj hcm hjz hj
      go_wp2_with fail
      go_loopw [3, 5] (fun v i wr => ∃ (j m : Nat) (ax : Option Addr) (c' : Nat), i = .int .i64 j ∧ j ≤ 8 ∧ v = .slice ax m c' ∧ m = k + j ∧ Hid (Below w.heap.size w wr ∧ OwnAt wr w.heap.size 5 1 byteR (.slice ax m c') (LJ ++ (beBytes 8 n).take j))) (fun _ i _ => 8 - (intOf i).toNat)
      case atStart => exact ⟨0, k, ax, c', rfl, by omega, rfl, rfl, HI2⟩
      case round =>
        obtain ⟨j, m, ax, c', rfl, hj8, rfl, hmk, HS⟩ := hrel
        obtain ⟨h1, h2⟩ := HS.out
        by_cases hlt : j < 8
        · have hbl : j < (beBytes 8 n).length := by rw [beBytes_length]; exact hlt
          obtain ⟨x, hx⟩ : ∃ x, x = (beBytes 8 n)[j]'hbl := ⟨_, rfl⟩
          have hcell : (.int .u8 ((n : Int) / 2 ^ (56 - 8 * j) % 256) : Value) = .int .u8 (x.toNat : Int) := by rw [hx]; exact key_cell n j hlt
          obtain ⟨LT, hLT⟩ : ∃ LT, LT = LJ ++ (beBytes 8 n).take j := ⟨_, rfl⟩
          have hLTn : LT ++ [x] = LJ ++ (beBytes 8 n).take (j + 1) := by rw [hLT, hx, List.take_succ_eq_append_getElem hbl, List.append_assoc]
          have hLTl : LT.length = m := by rw [hLT, List.length_append, HKL.out, List.length_take, beBytes_length, hmk]; omega
          rw [← hLT] at h2
          have hsrc : BytesAt (fun _ => True) (wr.alloc (.cells #[.int .u8 ((n : Int) / 2 ^ (56 - 8 * j) % 256)] 5)) (.slice (some ⟨wr.heap.size, 0, none⟩) 1 1) [x] := by
            rw [hcell]; exact (OwnAt.lit' wr 5 x).at (F := fun _ => True) (fun _ _ _ _ => trivial) (by decide)
          have hbase2 : w.heap.size ≤ (wr.alloc (.cells #[.int .u8 ((n : Int) / 2 ^ (56 - 8 * j) % 256)] 5)).heap.size := by simp; have := h1.size; omega
          have hle : (LT.length + ([x] : List UInt8).length) * 1 ≤ 140737488355328 := by rw [hLTl]; simp; omega
          have HO := Lib.hid (h2.carry (w' := wr.alloc (.cells #[.int .u8 ((n : Int) / 2 ^ (56 - 8 * j) % 256)] 5)) (fun g _ _ hlt => Below.heap_alloc _ _ _ hlt))
          have HS2 := Lib.hid hsrc
          have HLE := Lib.hid hle
          have HLN := Lib.hid hLTn
          have HLL := Lib.hid hLTl
          have H1 := Lib.hid h1
          have HMK := Lib.hid hmk
          have hj0 : (0 : Int) ≤ (j : Int) := by omega
          have hj1 : (j : Int) < 8 := by omega
          clear hcell hx hLT hLTn hLTl h2 hsrc hle h1 HS hmk
          go_wp2_with (at_builtin; refine wpList_append_at rfl (.tmp 26) (.tmp 33) 25 rfl w.heap.size 5 i0 (.int .u8 0) 1 1 underlying25 hi hz0 hz1 hz2 rfl (by decide) (by decide) byteR.one (.slice ax m c') LT rfl HO.out _ [x] (fun _ => True) rfl HS2.out HLE.out hbase2 ?next)
          case next =>
          intro v4 w4 ho hg hm
          have hb4 : Below w.heap.size w w4 := (Bel.alloc H1.out _).grown hg hbase2 (fun k hk => ((HO.out).own k hk).1)
          obtain ⟨a4, c4, rfl, -, -, -⟩ := ho.len
          have e : (LT ++ [x]).length = m + 1 := by rw [List.length_append, HLL.out]; rfl
          rw [e] at ho ⊢
          rw [HLN.out] at ho
          have HN4 := Lib.hid (And.intro hb4 ho)
          clear e hb4 ho hg hm
          go_wp2_with fail
          go_roundw
          case rel => exact ⟨j + 1, m + 1, a4, c4, num_eq (by omega), by omega, rfl, by have := HMK.out; omega, HN4⟩
          case measure => simp [intOf]; omega
        · obtain rfl : j = 8 := by omega
          rw [List.take_of_length_le (by rw [beBytes_length]; exact Nat.le_refl _), HDD.out] at h2
          have H1 := Lib.hid h1
          have H2 := Lib.hid h2
          clear h1 h2 HS hmk
          go_wp2
          go_ret
          exact ⟨_, rfl, H2.out, H1.out⟩
end Go.Proofs.Ytndkkgkcbbmnpaa
namespace Go.Pg
open Go.RowKit
/-- nothing but draws -/
structure SameW (W wr : World) : Prop where
  heap : wr.heap = W.heap
  os : wr.os = W.os
  tape : wr.tape = W.tape
  output : wr.output = W.output
theorem SameW.below {W wr : World} (h : SameW W wr) : Below W.heap.size W wr := ⟨h.os, h.tape, h.output, by rw [h.heap]; exact Nat.le_refl _, fun k _ => by rw [h.heap]⟩
theorem SameW.drewN {W wr : World} (h : SameW W wr) (n : Nat) : SameW W (wr.drewN n) := ⟨h.heap, h.os, h.tape, h.output⟩
theorem SameW.slice {W wr : World} {α : Type} {F : Nat → Prop} {sz : Nat} {R : List Value → α → Prop} {v : Value} {l : List α} (h : SameW W wr) (hsz : 0 < sz) (k : SliceAt F W sz R v l) : SliceAt F wr sz R v l :=
  SliceAt.carry k hsz (fun _ _ x => x) (fun b _ _ => by rw [h.heap]) (fun _ _ _ h => h)
/-- what has been added when r rounds are through -/
def kayAt : Nat → Int | 0 => 0 | r + 1 => kay r
theorem kayAt_step (r : Nat) : IntKind.u64.wrap (kayAt r + 11400714819323198485) = kay r := by
  cases r with
  | zero => show IntKind.u64.wrap (0 + 11400714819323198485) = kay 0; rw [kay_zero]; rfl
  | succ r => exact kay_step r
def wordR (cs : List Value) (x : Int) : Prop := cs = [.int .u64 x]
theorem wordR.one : ∀ cs x, wordR cs x → ∀ u ∈ cs, u.oneCell' = true := by
  intro cs x h u hu
  rw [h] at hu; simp at hu; subst hu; rfl
def S4.list (s : S4) : List Int := [s.a, s.b, s.c, s.d]
theorem S4.list_get (s : S4) (k : Nat) (h : k < 4) : s.list[k]'(h) = s.get k := by
  rcases k with _ | _ | _ | _ | k
  all_goals first | rfl | omega
theorem St4.words {w : World} {g : Nat} {t : TypeId} {s : S4} (h : St4 w g t s) : SliceAt (fun b => b = g) w 1 wordR (.slice (some ⟨g, 0, none⟩) 4 4) s.list := by
  refine ⟨some ⟨g, 0, none⟩, 4, rfl, Nat.le_refl _, by decide, (fun h => by cases h), fun _ => ⟨g, 0, rfl, rfl, fun i x hx => ?_⟩, fun b o j ha _ => ?_⟩
  · obtain ⟨hi, rfl⟩ := List.getElem?_eq_some_iff.1 hx
    refine ⟨[.int .u64 (s.list[i])], rfl, rfl, fun j u hu => ?_⟩
    match j, hu with
    | 0, hu =>
      simp only [List.getElem?_cons_zero, Option.some.injEq] at hu
      subst hu
      rw [s.list_get i hi]
      have := h.cell i hi
      simpa using this
  · simp only [Option.some.injEq, Addr.mk.injEq, and_true] at ha
    obtain ⟨rfl, rfl⟩ := ha
    exact h.free _
theorem words_cells {F : Nat → Prop} {w : World} {b o n c : Nat} {s : S4} (h : SliceAt F w 1 wordR (.slice (some ⟨b, o, none⟩) n c) s.list) (k : Nat) (hk : k < 4) : w.cell? ⟨b, o + k, none⟩ = some (.int .u64 (s.get k)) := by
  obtain ⟨cs, -, hr, hj⟩ := SliceAt.row h k hk
  rw [hr] at hj
  have := hj 0 _ rfl
  rw [s.list_get k hk] at this
  simpa using this
theorem outS_get (s : S4) (i : Nat) (h : i < 32) : (outS s)[i]'(by rw [outS_length]; exact h) = UInt8.ofNat ((s.get (i / 8)).toNat / 256 ^ (7 - i % 8) % 256) := by
  have h1 := outS_piece s (i / 8) (by omega)
  have h2 := beBytes8_get (s.get (i / 8)).toNat (i % 8) (Nat.mod_lt _ (by omega))
  have h3 : ((outS s).drop (8 * (i / 8))).take 8 = beBytes 8 (s.get (i / 8)).toNat := h1
  have h4 : (beBytes 8 (s.get (i / 8)).toNat)[i % 8]? = (outS s)[i]? := by
    rw [← h3, List.getElem?_take, if_pos (Nat.mod_lt _ (by omega)), List.getElem?_drop, show 8 * (i / 8) + i % 8 = i by omega]
  rw [List.getElem?_eq_getElem (by rw [beBytes_length]; exact Nat.mod_lt _ (by omega)), List.getElem?_eq_getElem (by rw [outS_length]; exact h)] at h4
  rw [← Option.some.inj h4, h2]
theorem out_cell (s : S4) (i : Nat) (h : i < 32) (x : Nat) (hx : s.get (i / 8) = (x : Int)) : (.int .u8 ((x : Int) / 2 ^ (56 - 8 * (i % 8)) % 256) : Value) = .int .u8 (((outS s)[i]'(by rw [outS_length]; exact h)).toNat : Int) := by
  have hm : i % 8 < 8 := Nat.mod_lt _ (by omega)
  rw [outS_get s i h, hx, Int.toNat_natCast, show 56 - 8 * (i % 8) = 8 * (7 - i % 8) by omega, shift_byte, UInt8.toNat_ofNat', Nat.mod_eq_of_lt (Nat.mod_lt _ (by omega))]
theorem add_assoc_u64 (a b y k : Int) : IntKind.u64.wrap (IntKind.u64.wrap (IntKind.u64.wrap (a + b) + y) + k) = IntKind.u64.wrap (a + IntKind.u64.wrap (IntKind.u64.wrap (b + y) + k)) := by
  simp only [IntKind.wrap_u64]; omega
end Go.Pg
namespace Go.Proofs.Ytndkkgkcbbmnpaa
open Go.RowKit Go.Pg

theorem infoU64 : (Try.prog.info? 38).map (fun i => (i.zero, i.size, i.bytes)) = some (some (.int .u64 0), 1, 8) := by kernel_rfl
theorem underlyingU64s : Try.prog.underlying 87 = some (.slice 38) := Try.underlying87
set_option maxRecDepth 100000 in
set_option maxHeartbeats 8000000 in
theorem rof_any (F : Nat → Prop) (w : World) (a : Option Addr) (n c : Nat) (bs : List UInt8) (h : BytesAt F w (.slice a n c) bs) (hn : n ≤ 140737488351232) :
    Calls Try.prog 36 #[.slice a n c] w (DigD w (digestOf bs)) := by
  have hnl := (BytesAt.n h).1
  obtain ⟨R, hR⟩ : ∃ R, R = digestOf bs := ⟨_, rfl⟩
  have hRl : (cellsOf R).size = 32 := by rw [cellsOf_size, hR, digestOf_length]
  rw [← hR]
  have HR := Lib.hid hR
  have HNL := Lib.hid hnl
  have H := Lib.hid h
  have HRL := Lib.hid hRl
  clear h hR hnl hRl
  go_enter Try.func36, Try.ntmps36
  go_wp2_with fail
  obtain ⟨Wz, hWz⟩ : ∃ W : World, W = w.alloc (.cells #[.int .u8 0, .int .u8 0, .int .u8 0, .int .u8 0, .int .u8 0, .int .u8 0, .int .u8 0, .int .u8 0, .int .u8 0, .int .u8 0, .int .u8 0, .int .u8 0, .int .u8 0, .int .u8 0, .int .u8 0, .int .u8 0, .int .u8 0, .int .u8 0, .int .u8 0, .int .u8 0, .int .u8 0, .int .u8 0, .int .u8 0, .int .u8 0, .int .u8 0, .int .u8 0, .int .u8 0, .int .u8 0, .int .u8 0, .int .u8 0, .int .u8 0, .int .u8 0] 37) := ⟨_, rfl⟩
  rw [← hWz]
  have hbz : Below w.heap.size w Wz := by rw [hWz]; exact Bel.alloc (Bel.refl w) _
  have hrz : Wz.heap[w.heap.size]? = some (.cells (cellsOf (List.replicate 32 0)) 37 (0, 0)) := by rw [hWz]; exact heap_alloc_new w _
  have hlt := (Array.getElem?_eq_some_iff.1 hrz).1
  refine (padded_any F Wz a n c bs (BytesAt.below H.out hbz) hn).mono ?_
  rintro e w1 ⟨v1, rfl, ho, hb1⟩
  obtain ⟨DD, hDD⟩ : ∃ D, D = padOf bs bs.length := ⟨_, rfl⟩
  rw [← hDD] at ho
  have hDl : DD.length % 32 = 0 := by rw [hDD]; exact padOf_length _ _
  have hDn : DD.length ≤ n + 64 := by rw [hDD, HNL.out]; simp [padOf, beBytes_length, zeros]; omega
  have hat := ho.at (F := fun b => b < w1.heap.size) (fun _ _ _ h => h) (by decide)
  obtain ⟨at1, ct1, rfl, h2, h3, -⟩ := ho.len
  have hr1 := (hb1.block _ hlt).trans hrz
  have hlt1 : w.heap.size < w1.heap.size := Nat.lt_of_lt_of_le hlt hb1.size
  obtain ⟨tn, htn⟩ : ∃ tn, tn = DD.length := ⟨_, rfl⟩
  rw [← htn] at hat hDl hDn h2 ⊢
  have HTN := Lib.hid htn
  have HAT := Lib.hid hat
  have HBL := Lib.hid (Bel.call hbz hb1)
  have HR1 := Lib.hid hr1
  have HDD := Lib.hid hDD
  have HDL := Lib.hid hDl
  unfold maxLen at h3
  clear hWz hbz hrz hb1 ho hDD hat hr1 htn hDl
  go_wp2_with fail
  obtain ⟨W2, hW2⟩ : ∃ v, v = w1.alloc (.cells #[.int .u64 11400714819323198485, .int .u64 (IntKind.u64.wrap 22801429638646396970), .int .u64 (IntKind.u64.wrap (IntKind.u64.wrap 22801429638646396970 + 11400714819323198485)), .int .u64 (IntKind.u64.wrap (IntKind.u64.wrap (IntKind.u64.wrap 22801429638646396970 + 11400714819323198485) + 11400714819323198485))] 38) := ⟨_, rfl⟩
  rw [← hW2]
  have HI2 : Hid (Below w.heap.size w W2 ∧ W2.heap[w.heap.size]? = some (.cells (cellsOf (List.replicate 32 0)) 37 (0, 0)) ∧ BytesAt (fun b => b < w1.heap.size) W2 (.slice at1 tn ct1) DD ∧ w1.heap.size ≤ w1.heap.size ∧ St4 W2 w1.heap.size 38 begunS ∧ absorb begunS (DD.drop 0) = absorb begunS DD ∧ begunS.ok) := by
    have e : (⟨11400714819323198485, IntKind.u64.wrap 22801429638646396970, IntKind.u64.wrap (IntKind.u64.wrap 22801429638646396970 + 11400714819323198485), IntKind.u64.wrap (IntKind.u64.wrap (IntKind.u64.wrap 22801429638646396970 + 11400714819323198485) + 11400714819323198485)⟩ : S4) = begunS := by
      simp only [IntKind.wrap_u64, begunS, kay, golden]
      rfl
    rw [hW2]
    refine ⟨Bel.alloc HBL.out _, (Below.heap_alloc _ _ _ hlt1).trans HR1.out, BytesAt.below HAT.out (Bel.alloc (Bel.refl w1) _), Nat.le_refl _, ?_, rfl, begunS_ok⟩
    rw [← e]
    exact St4.new w1 _ ⟨_, _, _, _⟩ rfl
  clear hW2 HBL HR1 HAT
  go_loopw [5, 6] (fun sv iv wr => ∃ (g q : Nat) (X : S4), sv = .slice (some ⟨g, 0, none⟩) 4 4 ∧ iv = .int .i64 q ∧ q ≤ tn ∧ q % 32 = 0 ∧ Hid (Below w.heap.size w wr ∧ wr.heap[w.heap.size]? = some (.cells (cellsOf (List.replicate 32 0)) 37 (0, 0)) ∧ BytesAt (fun b => b < w1.heap.size) wr (.slice at1 tn ct1) DD ∧ w1.heap.size ≤ g ∧ St4 wr g 38 X ∧ absorb X (DD.drop q) = absorb begunS DD ∧ X.ok)) (fun _ i _ => tn - (intOf i).toNat)
  case atStart => exact ⟨_, 0, begunS, rfl, rfl, by omega, rfl, HI2⟩
  case round =>
    obtain ⟨g, q, X, rfl, rfl, hq, hq32, HS⟩ := hrel
    obtain ⟨j1, j2, j3, j4, j5, j6, j7⟩ := HS.out
    by_cases hqt : q < tn
    · have hq2 : q + 32 ≤ tn := by have := HDL.out; omega
      have hglt := j5.lt
      obtain ⟨i0, hi, hz0, hz1, hz2⟩ := info_parts infoU64
      have hown : OwnAt (wr.alloc (.cells #[] 38)) wr.heap.size 38 1 wordR (.slice (some ⟨wr.heap.size, 0, none⟩) 0 0) ([] : List Int) :=
        ⟨[], World.ownsRow_made wr #[] 0 (Nat.le_refl _) (by decide) rfl, Rows.nil _ _⟩
      have hsrc : SliceAt (fun b => b = g) (wr.alloc (.cells #[] 38)) 1 wordR (.slice (some ⟨g, 0, none⟩) 4 4) X.list := (j5.alloc _).words
      have hbase : wr.heap.size ≤ (wr.alloc (.cells #[] 38)).heap.size := by simp
      have hle : (([] : List Int).length + X.list.length) * 8 ≤ 140737488355328 := by simp [S4.list]
      have HLX := Lib.hid hle
      clear hle
      have HO := Lib.hid hown
      have HSR := Lib.hid hsrc
      have J1 := Lib.hid j1
      have J2 := Lib.hid j2
      have J3 := Lib.hid j3
      have J4 := Lib.hid j4
      have J5 := Lib.hid j5
      have J6 := Lib.hid j6
      have J7 := Lib.hid j7
      have hq0 : (0 : Int) ≤ (q : Int) := by omega
      have hq1 : (q : Int) < (tn : Int) := by omega
      clear hown hsrc j1 j2 j3 j4 j5 j6 j7 HS
      go_wp2_with (at_builtin; refine wpList_append_at rfl (.tmp 43) (.tmp 44) 87 rfl wr.heap.size 38 i0 (.int .u64 0) 1 8 underlyingU64s hi hz0 hz1 hz2 rfl (by decide) (by decide) wordR.one (.slice (some ⟨wr.heap.size, 0, none⟩) 0 0) [] rfl HO.out (.slice (some ⟨g, 0, none⟩) 4 4) X.list (fun b => b = g) rfl HSR.out HLX.out hbase ?next)
      case next =>
      intro v2 w2 ho hg hm
      have hp := ho.at (F := fun b => wr.heap.size ≤ b) (fun _ _ h _ => h) (by decide)
      obtain ⟨ap, cp, rfl, hcp, -, -⟩ := ho.len
      have hX4 : X.list.length = 4 := rfl
      rw [hX4]
      rw [hX4] at hcp
      replace hp : SliceAt (fun b => wr.heap.size ≤ b) w2 1 wordR (.slice ap 4 cp) X.list := hp
      have hb2 : Below wr.heap.size wr w2 := (Bel.alloc (Bel.refl wr) _).grown hg hbase (fun k hk => ((HO.out).own k hk).1)
      have hb2s := hb2.size
      have HP := Lib.hid hp
      have HB2 := Lib.hid hb2
      clear ho hg hm hp hb2 HO HSR
      have hB2 := BytesAt.below J3.out HB2.out
      have HBT := Lib.hid hB2
      clear hB2
      go_wp2_with fail
      refine (rword_any _ w2 at1 tn ct1 DD HBT.out (q + 0) _ (by omega) (by omega)).mono ?_
      rintro e w' ⟨rfl, rfl⟩
      obtain ⟨y0, hy0⟩ : ∃ y, y = wordAt DD (q + 0) := ⟨_, rfl⟩
      rw [← hy0]
      have HY0 := Lib.hid hy0
      clear hy0
      go_wp2_with fail
      refine (rword_any _ w2 at1 tn ct1 DD HBT.out (q + 8) _ (by omega) (by omega)).mono ?_
      rintro e w' ⟨rfl, rfl⟩
      obtain ⟨y1, hy1⟩ : ∃ y, y = wordAt DD (q + 8) := ⟨_, rfl⟩
      rw [← hy1]
      have HY1 := Lib.hid hy1
      clear hy1
      go_wp2_with fail
      refine (rword_any _ w2 at1 tn ct1 DD HBT.out (q + 16) _ (by omega) (by omega)).mono ?_
      rintro e w' ⟨rfl, rfl⟩
      obtain ⟨y2, hy2⟩ : ∃ y, y = wordAt DD (q + 16) := ⟨_, rfl⟩
      rw [← hy2]
      have HY2 := Lib.hid hy2
      clear hy2
      go_wp2_with fail
      refine (rword_any _ w2 at1 tn ct1 DD HBT.out (q + 24) _ (by omega) (by omega)).mono ?_
      rintro e w' ⟨rfl, rfl⟩
      obtain ⟨y3, hy3⟩ : ∃ y, y = wordAt DD (q + 24) := ⟨_, rfl⟩
      rw [← hy3]
      have HY3 := Lib.hid hy3
      clear hy3
      go_wp2_with fail
      obtain ⟨M, hM⟩ : ∃ M, M = w2.heap.size := ⟨_, rfl⟩
      obtain ⟨W3, hW3⟩ : ∃ v, v = w2.alloc (.cells #[.int .u64 y0, .int .u64 y1, .int .u64 y2, .int .u64 y3] 38) := ⟨_, rfl⟩
      rw [← hW3, ← hM]
      have hb3 : Below wr.heap.size wr W3 := by rw [hW3]; exact Bel.alloc HB2.out _
      have hm3 : St4 W3 M 38 ⟨y0, y1, y2, y3⟩ := by rw [hW3, hM]; exact St4.new w2 _ ⟨y0, y1, y2, y3⟩ rfl
      have hs3 : St4 W3 g 38 X := J5.out.below (hb3.block g hglt)
      have hp3 : SliceAt (fun b => wr.heap.size ≤ b ∧ b ≠ M) W3 1 wordR (.slice ap 4 cp) X.list := by
        rw [hW3]
        exact SliceAt.carry HP.out (by decide) (fun b hlt hb => ⟨hb, by omega⟩) (fun b _ hl => Below.heap_alloc _ _ _ hl) (fun _ _ _ h => h)
      have hsz3 : W3.heap.size = M + 1 := by rw [hW3, hM]; simp
      obtain ⟨xa, xb, xc, xd⟩ := X
      have c0 := hs3.cell 0 (by omega)
      have c1 := hs3.cell 1 (by omega)
      have c2 := hs3.cell 2 (by omega)
      have c3 := hs3.cell 3 (by omega)
      have d0 := hm3.cell 0 (by omega)
      have d1 := hm3.cell 1 (by omega)
      have d2 := hm3.cell 2 (by omega)
      have d3 := hm3.cell 3 (by omega)
      simp only [S4.get] at c0 c1 c2 c3 d0 d1 d2 d3
      have hgM : g < M := by omega
      have hW3all : Below w.heap.size w W3 ∧ W3.heap[w.heap.size]? = some (.cells (cellsOf (List.replicate 32 0)) 37 (0, 0)) ∧ BytesAt (fun b => b < w1.heap.size) W3 (.slice at1 tn ct1) DD ∧ w1.heap.size ≤ W3.heap.size := by
        have hlo := (Array.getElem?_eq_some_iff.1 J2.out).1
        have hJ4 := J4.out
        exact ⟨J1.out.trans (hb3.mono J1.out.size), (hb3.block _ hlo).trans J2.out, BytesAt.below J3.out hb3, by omega⟩
      have hwo : wordsOf (DD.drop q) = ⟨y0, y1, y2, y3⟩ := by
        have e : ∀ k, wordAt (DD.drop q) k = wordAt DD (q + k) := fun k => by unfold wordAt; rw [List.drop_drop]
        unfold wordsOf
        rw [e 0, e 8, e 16, e 24, ← HY0.out, ← HY1.out, ← HY2.out, ← HY3.out]
      have habs : ∀ X', X' = mixedS ⟨xa, xb, xc, xd⟩ ⟨y0, y1, y2, y3⟩ → absorb X' (DD.drop (q + 32)) = absorb begunS DD := fun X' hX' => by
        have h1 := J6.out
        rw [absorb_step _ _ (by rw [List.length_drop, ← HTN.out]; omega), hwo, List.drop_drop] at h1
        rw [hX']; exact h1
      have HW3A := Lib.hid hW3all
      have HABS := Lib.hid habs
      clear hW3all hwo habs
      have HB3 := Lib.hid hb3
      have HM3 := Lib.hid hm3
      have HP3 := Lib.hid hp3
      have HSZ3 := Lib.hid hsz3
      have HM := Lib.hid hM
      clear hW3 hb3 hm3 hs3 hp3 hsz3 hM HP HB2 HBT
      go_quiet (fail)
      go_wp2
      go_quiet (fail)
      go_wp2
      go_quiet (fail)
      go_wp2
      go_quiet (fail)
      go_wp2
      obtain ⟨P0, hP0⟩ : ∃ P : S4, P = S4.xor ⟨xa, xb, xc, xd⟩ ⟨y0, y1, y2, y3⟩ := ⟨_, rfl⟩
      have HP0 := Lib.hid hP0
      have HS0 : Hid (∀ n1 n2 n3 n4, SameW W3 ((((W3.drewN n1).drewN n2).drewN n3).drewN n4)) := Lib.hid (fun _ _ _ _ => ⟨rfl, rfl, rfl, rfl⟩)
      clear hP0 c0 c1 c2 c3 d0 d1 d2 d3
      go_loopw [9, 10, 11, 12, 13, 14, 15] (fun av bv cv dv kv rv ev wr => ∃ (r : Nat), r ≤ 8 ∧ av = .int .u64 (rounds ⟨y0, y1, y2, y3⟩ P0 r).a ∧ bv = .int .u64 (rounds ⟨y0, y1, y2, y3⟩ P0 r).b ∧ cv = .int .u64 (rounds ⟨y0, y1, y2, y3⟩ P0 r).c ∧ dv = .int .u64 (rounds ⟨y0, y1, y2, y3⟩ P0 r).d ∧ kv = .int .u64 (kayAt r) ∧ rv = .int .i64 r ∧ Hid (SameW W3 wr)) (fun _ _ _ _ _ rv _ _ => 8 - (intOf rv).toNat)
      case atStart => exact ⟨0, by omega, by rw [HP0.out]; rfl, by rw [HP0.out]; rfl, by rw [HP0.out]; rfl, by rw [HP0.out]; rfl, rfl, rfl, HS0.out _ _ _ _⟩
      case round =>
        obtain ⟨r, hr8, rfl, rfl, rfl, rfl, rfl, rfl, HSW⟩ := hrel
        obtain ⟨Z, hZ⟩ : ∃ Z, Z = rounds ⟨y0, y1, y2, y3⟩ P0 r := ⟨_, rfl⟩
        rw [← hZ]
        obtain ⟨za, zb, zc, zd⟩ := Z
        have HZ := Lib.hid hZ
        clear hZ
        have hm4 : St4 wr M 38 ⟨y0, y1, y2, y3⟩ := HM3.out.below (by rw [HSW.out.heap])
        by_cases hr : r < 8
        · have gm := hm4.cell (r % 4) (Nat.mod_lt _ (by omega))
          obtain ⟨y, hy⟩ : ∃ y, y = S4.get ⟨y0, y1, y2, y3⟩ (r % 4) := ⟨_, rfl⟩
          rw [← hy] at gm
          have HY := Lib.hid hy
          obtain ⟨ky, hky⟩ : ∃ ky, ky = kay r := ⟨_, rfl⟩
          have hks := kayAt_step r
          rw [← hky] at hks
          obtain ⟨k0, hk0⟩ : ∃ k0, k0 = kayAt r := ⟨_, rfl⟩
          rw [← hk0] at hks ⊢
          have HK := Lib.hid hky
          have HKS := Lib.hid hks
          have hr0 : (0 : Int) ≤ (r : Int) := by omega
          have hr1 : (r : Int) < 8 := by omega
          clear hy hky hks hk0 hm4
          go_wp2_with fail
          rw [HKS.out]
          obtain ⟨a1, ha1⟩ : ∃ v, v = IntKind.u64.wrap (IntKind.u64.wrap (IntKind.u64.wrap (za + zb) + y) + ky) := ⟨_, rfl⟩
          rw [← ha1]
          have Ha1 := Lib.hid ha1
          clear ha1
          refine (rrot_32 _ _ (bits_u64_range _ _ _).1 (bits_u64_range _ _ _).2).mono ?_
          rintro e w5 ⟨rfl, k32, rfl⟩
          obtain ⟨d1, hd1⟩ : ∃ v, v = rotW (bits .xor .u64 zd a1) 32 := ⟨_, rfl⟩
          rw [← hd1]
          have Hd1 := Lib.hid hd1
          clear hd1
          go_wp2_with fail
          obtain ⟨c1, hc1⟩ : ∃ v, v = IntKind.u64.wrap (zc + d1) := ⟨_, rfl⟩
          rw [← hc1]
          have Hc1 := Lib.hid hc1
          clear hc1
          refine (rrot_24 _ _ (bits_u64_range _ _ _).1 (bits_u64_range _ _ _).2).mono ?_
          rintro e w5 ⟨rfl, k24, rfl⟩
          obtain ⟨b1, hb1⟩ : ∃ v, v = rotW (bits .xor .u64 zb c1) 24 := ⟨_, rfl⟩
          rw [← hb1]
          have Hb1 := Lib.hid hb1
          clear hb1
          go_wp2_with fail
          obtain ⟨a2, ha2⟩ : ∃ v, v = IntKind.u64.wrap (a1 + b1) := ⟨_, rfl⟩
          rw [← ha2]
          have Ha2 := Lib.hid ha2
          clear ha2
          refine (rrot_16 _ _ (bits_u64_range _ _ _).1 (bits_u64_range _ _ _).2).mono ?_
          rintro e w5 ⟨rfl, k16, rfl⟩
          obtain ⟨d2, hd2⟩ : ∃ v, v = rotW (bits .xor .u64 d1 a2) 16 := ⟨_, rfl⟩
          rw [← hd2]
          have Hd2 := Lib.hid hd2
          clear hd2
          go_wp2_with fail
          obtain ⟨c2, hc2⟩ : ∃ v, v = IntKind.u64.wrap (c1 + d2) := ⟨_, rfl⟩
          rw [← hc2]
          have Hc2 := Lib.hid hc2
          clear hc2
          refine (rrot_63 _ _ (bits_u64_range _ _ _).1 (bits_u64_range _ _ _).2).mono ?_
          rintro e w5 ⟨rfl, k63, rfl⟩
          obtain ⟨b2, hb2⟩ : ∃ v, v = rotW (bits .xor .u64 b1 c2) 63 := ⟨_, rfl⟩
          rw [← hb2]
          have Hb2 := Lib.hid hb2
          clear hb2
          have hround : rounds ⟨y0, y1, y2, y3⟩ P0 (r + 1) = ⟨b2, c2, d2, a2⟩ := by
            show round ⟨y0, y1, y2, y3⟩ r (rounds ⟨y0, y1, y2, y3⟩ P0 r) = _
            rw [← HZ.out]
            unfold round addW xorW
            simp only []
            rw [← HY.out, ← HK.out, ← add_assoc_u64, ← Ha1.out, ← Hd1.out, ← Hc1.out, ← Hb1.out, ← Ha2.out, ← Hd2.out, ← Hc2.out, ← Hb2.out]
          have HRD := Lib.hid hround
          have HKA : Hid (kayAt (r + 1) = ky) := Lib.hid HK.out.symm
          clear hround gm
          go_wp2
          go_roundw
          case rel => exact ⟨r + 1, by omega, by rw [HRD.out], by rw [HRD.out], by rw [HRD.out], by rw [HRD.out], by rw [HKA.out], num_eq (by omega), Lib.hid (HSW.out.drewN _)⟩
          case measure => simp [intOf]; omega
        · obtain rfl : r = 8 := by omega
          have hpw := HSW.out.slice (by decide) HP3.out
          rcases SliceAt.split hpw with ⟨h00, _⟩ | ⟨pb, po, rfl, -, -, hFp⟩
          · cases h00
          have p0 := words_cells hpw 0 (by omega)
          have p1 := words_cells hpw 1 (by omega)
          have p2 := words_cells hpw 2 (by omega)
          have p3 := words_cells hpw 3 (by omega)
          simp only [S4.get, Nat.add_zero] at p0 p1 p2 p3
          clear hpw hr hm4
          go_wp2_with fail
          go_region_held3 (fun w' => w'.cell? ⟨pb, po, none⟩ = some (.int .u64 xa) ∧ w'.cell? ⟨pb, po + 1, none⟩ = some (.int .u64 xb) ∧ w'.cell? ⟨pb, po + 2, none⟩ = some (.int .u64 xc) ∧ w'.cell? ⟨pb, po + 3, none⟩ = some (.int .u64 xd)) (go_keep) (fail)
          obtain ⟨WE, hWE⟩ : ∃ v, v = (wr.alloc (.cells #[.int .u64 (bits .xor .u64 za xa), .int .u64 (bits .xor .u64 zb xb), .int .u64 (bits .xor .u64 zc xc), .int .u64 (bits .xor .u64 zd xd)] 38)).drew := ⟨_, rfl⟩
          have hXm : (S4.xor ⟨za, zb, zc, zd⟩ ⟨xa, xb, xc, xd⟩) = mixedS ⟨xa, xb, xc, xd⟩ ⟨y0, y1, y2, y3⟩ := by
            unfold mixedS
            rw [← HP0.out, ← HZ.out]
          have HNE : Hid (Below w.heap.size w WE ∧ WE.heap[w.heap.size]? = some (.cells (cellsOf (List.replicate 32 0)) 37 (0, 0)) ∧ BytesAt (fun b => b < w1.heap.size) WE (.slice at1 tn ct1) DD ∧ w1.heap.size ≤ wr.heap.size ∧ St4 WE wr.heap.size 38 (S4.xor ⟨za, zb, zc, zd⟩ ⟨xa, xb, xc, xd⟩) ∧ absorb (S4.xor ⟨za, zb, zc, zd⟩ ⟨xa, xb, xc, xd⟩) (DD.drop (q + 32)) = absorb begunS DD ∧ (S4.xor ⟨za, zb, zc, zd⟩ ⟨xa, xb, xc, xd⟩).ok) := by
            obtain ⟨g1, g2, g3, g4⟩ := HW3A.out
            have hsw := HSW.out.below
            have hb4 : Below W3.heap.size W3 WE := by rw [hWE]; exact (Bel.alloc hsw _).drew
            have hlo := (Array.getElem?_eq_some_iff.1 g2).1
            refine ⟨g1.trans (hb4.mono g1.size), (hb4.block _ hlo).trans g2, BytesAt.below g3 hb4, by rw [HSW.out.heap]; exact g4, ?_, HABS.out _ hXm, by rw [hXm]; exact mixedS_ok _ _⟩
            rw [hWE]
            exact St4.new wr _ (S4.xor ⟨za, zb, zc, zd⟩ ⟨xa, xb, xc, xd⟩) rfl
          have HWE := Lib.hid hWE
          clear hWE hXm p0 p1 p2 p3
          go_wp2_with fail
          rw [← HWE.out]
          go_roundw
          case rel => exact ⟨_, q + 32, _, rfl, num_eq (by omega), by omega, by omega, HNE⟩
          case measure => simp [intOf]; omega
    · obtain rfl : q = tn := by omega
      have hfin : outS X = R := by
        rw [HR.out]
        unfold digestOf
        rw [← HDD.out, ← j6, HTN.out, List.drop_length, absorb_done X [] (by simp)]
      have HFIN := Lib.hid hfin
      have J1 := Lib.hid j1
      have J2 := Lib.hid j2
      have J5 := Lib.hid j5
      have J7 := Lib.hid j7
      have hgw : w.heap.size < g := by omega
      clear hfin j1 j2 j3 j5 j6 j7 HS
      go_wp2_with fail
      obtain ⟨L, hL⟩ : ∃ L, L = outS X := ⟨_, rfl⟩
      have hLl : L.length = 32 := by rw [hL]; exact outS_length _
      obtain ⟨D, hD⟩ : ∃ D, D = wr.heap.size := ⟨_, rfl⟩
      obtain ⟨W9, hW9⟩ : ∃ v, v = wr.alloc (.cells #[.int .u8 0, .int .u8 0, .int .u8 0, .int .u8 0, .int .u8 0, .int .u8 0, .int .u8 0, .int .u8 0, .int .u8 0, .int .u8 0, .int .u8 0, .int .u8 0, .int .u8 0, .int .u8 0, .int .u8 0, .int .u8 0, .int .u8 0, .int .u8 0, .int .u8 0, .int .u8 0, .int .u8 0, .int .u8 0, .int .u8 0, .int .u8 0, .int .u8 0, .int .u8 0, .int .u8 0, .int .u8 0, .int .u8 0, .int .u8 0, .int .u8 0, .int .u8 0] 37) := ⟨_, rfl⟩
      rw [← hW9, ← hD]
      have hgD : g < D := by rw [hD]; exact J5.out.lt
      have HI9 : Hid (Below w.heap.size w W9 ∧ W9.heap[w.heap.size]? = some (.cells (cellsOf (List.replicate 32 0)) 37 (0, 0)) ∧ W9.heap[D]? = some (.cells (cellsOf (filling L 0)) 37 (0, 0)) ∧ St4 W9 g 38 X) := by
        rw [hW9, hD, filling_zero, hLl]
        have hlo := (Array.getElem?_eq_some_iff.1 J2.out).1
        exact ⟨Bel.alloc J1.out _, (Below.heap_alloc _ _ _ hlo).trans J2.out, heap_alloc_new wr _, J5.out.alloc _⟩
      have HL := Lib.hid hL
      have HLL := Lib.hid hLl
      clear hW9 hD hL hLl J1 J2 J5
      go_loopw [17] (fun i wr => ∃ k : Nat, k ≤ 32 ∧ i = .int .i64 k ∧ Hid (Below w.heap.size w wr ∧ wr.heap[w.heap.size]? = some (.cells (cellsOf (List.replicate 32 0)) 37 (0, 0)) ∧ wr.heap[D]? = some (.cells (cellsOf (filling L k)) 37 (0, 0)) ∧ St4 wr g 38 X)) (fun i _ => 32 - (intOf i).toNat)
      case atStart => exact ⟨0, by omega, rfl, HI9⟩
      case round =>
        obtain ⟨k, hk, rfl, HS⟩ := hrel
        by_cases hlt : k < 32
        · obtain ⟨g1, g2, g3, g4⟩ := HS.out
          have hkL : k < L.length := by rw [HLL.out]; exact hlt
          obtain ⟨xk, hxk⟩ : ∃ xk : Nat, X.get (k / 8) = (xk : Int) := ⟨(X.get (k / 8)).toNat, by have := (J7.out (k / 8) (by omega)).1; omega⟩
          have gc := g4.cell (k / 8) (by omega)
          rw [hxk] at gc
          have gd : wr.cell? ⟨D, k, none⟩ = some (.int .u8 (((filling L k)[k]'(by rw [filling_length]; exact hkL)).toNat : Int)) := by
            rw [cell_of_row _ _ _ _ _ _ g3, cellsOf_get]
          have gf := frozen_of_row wr D k _ _ g3
          have hval : (.int .u8 ((xk : Int) / 2 ^ (56 - 8 * (k % 8)) % 256) : Value) = .int .u8 ((L[k]'hkL).toNat : Int) := by
            rw [out_cell X k hlt xk hxk]
            congr 3
            simp only [HL.out]
          have HV := Lib.hid hval
          have hxb : (0 : Int) ≤ (xk : Int) := by omega
          have hk0 : (0 : Int) ≤ (k : Int) := by omega
          have hk1 : (k : Int) < 32 := by omega
          have hk8 : (k : Int) / 8 < 4 := by omega
          have hk80 : (0 : Int) ≤ (k : Int) / 8 := by omega
          have hkm : (k : Int) % 8 < 8 := by omega
          have hkm0 : (0 : Int) ≤ (k : Int) % 8 := by omega
          clear hval hxk g1 g2 g3 g4
          go_wp2_with fail
          go_roundw
          case rel =>
            obtain ⟨g1, g2, g3, g4⟩ := HS.out
            refine ⟨k + 1, by omega, num_eq (by omega), g1.setCell (by show w.heap.size ≤ D; omega) _, ?_, ?_, g4.far (by omega) _⟩
            · rw [Below.heap_setCell _ _ _ _ (by show w.heap.size ≠ D; omega)]; exact g2
            · rw [HV.out, blk_setCell g3, cellsOf_set, filling_step _ _ hkL]
          case measure => simp [intOf]; omega
        · obtain rfl : k = 32 := by omega
          obtain ⟨g1, g2, g3, g4⟩ := HS.out
          have hf := filling_all L
          rw [HLL.out] at hf
          rw [hf] at g3
          have hLs : (cellsOf L).size = 32 := by rw [cellsOf_size, HLL.out]
          have G1 := Lib.hid g1
          have G2 := Lib.hid g2
          have G3 := Lib.hid g3
          have HLS := Lib.hid hLs
          clear g1 g2 g3 g4 hf HS hLs
          go_wp2_with (first
            | (refine wpList_load_row rfl 37 (.tmp 16) rfl D rfl 37 (cellsOf L) (0, 0) (.array 32 5) G3.out underlyingDig rfl (by rw [HLS.out]; exact infoDig) ?_)
            | (refine wpList_store_row rfl 37 (.tmp 2) (.tmp 176) rfl w.heap.size (cellsOf L) rfl rfl 37 (cellsOf (List.replicate 32 0)) G2.out (by rw [HLS.out]; exact infoDig) (by rw [HLS.out]; rfl) (cellsOf_one L) ?_))
          have hr2 : (wr.setRow w.heap.size (cellsOf L)).heap[w.heap.size]? = some (.cells (cellsOf L) 37 (0, 0)) := setRow_heap wr _ _ _ _ _ G2.out
          refine bodyPost_ret (v := .agg (cellsOf L)) (results_cell_row rfl _ _ w.heap.size 37 (cellsOf L) (0, 0) (.array 32 5) rfl hr2 underlyingDig rfl (by rw [HLS.out]; exact infoDig)) rfl ?_
          refine ⟨?_, below_setRow G1.out (Nat.le_refl _) _⟩
          rw [HL.out, HFIN.out]
end Go.Proofs.Ytndkkgkcbbmnpaa
namespace Go.Pg
open Go.RowKit
/-- no list among them -/
def flat (l : List It) : Bool := l.all (fun y => !y.isList)
/-- a list of texts that rise -/
def readOk (x : It) : Bool := flat x.items && (x.isList && rising (x.items.map It.bytes))
theorem flat_take_succ (l : List It) (k : Nat) (h : k < l.length) : flat (l.take (k + 1)) = (flat (l.take k) && !l[k].isList) := by
  unfold flat
  rw [List.take_succ_eq_append_getElem h, List.all_append]; simp only [List.all_cons, List.all_nil, Bool.and_true]
theorem flat_take (l : List It) (k : Nat) (h : flat l = true) : flat (l.take k) = true := by
  unfold flat at h ⊢
  rw [List.all_eq_true] at h ⊢
  exact fun x hx => h x (List.mem_of_mem_take hx)
theorem flat_no (l : List It) (k : Nat) (h : k < l.length) (hl : l[k].isList = true) : flat l = false := by
  cases hf : flat l with
  | false => rfl
  | true =>
    have h1 := flat_take l (k + 1) hf
    rw [flat_take_succ l k h, hl] at h1
    simp at h1
end Go.Pg
namespace Go.Proofs.Ytndkkgkcbbmnpaa
open Go.RowKit Go.Pg
theorem underlyingRows : Try.prog.underlying 22 = some (.slice 25) := Try.underlying22
theorem infoRow : (Try.prog.info? 25).map (fun i => (i.zero, i.size, i.bytes)) = some (some (.slice none 0 0), 1, 24) := by kernel_rfl

/-- texts that rise, or none -/
def Readd (F : Nat → Prop) (w : World) (x : It) (e : Ending) (w' : World) : Prop :=
  ∃ v, e = .returned (.tuple #[v, .bool (readOk x)]) ∧ (readOk x = true → RowsAt (fun b => F b ∨ w.heap.size ≤ b) w' v (x.items.map It.bytes)) ∧ Below w.heap.size w w'

set_option maxRecDepth 100000 in
set_option maxHeartbeats 1000000 in
theorem read_any (F : Nat → Prop) (w : World) (d : Nat) (x : It) (il : Bool) (a1 a2 : Option Addr) (n1 c1 n2 c2 : Nat) (h : ItemAt F w (d + 1) [.bool il, .slice a1 n1 c1, .slice a2 n2 c2] x) (hlen : x.items.length ≤ 1099511627776) :
    Calls Try.prog 48 #[.agg #[.bool il, .slice a1 n1 c1, .slice a2 n2 c2]] w (Readd F w x) := by
  obtain ⟨hil, a1', n1', c1', a2', n2', c2', e1, e2, -, hn⟩ := ItemAt.form h
  simp only [Value.slice.injEq] at e1 e2
  obtain ⟨rfl, rfl, rfl⟩ := e1
  obtain ⟨rfl, rfl, rfl⟩ := e2
  have hits := ItemAt.items h
  replace hits : ItemsAt (fun b => F b ∧ b < w.heap.size) w d (.slice a2 n2 c2) x.items := ItemsAt.carry hits (fun b hb hF => ⟨hF, hb⟩) (fun _ _ _ => rfl)
  obtain ⟨l, hl⟩ : ∃ l, l = x.items := ⟨_, rfl⟩
  rw [← hl] at hits hn hlen
  rw [← hn] at hlen
  obtain ⟨i0, hi, hz0, hz1, hz2⟩ := info_parts infoRow
  have HIL := Lib.hid hil
  have HL := Lib.hid hl
  have HN := Lib.hid hn
  have HITS := Lib.hid hits
  clear hil hl hn hits h
  go_enter Try.func48, Try.ntmps48
  go_wp2
  go_loopw [4, 10] (fun s i wr => ∃ k : Nat, k ≤ n2 ∧ i = .int .i64 k ∧ Hid (flat (l.take k) = true) ∧ Hid (OwnList rowR (fun b => F b ∧ b < w.heap.size) (w.heap.size + 1) wr 25 1 s ((l.take k).map It.bytes)) ∧
      Hid (Below w.heap.size w wr ∧ wr.heap[w.heap.size]? = some (.cells #[.bool il, .slice a1 n1 c1, .slice a2 n2 c2] 65 (0, 0)))) (fun _ i _ => n2 - (intOf i).toNat)
  case atStart => exact ⟨0, Nat.zero_le _, rfl, Lib.hid rfl, OwnList.nil, Bel.alloc (Bel.refl w) _, heap_alloc_new w _⟩
  case round =>
    obtain ⟨k, hk, rfl, HFL, HO, HB⟩ := hrel
    have hN := HN.out
    by_cases hlt : k < n2
    · rcases SliceAt.split HITS.out with ⟨_, h0⟩ | ⟨b, o, rfl, -, -, -⟩
      · omega
      have hwr := ItemsAt.below HITS.out HB.out.1
      obtain ⟨x1, y1, z1, x2, y2, z2, g0, g1, g2, git⟩ := ItemsAt.cell hwr k (by omega)
      have htk : (l.take (k + 1)).map It.bytes = (l.take k).map It.bytes ++ [(l[k]'(by omega)).bytes] := by
        rw [List.take_succ_eq_append_getElem (show k < l.length by omega), List.map_append]; rfl
      have hfl := flat_take_succ l k (by omega)
      have hno := flat_no l k (by omega)
      obtain ⟨y, hy⟩ : ∃ y, y = l[k]'(by omega) := ⟨_, rfl⟩
      rw [← hy] at g0 git htk hfl hno
      have HT := Lib.hid htk
      have hby := ItemAt.bytes git
      obtain ⟨q, hq⟩ : ∃ q, q = y.isList := ⟨_, rfl⟩
      rw [← hq] at g0 hfl hno
      obtain ⟨L, hL⟩ : ∃ L, L = (l.take k).map It.bytes := ⟨_, rfl⟩
      rw [← hL] at HO HT
      have hLl : L.length = k := by rw [hL]; simp; omega
      have HLL := Lib.hid hLl
      clear hwr hy htk hL hLl hN git hq
      cases q with
      | true =>
        have HNO := Lib.hid (hno rfl)
        clear hno hfl hby
        go_wp2_with fail
        go_ret2
        have hr : readOk x = false := by unfold readOk; rw [← HL.out, HNO.out]; rfl
        exact ⟨.slice none 0 0, by rw [hr]; rfl, (fun h => by rw [hr] at h; cases h), HB.out.1.alloc HB.out.1.size _⟩
      | false =>
        have HFL1 : Hid (flat (l.take (k + 1)) = true) := Lib.hid (by rw [hfl, HFL.out]; rfl)
        have hsw := (Array.getElem?_eq_some_iff.1 HB.out.2).1
        have howr := (HO.out).own
        have HB1 : Hid (Below w.heap.size w (wr.alloc (.cells #[.bool false, .slice x1 y1 z1, .slice x2 y2 z2] 65)) ∧ (wr.alloc (.cells #[.bool false, .slice x1 y1 z1, .slice x2 y2 z2] 65)).heap[w.heap.size]? = some (.cells #[.bool il, .slice a1 n1 c1, .slice (some ⟨b, o, none⟩) n2 c2] 65 (0, 0))) :=
          Lib.hid ⟨Bel.alloc HB.out.1 _, (Below.heap_alloc _ _ _ hsw).trans HB.out.2⟩
        have hO1 := (HO.out).call carriedRow (Bel.alloc (Bel.refl wr) (.cells #[.bool false, .slice x1 y1 z1, .slice x2 y2 z2] 65))
        have hrow : rowR (fun b => F b ∧ b < w.heap.size) (wr.alloc (.cells #[.bool false, .slice x1 y1 z1, .slice x2 y2 z2] 65)) [.slice x1 y1 z1] y.bytes := ⟨_, rfl, BytesAt.below hby (Bel.alloc (Bel.refl wr) _)⟩
        obtain ⟨R, hR1, hRo, hRs, hRn⟩ := hO1.push carriedRow hrow rfl (by decide) (fun b' _ hb' => ⟨hb', fun e => by have := (howr b' e).1; have := hb'.2; omega⟩) 25
        have hle : (L.length + [y.bytes].length) * 24 ≤ 140737488355328 := by rw [HLL.out]; simp; omega
        have hbase : w.heap.size + 1 ≤ ((wr.alloc (.cells #[.bool false, .slice x1 y1 z1, .slice x2 y2 z2] 65)).alloc (.cells [.slice x1 y1 z1].toArray 25)).heap.size := by simp; omega
        simp only [World.size_alloc] at hRs
        have HRN := Lib.hid hRn
        have HRO := Lib.hid hRo
        have HRS := Lib.hid hRs
        have HR1 := Lib.hid hR1
        clear hRn hO1 howr hRo hRs hR1 hrow hno hfl hby
        go_wp2_with (at_builtin; refine wpList_append_at rfl (.tmp 16) (.tmp 19) 22 rfl (w.heap.size + 1) 25 i0 (.slice none 0 0) 1 24 underlyingRows hi hz0 hz1 hz2 rfl (by decide) (by decide) HR1.out _ L rfl HRO.out _ [y.bytes] (fun _ => True) rfl HRS.out hle hbase ?_; intro v' w2 ho hg hm)
        have HOn := Lib.hid (HRN.out _ _ ho hg hm)
        have hown := (HRO.out).own
        have HB2 : Hid (Below w.heap.size w w2 ∧ w2.heap[w.heap.size]? = some (.cells #[.bool il, .slice a1 n1 c1, .slice (some ⟨b, o, none⟩) n2 c2] 65 (0, 0))) := by
          have hb1 := HB1.out.1
          have hbx := HB1.out.2
          have hlt' := (Array.getElem?_eq_some_iff.1 hbx).1
          refine ⟨(Bel.alloc hb1 _).grown hg (by simp; omega) (fun k hk => by have := (hown k hk).1; omega), ?_⟩
          rw [hg.block _ (by simp; omega) (fun e => by have := (hown _ e.symm).1; omega), Below.heap_alloc _ _ _ hlt']
          exact hbx
        clear ho hg hm hown
        go_roundw
        case rel => exact ⟨k + 1, by omega, num_eq (by omega), HFL1, by rw [HT.out]; exact HOn.out, HB2.out⟩
        case measure => simp [intOf]; omega
    · obtain rfl : k = n2 := by omega
      have hO := HO.out
      have hfl := HFL.out
      rw [List.take_of_length_le (by omega)] at hO hfl
      have hits := hO.at carriedRow (G' := fun b => F b ∧ b < w.heap.size ∨ w.heap.size + 1 ≤ b) (fun _ h _ => .inl h) (fun b h _ => .inr h) (by decide)
      obtain ⟨va, vc, hvv, -, -, -⟩ := SliceAt.len hits
      have hll : (l.map It.bytes).length ≤ 1152921504606846976 := by simp; omega
      obtain ⟨q0, q1, q2⟩ := cells3 HB.out.2
      have hsw := (Array.getElem?_eq_some_iff.1 HB.out.2).1
      have HFL' := Lib.hid hfl
      have HITS' := Lib.hid hits
      clear hO hfl hits hN hvv
      cases il with
      | false =>
        go_wp2_with fail
        go_ret2
        have hr : readOk x = false := by unfold readOk; rw [← HIL.out]; simp
        exact ⟨_, by rw [hr]; rfl, (fun h => by rw [hr] at h; cases h), HB.out.1⟩
      | true =>
        go_wp2_with fail
        refine (rises_any _ wr _ _ HITS'.out hll).mono ?_
        rintro e w1 ⟨rfl, hb1⟩
        have hr : readOk x = rising (l.map It.bytes) := by unfold readOk; rw [← HIL.out, ← HL.out, HFL'.out]; rfl
        have HR := Lib.hid hr
        have HB1 := Lib.hid hb1
        clear hr hb1
        go_wp2_with fail
        go_ret2
        refine ⟨_, by rw [HR.out]; rfl, fun h => ?_, Bel.call HB.out.1 HB1.out⟩
        rw [← HL.out]
        exact RowsAt.carry (RowsAt.below HITS'.out HB1.out) (fun b _ hb => by rcases hb with hb | hb; exact .inl hb.1; exact .inr (by omega)) (fun _ _ _ => rfl)
end Go.Proofs.Ytndkkgkcbbmnpaa
namespace Go.Pg
/-- so many lists in one another -/
def It.shallow : Nat → It → Prop
  | _, .text _ => True
  | 0, .list _ => False
  | f + 1, .list l => ∀ y, y ∈ l → It.shallow f y
theorem whole_le_wholes (l : List It) (y : It) (h : y ∈ l) : y.whole ≤ It.wholes l := by
  induction l with
  | nil => cases h
  | cons x l ih =>
    simp only [It.wholes]
    rcases List.mem_cons.1 h with rfl | h
    · omega
    · have := ih h; omega
theorem fits_of_shallow : ∀ (f : Nat) (x : It), It.shallow f x → x.body ≤ 16777215 → It.fits f x
  | f, .text b, _, hb => by unfold It.fits; simpa [It.body] using hb
  | 0, .list l, h, _ => by unfold It.shallow at h; exact h.elim
  | f + 1, .list l, h, hb => by
    unfold It.shallow at h
    unfold It.fits
    simp only [It.body] at hb
    refine ⟨hb, fun y hy => fits_of_shallow f y (h y hy) ?_⟩
    have h1 := It.body_le_whole y
    have h2 := whole_le_wholes l y hy
    omega
theorem looks_all (deep : Nat) : ∀ (l : List It) (wt : Nat), (It.looks l deep wt).2 = 0 → ∀ y, y ∈ l → ∃ wt', (y.look deep wt').2 = 0
  | [], _, _, y, hy => by cases hy
  | x :: l, wt, h, y, hy => by
    simp only [It.looks] at h
    by_cases h0 : (x.look deep wt).2 = 0
    · rw [if_pos h0] at h
      rcases List.mem_cons.1 hy with rfl | hy
      · exact ⟨wt, h0⟩
      · exact looks_all deep l _ h y hy
    · rw [if_neg h0] at h; exact absurd h h0
theorem shallow_of_look : ∀ (f : Nat) (x : It) (deep wt : Nat), deep + f = 8 → (x.look deep wt).2 = 0 → It.shallow f x
  | f, .text b, _, _, _, _ => by unfold It.shallow; trivial
  | 0, .list l, deep, wt, hd, h => by
    obtain rfl : deep = 8 := by omega
    simp [It.look] at h
  | f + 1, .list l, deep, wt, hd, h => by
    unfold It.shallow
    have hlooks : ∃ wt', (It.looks l (deep + 1) wt').2 = 0 := by
      rw [look_list_eq] at h
      unfold lookOn at h
      by_cases h0 : (lookHead deep wt).2 = 0
      · rw [if_pos h0] at h; exact ⟨_, h⟩
      · rw [if_neg h0] at h; exact absurd h h0
    obtain ⟨wt', hl⟩ := hlooks
    intro y hy
    obtain ⟨wt2, h2⟩ := looks_all (deep + 1) l wt' hl y hy
    exact shallow_of_look f y (deep + 1) wt2 (by omega) h2
theorem looks_ok (deep : Nat) : ∀ (l : List It) (wt : Nat), (∀ y, y ∈ l → ∀ wt, wt + y.whole ≤ 16777215 → (y.look deep wt).2 = 0) → wt + It.wholes l ≤ 16777215 → (It.looks l deep wt).2 = 0
  | [], wt, _, _ => by simp [It.looks]
  | x :: l, wt, hall, h => by
    simp only [It.wholes] at h
    simp only [It.looks]
    have hx := hall x (List.mem_cons_self ..) wt (by omega)
    rw [if_pos hx]
    have hle := It.look_le x deep wt
    exact looks_ok deep l _ (fun y hy => hall y (List.mem_cons_of_mem _ hy)) (by omega)
theorem look_ok : ∀ (f : Nat) (x : It) (deep wt : Nat), deep + f = 8 → 1 ≤ deep → It.fits f x → wt + x.whole ≤ 16777215 → (x.look deep wt).2 = 0
  | f, .text b, deep, wt, _, _, _, h => by
    have h1 := It.body_le_whole (.text b)
    have h2 := It.whole_pos (.text b)
    simp only [It.body] at h1
    simp only [It.look]; rw [if_neg (by omega)]
  | 0, .list l, deep, wt, _, _, hf, h => by unfold It.fits at hf; exact hf.elim
  | f + 1, .list l, deep, wt, hd, h1, hf, h => by
    unfold It.fits at hf
    have h3 : It.wholes l + 1 ≤ (It.list l).whole := by
      simp only [It.whole]; exact sz_ge _
    simp only [It.look]
    rw [if_neg (by omega), if_neg (by omega), if_neg (by omega)]
    exact looks_ok (deep + 1) l (wt + 1) (fun y hy wt' h' => look_ok f y (deep + 1) wt' (by omega) (by omega) (hf.2 y hy) h') (by omega)
theorem encode_ok (x : It) (h : It.fits 8 x) : x.encode = (x.enc, 0) := by
  have hb : x.body ≤ 16777215 := by
    cases x with
    | text b => unfold It.fits at h; simpa [It.body] using h
    | list l => unfold It.fits at h; simpa [It.body] using h.1
  have hl : (x.look 0 0).2 = 0 := by
    cases x with
    | text b =>
      simp only [It.body] at hb
      simp only [It.look]; rw [if_neg (by omega)]
    | list l =>
      unfold It.fits at h
      simp only [It.body] at hb
      simp only [It.look]
      rw [if_neg (by omega), if_pos trivial, if_neg (by omega)]
      exact looks_ok 1 l 0 (fun y hy wt' h' => look_ok 7 y 1 wt' (by omega) (by omega) (h.2 y hy) h') (by omega)
  unfold It.encode
  rw [if_neg (by simp [hl]), if_neg (by omega)]
theorem encode_fits (x : It) (h : x.encode.2 = 0) : It.fits 8 x := by
  unfold It.encode at h
  by_cases h1 : (x.look 0 0).2 ≠ 0
  · rw [if_pos h1] at h; exact absurd h h1
  · rw [if_neg h1] at h
    by_cases h2 : 16777215 < x.body
    · rw [if_pos h2] at h; cases h
    · exact fits_of_shallow 8 x (shallow_of_look 8 x 0 0 rfl (by omega)) (by omega)

/-- the two lists of a witness' item -/
def part (x : It) (i : Nat) : List (List UInt8) := (x.items.getD i (.text [])).items.map It.bytes
/-- reading a witness -/
def witDecode (bs : List UInt8) : List (List UInt8) × List (List UInt8) × Nat :=
  if (rdWhole bs).1 = 0 ∧ (rdWhole bs).2.isList = true ∧ (rdWhole bs).2.items.length = 2 ∧ readOk ((rdWhole bs).2.items.getD 0 (.text [])) = true ∧ readOk ((rdWhole bs).2.items.getD 1 (.text [])) = true then
    (part (rdWhole bs).2 0, part (rdWhole bs).2 1, 0) else ([], [], 210)
theorem texts_of_flat (l : List It) (h : flat l = true) : (l.map It.bytes).map It.text = l := by
  unfold flat at h
  rw [List.all_eq_true] at h
  rw [List.map_map]
  conv => rhs; rw [← List.map_id l]
  refine List.map_congr_left fun y hy => ?_
  have := h y hy
  cases y with
  | text b => rfl
  | list l => simp [It.isList] at this
theorem item_of_readOk (x : It) (h : readOk x = true) : x = textsI (x.items.map It.bytes) ∧ rising (x.items.map It.bytes) = true := by
  unfold readOk at h
  simp only [Bool.and_eq_true] at h
  obtain ⟨h1, h2, h3⟩ := h
  refine ⟨?_, h3⟩
  cases x with
  | text b => simp [It.isList] at h2
  | list l => unfold textsI; simp only [It.items] at h1 ⊢; rw [texts_of_flat l h1]
theorem bytes_texts (N : List (List UInt8)) : (textsI N).items.map It.bytes = N := by
  unfold textsI
  simp only [It.items, List.map_map]
  conv => rhs; rw [← List.map_id N]
  rfl
theorem readOk_texts (N : List (List UInt8)) (h : rising N = true) : readOk (textsI N) = true := by
  unfold readOk
  rw [bytes_texts, h]
  simp [textsI, It.items, It.isList, flat]
theorem witDecode_sound (bs : List UInt8) (N C : List (List UInt8)) (h : witDecode bs = (N, C, 0)) : witEncode N C = (bs, 0) ∧ rdWhole bs = (0, witI N C) ∧ It.fits 8 (witI N C) := by
  unfold witDecode at h
  split at h
  · rename_i hc
    obtain ⟨h1, h2, h3, h4, h5⟩ := hc
    obtain ⟨e, x, hx⟩ : ∃ e x, rdWhole bs = (e, x) := ⟨_, _, rfl⟩
    rw [hx] at h h1 h2 h3 h4 h5
    simp only at h h1 h2 h3 h4 h5
    subst h1
    simp only [Prod.mk.injEq, and_true] at h
    obtain ⟨hN, hC⟩ := h
    obtain ⟨hb, hf⟩ := rdWhole_sound bs x hx
    cases x with
    | text b => simp [It.isList] at h2
    | list l =>
      simp only [It.items] at h3 h4 h5
      match l, h3 with
      | [i0, i1], _ =>
        simp only [List.getD_cons_zero, List.getD_cons_succ] at h4 h5
        obtain ⟨e0, r0⟩ := item_of_readOk i0 h4
        obtain ⟨e1, r1⟩ := item_of_readOk i1 h5
        have hN' : i0.items.map It.bytes = N := hN
        have hC' : i1.items.map It.bytes = C := hC
        rw [hN'] at e0 r0
        rw [hC'] at e1 r1
        subst e0 e1
        have hw : witI N C = .list [textsI N, textsI C] := rfl
        refine ⟨?_, by rw [hw]; exact hx, by rw [hw]; exact hf⟩
        unfold witEncode
        rw [r0, r1, hw, encode_ok _ hf, hb]
        rfl
  · simp at h
theorem witDecode_back (bs : List UInt8) (N C : List (List UInt8)) (h : witEncode N C = (bs, 0)) : witDecode bs = (N, C, 0) := by
  unfold witEncode at h
  by_cases hr : (rising N && rising C) = true
  · rw [if_pos hr] at h
    by_cases he : (witI N C).encode.2 = 0
    · rw [if_pos he] at h
      have hf := encode_fits _ he
      have hen := encode_ok _ hf
      rw [hen] at h
      simp only [Prod.mk.injEq, and_true] at h
      subst h
      have hrd := rdWhole_back _ hf
      simp only [Bool.and_eq_true] at hr
      unfold witDecode
      rw [hrd]
      have h0 : (witI N C).items = [textsI N, textsI C] := rfl
      rw [if_pos]
      · unfold part
        rw [h0]
        simp only [List.getD_cons_zero, List.getD_cons_succ, bytes_texts]
      · rw [h0]
        exact ⟨rfl, rfl, rfl, readOk_texts N hr.1, readOk_texts C hr.2⟩
    · rw [if_neg he] at h; simp at h
  · rw [if_neg hr] at h; simp at h
theorem witDecode_cases (bs : List UInt8) : (∃ N C, witDecode bs = (N, C, 0)) ∨ witDecode bs = ([], [], 210) := by
  unfold witDecode
  split
  · exact .inl ⟨_, _, rfl⟩
  · exact .inr rfl
/-- the document's: what bytes may say, if these are its encoding -/
def refDecode (bs : List UInt8) : List (List UInt8) × List (List UInt8) × Nat :=
  if (rdWhole bs).1 = 0 ∧ (rdWhole bs).2.items.length = 2 then
    (if witEncode (part (rdWhole bs).2 0) (part (rdWhole bs).2 1) = (bs, 0) then (part (rdWhole bs).2 0, part (rdWhole bs).2 1, 0) else ([], [], 210)) else ([], [], 210)
theorem refDecode_eq (bs : List UInt8) : refDecode bs = witDecode bs := by
  rcases witDecode_cases bs with ⟨N, C, h⟩ | h
  · rw [h]
    obtain ⟨h1, h2, h3⟩ := witDecode_sound bs N C h
    have hp0 : part (witI N C) 0 = N := by unfold part; exact bytes_texts N
    have hp1 : part (witI N C) 1 = C := by unfold part; exact bytes_texts C
    unfold refDecode
    rw [h2, if_pos ⟨rfl, rfl⟩]
    simp only [hp0, hp1]
    rw [if_pos h1]
  · rw [h]
    unfold refDecode
    split
    · split
      · rename_i h1 h2
        have := witDecode_back _ _ _ h2
        rw [h] at this
        simp at this
      · rfl
    · rfl
end Go.Pg
