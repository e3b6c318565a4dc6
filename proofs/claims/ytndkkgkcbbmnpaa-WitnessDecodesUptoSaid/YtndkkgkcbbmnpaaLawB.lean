/-
  Every text of bytes is read as its witness, or refused; what was told is its owner's (the statement WitnessDecodes, where what is read is of bulk at most 1048576).
-/
import Derived.Test.YtndkkgkcbbmnpaaLawC
import Derived.Test.YtndkkgkcbbmnpaaRWitD
namespace Go.Pg
open Go.RowKit
/-- bytes of some blocks have been written over; all else is as it was -/
structure Spoilt (W wr : World) (lo hi : Nat) : Prop where
  os : wr.os = W.os
  tape : wr.tape = W.tape
  output : wr.output = W.output
  size : wr.heap.size = W.heap.size
  blk : ∀ b, ¬ (lo ≤ b ∧ b < hi) → wr.heap[b]? = W.heap[b]?
  cell : ∀ b o u, W.cell? ⟨b, o, none⟩ = some u → (∃ n m, u = .int .u8 n ∧ wr.cell? ⟨b, o, none⟩ = some (.int .u8 m)) ∨ wr.cell? ⟨b, o, none⟩ = some u
  frz : ∀ b o, W.frozen? ⟨b, o, none⟩ = false → wr.frozen? ⟨b, o, none⟩ = false
theorem Spoilt.refl (W : World) (lo hi : Nat) : Spoilt W W lo hi := ⟨rfl, rfl, rfl, rfl, fun _ _ => rfl, fun _ _ _ h => .inr h, fun _ _ h => h⟩
theorem Spoilt.byte {W wr : World} {lo hi b o : Nat} {n : Int} (h : Spoilt W wr lo hi) (hc : W.cell? ⟨b, o, none⟩ = some (.int .u8 n)) : ∃ m, wr.cell? ⟨b, o, none⟩ = some (.int .u8 m) := by
  rcases h.cell b o _ hc with ⟨_, m, _, h⟩ | h
  · exact ⟨m, h⟩
  · exact ⟨n, h⟩
theorem Spoilt.slice {W wr : World} {lo hi b o : Nat} {a : Option Addr} {n c : Nat} (h : Spoilt W wr lo hi) (hc : W.cell? ⟨b, o, none⟩ = some (.slice a n c)) : wr.cell? ⟨b, o, none⟩ = some (.slice a n c) := by
  rcases h.cell b o _ hc with ⟨_, m, h, _⟩ | h
  · cases h
  · exact h
theorem Spoilt.below {W wr : World} {lo hi : Nat} (h : Spoilt W wr lo hi) : Below lo W wr := ⟨h.os, h.tape, h.output, Nat.le_of_eq h.size.symm, fun k hk => h.blk k (by omega)⟩
theorem Spoilt.store {W wr : World} {lo hi b o : Nat} {n v : Int} (h : Spoilt W wr lo hi) (hb : lo ≤ b ∧ b < hi) (hc : W.cell? ⟨b, o, none⟩ = some (.int .u8 n)) : Spoilt W (wr.setCell ⟨b, o, none⟩ (.int .u8 v)) lo hi := by
  refine ⟨h.os, h.tape, h.output, by rw [← h.size]; simp [World.setCell], fun k hk => ?_, fun b' o' u hu => ?_, fun b' o' hf => ?_⟩
  · rw [Below.heap_setCell _ _ _ _ (by show k ≠ b; omega)]; exact h.blk k hk
  · by_cases he : b' = b ∧ o' = o
    · obtain ⟨rfl, rfl⟩ := he
      rw [hc] at hu
      simp only [Option.some.injEq] at hu
      subst hu
      obtain ⟨m, hm⟩ := h.byte hc
      exact .inl ⟨n, v, rfl, World.cell?_setCell_same _ _ _ hm⟩
    · have hne : (⟨b, o, none⟩ : Addr) ≠ ⟨b', o', none⟩ := fun e => he (by simp only [Addr.mk.injEq, and_true] at e; exact ⟨e.1.symm, e.2.symm⟩)
      rw [World.cell?_setCell_other _ _ _ _ hne]
      exact h.cell b' o' u hu
  · rw [World.frozen?_setCell]; exact h.frz b' o' hf
end Go.Pg
namespace Go.Proofs.Ytndkkgkcbbmnpaa
open Go.ChangeShapes Go.WideShapes Go.ChangeAt Go.RowKit Go.Pg

set_option maxRecDepth 100000 in
set_option maxHeartbeats 4000000 in
theorem decodes_walk (w : World) (ab : Option Addr) (nb cb : Nat) (B : List UInt8) (hB : BytesAt (fun b => b < w.heap.size) w (.slice ab nb cb) B) (hBl : B.length ≤ 1048576) :
    Calls Try.prog 4 #[.slice ab nb cb] w fun e w' => e = .returned (.bool true) ∧ Below w.heap.size w w' := by
  have hnb := (BytesAt.n hB).1
  obtain ⟨N, C, d, hD⟩ := triple (witDecode B)
  have hRD := refDecode_eq B
  rw [hD] at hRD
  have hNl : N.length ≤ 1048576 ∧ C.length ≤ 1048576 := by
    rcases witDecode_cases B with ⟨N2, C2, h⟩ | h
    · rw [hD] at h; simp only [Prod.mk.injEq] at h
      obtain ⟨rfl, rfl, rfl⟩ := h
      obtain ⟨-, h2, h3, -⟩ := witDecode_small B _ _ hD
      exact ⟨by omega, by omega⟩
    · rw [hD] at h; simp only [Prod.mk.injEq] at h
      obtain ⟨rfl, rfl, -⟩ := h
      simp
  obtain ⟨i0, hi, hz0, hz1, hz2⟩ := info_parts infoU8
  have hown : OwnAt (w.alloc (.cells #[] 5)) w.heap.size 5 1 byteR (.slice (some ⟨w.heap.size, 0, none⟩) 0 0) ([] : List UInt8) :=
    ⟨[], World.ownsRow_made w #[] 0 (Nat.le_refl _) (by decide) rfl, Rows.nil _ _⟩
  have hsrc : BytesAt (fun b => b < w.heap.size) (w.alloc (.cells #[] 5)) (.slice ab nb cb) B := BytesAt.below hB (Bel.alloc (Bel.refl w) _)
  have hle : (([] : List UInt8).length + B.length) * 1 ≤ 140737488355328 := by simp; omega
  have hbase : w.heap.size ≤ (w.alloc (.cells #[] 5)).heap.size := by simp
  have HB := Lib.hid hB
  have HD := Lib.hid hD
  have HRD := Lib.hid hRD
  have HNL := Lib.hid hNl
  have HNB := Lib.hid hnb
  clear hB hD hRD hNl hnb
  go_enter Try.func4, Try.ntmps4
  go_wp2_with (at_builtin; refine wpList_append_at rfl (.tmp 12) (.tmp 13) 25 rfl w.heap.size 5 i0 (.int .u8 0) 1 1 underlying25 hi hz0 hz1 hz2 rfl (by decide) (by decide) byteR.one (.slice (some ⟨w.heap.size, 0, none⟩) 0 0) [] rfl hown _ B (fun b => b < w.heap.size) rfl hsrc hle hbase ?next)
  case next =>
  intro v2 w2 ho hg hm
  obtain ⟨ag, cg, hv2, -, -, -⟩ := ho.len
  have hbg : Below w.heap.size w w2 := (Bel.alloc (Bel.refl w) _).grown hg hbase (fun k hk => (hown.own k hk).1)
  have hgv := ho.at (F := fun _ => True) (fun _ _ _ _ => trivial) (by decide)
  obtain ⟨mg, hmg⟩ : ∃ m, m = B.length := ⟨_, rfl⟩
  subst hv2
  rw [← hmg] at hgv ⊢
  have HG := Lib.hid hgv
  have HBG := Lib.hid hbg
  have hmgl : mg ≤ 1048576 := by omega
  have hnbl : nb ≤ 1048576 := by have := HNB.out; omega
  clear ho hg hm hgv hbg hown hsrc hle hbase hmg
  go_wp2_with fail
  refine (wdecode_any (fun _ => True) w2 ag mg cg B HG.out (by omega)).mono ?_
  rintro e w3 ⟨a5, n5, c5, a6, n6, c6, he, g1, g2, hb3⟩
  rw [HD.out] at he g1 g2
  subst he
  have hbx3 : Below w3.heap.size w3 (w3.alloc (.cells #[.slice a5 n5 c5, .slice a6 n6 c6] 24)) := Bel.alloc (Bel.refl w3) _
  have hrow1 : RowsAt (fun b => w2.heap.size ≤ b ∧ b < w3.heap.size) w3 (.slice a5 n5 c5) N := RowsAt.carry g1 (fun b hlt hb => ⟨hb, hlt⟩) (fun _ _ _ => rfl)
  have hrow2 : RowsAt (fun b => w2.heap.size ≤ b ∧ b < w3.heap.size) w3 (.slice a6 n6 c6) C := RowsAt.carry g2 (fun b hlt hb => ⟨hb, hlt⟩) (fun _ _ _ => rfl)
  obtain ⟨W3, hW3⟩ : ∃ W, W = w3.alloc (.cells #[.slice a5 n5 c5, .slice a6 n6 c6] 24) := ⟨_, rfl⟩
  have hk3 : W3.heap[w3.heap.size]? = some (.cells #[.slice a5 n5 c5, .slice a6 n6 c6] 24 (0, 0)) := by rw [hW3]; exact heap_alloc_new w3 _
  rw [← hW3] at hbx3
  have hbw3 : Below w.heap.size w W3 := Bel.call (Bel.call HBG.out hb3) hbx3
  have hs3 := hb3.size
  have hsW3 : W3.heap.size = w3.heap.size + 1 := by rw [hW3]; simp
  have HW3 := Lib.hid hW3
  have HROW1 := Lib.hid (RowsAt.below hrow1 hbx3)
  have HROW2 := Lib.hid (RowsAt.below hrow2 hbx3)
  have HK3 := Lib.hid hk3
  have HBW3 := Lib.hid hbw3
  have HG3 := Lib.hid (BytesAt.carry (BytesAt.below (BytesAt.below HG.out hb3) hbx3) (F' := fun _ => True) (fun _ _ x => x) (fun _ _ _ => rfl))
  have HGA : Hid (BytesAt (fun b => b < w2.heap.size) W3 (.slice ag mg cg) B) := Lib.hid (BytesAt.carry HG.out (fun b hlt _ => hlt) (fun b _ hlt => (hbx3.block b (by omega)).trans (hb3.block b hlt)))
  have HSW3 := Lib.hid hsW3
  clear g1 g2 hb3 hbx3 hrow1 hrow2 hW3 hk3 hbw3 hsW3
  go_wp2_with fail
  rw [← HW3.out]
  refine (rwdecode_any (fun b => b < w.heap.size) W3 ab nb cb B (BytesAt.below HB.out HBW3.out) hnbl).mono ?_
  rintro e w4 ⟨a7, n7, c7, a8, n8, c8, he, g3, g4, hb4⟩
  rw [HRD.out] at he g3 g4
  subst he
  obtain ⟨W4, hW4⟩ : ∃ W, W = w4.alloc (.cells #[.slice a7 n7 c7, .slice a8 n8 c8] 24) := ⟨_, rfl⟩
  have hbx4 : Below w4.heap.size w4 W4 := by rw [hW4]; exact Bel.alloc (Bel.refl w4) _
  have hk4 : W4.heap[w4.heap.size]? = some (.cells #[.slice a7 n7 c7, .slice a8 n8 c8] 24 (0, 0)) := by rw [hW4]; exact heap_alloc_new w4 _
  have hb34 : Below W3.heap.size W3 W4 := hb4.trans (hbx4.mono hb4.size)
  have hs4 := hb34.size
  have hlt4 : w4.heap.size < W4.heap.size := by rw [hW4]; simp
  have hs34 := hb4.size
  have HW4 := Lib.hid hW4
  have HK4 := Lib.hid hk4
  have HB34 := Lib.hid hb34
  have HROW3 : Hid (RowsAt (fun b => w3.heap.size < b) W4 (.slice a7 n7 c7) N) := Lib.hid (RowsAt.below (RowsAt.carry g3 (fun b _ hb => by have h9 : W3.heap.size ≤ b := hb; rw [HSW3.out] at h9; show w3.heap.size < b; omega) (fun _ _ _ => rfl)) hbx4)
  have HROW4 : Hid (RowsAt (fun b => w3.heap.size < b) W4 (.slice a8 n8 c8) C) := Lib.hid (RowsAt.below (RowsAt.carry g4 (fun b _ hb => by have h9 : W3.heap.size ≤ b := hb; rw [HSW3.out] at h9; show w3.heap.size < b; omega) (fun _ _ _ => rfl)) hbx4)
  clear g3 g4 hb4 hbx4 hW4 hk4 hb34
  go_wp2_with fail
  rw [← HW4.out]
  refine (alive_any W4).mono ?_
  rintro e w5 ⟨rfl, hb5⟩
  have hb35 := HB34.out.trans (hb5.mono HB34.out.size)
  have hk53 := (hb35.block w3.heap.size (by rw [HSW3.out]; omega)).trans HK3.out
  have hk54 := (hb5.block w4.heap.size hlt4).trans HK4.out
  obtain ⟨p0, p1⟩ := cells2 hk53
  obtain ⟨q0, q1⟩ := cells2 hk54
  have HB35 := Lib.hid hb35
  have HB45 := Lib.hid hb5
  have HK53 := Lib.hid hk53
  have HK54 := Lib.hid hk54
  clear hb5 hb35 hk53 hk54
  go_wp2_with fail
  refine (same_any _ _ _ _ _ _ _ _ _ _ _ _ _ _ _ N C N C (RowsAt.below HROW1.out HB35.out) (RowsAt.below HROW2.out HB35.out) (RowsAt.below HROW3.out HB45.out) (RowsAt.below HROW4.out HB45.out) (by have := HNL.out.1; omega) (by have := HNL.out.2; omega)).mono ?_
  rintro e w6 ⟨rfl, hb6⟩
  simp only [and_self, decide_true]
  have hb36 := HB35.out.trans (hb6.mono HB35.out.size)
  have hb46 : Below W4.heap.size W4 w6 := Bel.call HB45.out hb6
  have hk63 := (hb36.block w3.heap.size (by rw [HSW3.out]; omega)).trans HK3.out
  have hk64 := (hb46.block w4.heap.size hlt4).trans HK4.out
  clear p0 p1 q0 q1
  obtain ⟨p0, p1⟩ := cells2 hk63
  have HB36 := Lib.hid hb36
  have HK63 := Lib.hid hk63
  have HK64 := Lib.hid hk64
  have HR6 := Lib.hid (RowsAt.below HROW1.out hb36)
  have HR63 := Lib.hid (RowsAt.below HROW3.out hb46)
  have HR64 := Lib.hid (RowsAt.below HROW4.out hb46)
  have HG6 := Lib.hid (BytesAt.below HGA.out hb36)
  have hsz6 := hb46.size
  have hbw6 := HBW3.out.trans (hb36.mono HBW3.out.size)
  have HBW6 := Lib.hid hbw6
  have hn5 : n5 = N.length ∧ n5 ≤ 1048576 := by
    obtain ⟨a', c', hv, -⟩ := SliceAt.len HR6.out
    simp only [Value.slice.injEq] at hv
    exact ⟨hv.2.1, by rw [hv.2.1]; exact HNL.out.1⟩
  have hn5b := hn5.2
  have HN5 := Lib.hid hn5.1
  have hsg : w.heap.size ≤ w2.heap.size := HBG.out.size
  have hs36 : w3.heap.size < w4.heap.size := by rw [← Nat.succ_le_iff, show w3.heap.size.succ = W3.heap.size from HSW3.out.symm]; exact hs34
  clear hb6 hb36 hb46 hk63 hk64 hbw6 hn5
  go_wp2_with fail
  go_loopw [41] (fun i wr => ∃ k : Nat, k ≤ n5 ∧ i = .int .i64 k ∧ Hid (Spoilt w6 wr w2.heap.size w3.heap.size)) (fun i _ => n5 - (intOf i).toNat)
  case atStart => exact ⟨0, Nat.zero_le _, rfl, Lib.hid (Spoilt.refl _ _ _)⟩
  case round =>
    obtain ⟨k, hk, rfl, HS⟩ := hrel
    have hkb := (HS.out.blk w3.heap.size (by omega)).trans HK63.out
    obtain ⟨r0, r1⟩ := cells2 hkb
    by_cases hlt : k < n5
    · rcases SliceAt.split HR6.out with ⟨_, h00⟩ | ⟨lb, lo, rfl, -, -, -⟩
      · omega
      obtain ⟨u, hcu, hbu⟩ := RowsAt.cell HR6.out k (by have := HN5.out; omega)
      obtain ⟨au, cu, hu, hul, hum, -⟩ := SliceAt.len hbu
      obtain ⟨m, hm⟩ : ∃ m, m = (N[k]'(by have := HN5.out; omega)).length := ⟨_, rfl⟩
      have hmb : m ≤ 9223372036854775807 := by unfold maxLen at hum; omega
      subst hu
      rw [← hm] at hcu hbu
      have hcr := HS.out.slice hcu
      have HBU := Lib.hid hbu
      have HCU := Lib.hid hcu
      have HM := Lib.hid hm
      have hkz : (0 : Int) ≤ (k : Int) := by omega
      have hkn : (k : Int) < (n5 : Int) := by omega
      obtain ⟨wo, rfl⟩ : ∃ W, W = wr := ⟨_, rfl⟩
      clear hbu hcu hm hkb
      go_wp2_with fail
      go_loopw [50] (fun i wr => ∃ j : Nat, j ≤ m ∧ i = .int .i64 j ∧ Hid (Spoilt w6 wr w2.heap.size w3.heap.size)) (fun i _ => m - (intOf i).toNat)
      case atStart => exact ⟨0, Nat.zero_le _, rfl, HS⟩
      case round =>
        obtain ⟨j, hj, rfl, HS2⟩ := hrel
        have hkb2 := (HS2.out.blk w3.heap.size (by omega)).trans HK63.out
        clear r0 r1 hcr
        obtain ⟨r0, r1⟩ := cells2 hkb2
        have hcr := HS2.out.slice HCU.out
        clear hkb2
        by_cases hjm : j < m
        · rcases SliceAt.split HBU.out with ⟨_, h00⟩ | ⟨tb, t0, rfl, -, -, htb⟩
          · omega
          have hby := BytesAt.cell HBU.out j (by have := HM.out; omega)
          have hfr := HS2.out.frz _ _ (SliceAt.free HBU.out j (by have := HM.out; omega))
          obtain ⟨x, hx⟩ := HS2.out.byte hby
          have hS3 := Lib.hid (HS2.out.store (v := 99) htb hby)
          have hjz : (0 : Int) ≤ (j : Int) := by omega
          have hjn : (j : Int) < (m : Int) := by omega
          clear hby
          go_wp2_with fail
          go_roundw
          case rel => exact ⟨j + 1, by omega, num_eq (by omega), hS3⟩
          case measure => simp [intOf]; omega
        · obtain rfl : m = j := by omega
          go_wp2_with fail
          go_roundw
          case rel => exact ⟨k + 1, by omega, num_eq (by omega), HS2⟩
          case measure => simp [intOf]; omega
    · obtain rfl : n5 = k := by omega
      have hbel6 : Below w2.heap.size w6 wr := HS.out.below
      have hgr : BytesAt (fun b => b < w2.heap.size) wr (.slice ag mg cg) B := BytesAt.carry HG6.out (fun _ _ x => x) (fun b hb _ => HS.out.blk b (by omega))
      have hbwr : Below w.heap.size w wr := HBW6.out.trans (hbel6.mono hsg)
      have hk64 := (HS.out.blk w4.heap.size (by omega)).trans HK64.out
      have hr63 : RowsAt (fun b => w3.heap.size < b) wr (.slice a7 n7 c7) N := RowsAt.carry HR63.out (fun _ _ x => x) (fun b hb _ => HS.out.blk b (by omega))
      have hr64 : RowsAt (fun b => w3.heap.size < b) wr (.slice a8 n8 c8) C := RowsAt.carry HR64.out (fun _ _ x => x) (fun b hb _ => HS.out.blk b (by omega))
      have hlt4r : w4.heap.size < wr.heap.size := by have := HS.out.size; omega
      have HGR := Lib.hid hgr
      have HBWR := Lib.hid hbwr
      have HK64r := Lib.hid hk64
      have HR63r := Lib.hid hr63
      have HR64r := Lib.hid hr64
      clear hbel6 hgr hbwr hk64 hr63 hr64 hlt
      go_wp2_with fail
      refine (wdecode_any _ wr ag mg cg B HGR.out (by omega)).mono ?_
      rintro e w7 ⟨a9, n9, c9, a10, n10, c10, he, g5, g6, hb7⟩
      rw [HD.out] at he g5 g6
      subst he
      obtain ⟨W7, hW7⟩ : ∃ W, W = w7.alloc (.cells #[.slice a9 n9 c9, .slice a10 n10 c10] 24) := ⟨_, rfl⟩
      have hbx7 : Below w7.heap.size w7 W7 := by rw [hW7]; exact Bel.alloc (Bel.refl w7) _
      have hb7' : Below wr.heap.size wr W7 := Bel.call hb7 hbx7
      have hk74 := (hb7'.block w4.heap.size hlt4r).trans HK64r.out
      obtain ⟨t0, t1⟩ := cells2 hk74
      have s1 := run_string_at (P := Try.prog) (BytesAt.below HGR.out hb7') 25 5 9 Try.underlying25 Try.underlying5 Try.underlying9
      have s2 := run_string_at (P := Try.prog) (BytesAt.below HB.out (HBWR.out.trans (hb7'.mono HBWR.out.size))) 25 5 9 Try.underlying25 Try.underlying5 Try.underlying9
      have hlt47 : w4.heap.size < w7.heap.size := Nat.lt_of_lt_of_le hlt4r hb7.size
      have HW7 := Lib.hid hW7
      have HB7 := Lib.hid (HBWR.out.trans (hb7'.mono HBWR.out.size))
      have HG5 := Lib.hid (RowsAt.below g5 hbx7)
      have HG6' := Lib.hid (RowsAt.below g6 hbx7)
      have HR73 := Lib.hid (RowsAt.below HR63r.out hb7')
      have HR74 := Lib.hid (RowsAt.below HR64r.out hb7')
      rw [hW7] at t0 t1 s1 s2
      clear g5 g6 hb7 hbx7 hb7' hk74 hW7 r0 r1
      go_wp2_with fail
      rw [← HW7.out]
      refine (same_any _ _ _ _ _ _ _ _ _ _ _ _ _ _ _ N C N C HG5.out HG6'.out HR73.out HR74.out (by have := HNL.out.1; omega) (by have := HNL.out.2; omega)).mono ?_
      rintro e w8 ⟨rfl, hb8⟩
      simp only [and_self, decide_true]
      have HB8 := Lib.hid hb8
      clear hb8 t0 t1 s1 s2
      go_wp2_with fail
      go_ret
      exact ⟨rfl, HB7.out.trans (HB8.out.mono HB7.out.size)⟩
end Go.Proofs.Ytndkkgkcbbmnpaa
