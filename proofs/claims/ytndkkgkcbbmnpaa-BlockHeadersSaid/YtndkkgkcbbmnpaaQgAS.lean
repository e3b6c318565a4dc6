/-
  Every text of bytes is read as its block, or refused; what was told is its owner's (the statement BlockDecodes).
  The frame of a law's proof in the form without a bound on bulk: what the form's own reach gives for an argument that is a slice of bytes.
-/
import Derived.Test.YtndkkgkcbbmnpaaQgAR
import Derived.SizedLaws
namespace Go.Proofs.Ytndkkgkcbbmnpaa
open Go.ChangeShapes Go.WideShapes Go.ChangeAt Go.RowKit Go.Pg

set_option maxRecDepth 100000 in
set_option maxHeartbeats 8000000 in
theorem bdecodes_walk (w : World) (ab : Option Addr) (nb cb : Nat) (B : List UInt8) (hB : BytesAt (fun b => b < w.heap.size) w (.slice ab nb cb) B) (hBl : B.length ≤ 140737488351232) :
    Calls Try.prog 7 #[.slice ab nb cb] w fun e w' => e = .returned (.bool true) ∧ Below w.heap.size w w' := by
  have hnb := (BytesAt.n hB).1
  obtain ⟨ZB, hZB⟩ : ∃ ZR : Array Value, ZR = #[.int .u8 0, .int .u8 0, .int .u8 0, .int .u8 0, .int .u8 0, .int .u8 0, .int .u8 0, .int .u8 0, .int .u8 0, .int .u8 0, .int .u8 0, .int .u8 0, .int .u8 0, .int .u8 0, .int .u8 0, .int .u8 0, .int .u8 0, .int .u8 0, .int .u8 0, .int .u8 0, .int .u8 0, .int .u8 0, .int .u8 0, .int .u8 0, .int .u8 0, .int .u8 0, .int .u8 0, .int .u8 0, .int .u8 0, .int .u8 0, .int .u8 0, .int .u8 0, .int .u64 0, .int .u64 0, .slice none 0 0] := ⟨_, rfl⟩
  obtain ⟨X, hX⟩ : ∃ X, X = blkDecode B := ⟨_, rfl⟩
  have hRX : refBlkDecode B = X := by rw [hX, blkDecode_eq]
  have hok : X.1.ok := by rw [hX]; exact blkDecode_ok B
  obtain ⟨⟨p, nn, bb, T⟩, d⟩ := X
  have hTl := (blkDecode_small B _ d hX.symm).1
  have hpl := hok.p
  simp only at hTl hpl
  have hTs : T.length ≤ 140737488351232 := by omega
  obtain ⟨fs, hu⟩ := underlyingBlk
  obtain ⟨i0, hi, hz0, hz1, hz2⟩ := info_parts infoU8
  have hown : OwnAt (w.alloc (.cells #[] 5)) w.heap.size 5 1 byteR (.slice (some ⟨w.heap.size, 0, none⟩) 0 0) ([] : List UInt8) :=
    ⟨[], World.ownsRow_made w #[] 0 (Nat.le_refl _) (by decide) rfl, Rows.nil _ _⟩
  have hsrc : BytesAt (fun b => b < w.heap.size) (w.alloc (.cells #[] 5)) (.slice ab nb cb) B := BytesAt.below hB (Bel.alloc (Bel.refl w) _)
  have hle : (([] : List UInt8).length + B.length) * 1 ≤ 140737488355328 := by simp; omega
  have hbase : w.heap.size ≤ (w.alloc (.cells #[] 5)).heap.size := by simp
  have HB := Lib.hid hB
  have HX := Lib.hid hX
  have HRX := Lib.hid hRX
  have HPL := Lib.hid hpl
  have HTS := Lib.hid hTs
  have HNB := Lib.hid hnb
  have HZB := Lib.hid hZB
  have HU := Lib.hid hu
  have HBL := Lib.hid hBl
  clear hB hX hRX hpl hTs hTl hnb hZB hu hok hBl
  go_enter Try.func7, Try.ntmps7
  go_wp2_with (at_builtin; refine wpList_append_at rfl (.tmp 12) (.tmp 13) 25 rfl w.heap.size 5 i0 (.int .u8 0) 1 1 underlying25 hi hz0 hz1 hz2 rfl (by decide) (by decide) byteR.one (.slice (some ⟨w.heap.size, 0, none⟩) 0 0) [] rfl hown _ B (fun b => b < w.heap.size) rfl hsrc hle hbase ?next)
  case next =>
  intro v2 w2 ho hg hm
  obtain ⟨ag, cg, hv2, -, -, -⟩ := ho.len
  have hbg : Below w.heap.size w w2 := (Bel.alloc (Bel.refl w) _).grown hg hbase (fun k hk => (hown.own k hk).1)
  have hgv := ho.at (F := fun _ => True) (fun _ _ _ _ => trivial) (by decide)
  obtain ⟨mg, hmg⟩ : ∃ m, m = B.length := ⟨_, rfl⟩
  subst hv2
  rw [← hmg] at hgv ⊢
  have HG := Lib.hid hgv
  have HBG := Lib.hid hbg
  have hmgl : mg ≤ 140737488351232 := by have := HBL.out; omega
  have hnbl : nb ≤ 140737488351232 := by have := HNB.out; have := HBL.out; omega
  clear ho hg hm hgv hbg hown hsrc hle hbase hmg
  have hdec := bdec_any (fun _ => True) w2 ag mg cg B HG.out hmgl
  rw [← HX.out] at hdec
  have HDEC := Lib.hid hdec
  clear hdec
  go_wp2_with fail
  refine HDEC.out.mono ?_
  rintro e w3 ⟨a5, n5, c5, rfl, g1, hb3⟩
  try simp only at g1 ⊢
  obtain ⟨C3, hC3⟩ : ∃ C, C = blkCells p nn bb (.slice a5 n5 c5) := ⟨_, rfl⟩
  rw [← hC3]
  obtain ⟨W3, hW3⟩ : ∃ W : World, W = (w3.alloc (.cells ZB 40)).setRow w3.heap.size C3 := ⟨_, rfl⟩
  have hz3 : (w3.alloc (.cells ZB 40)).heap[w3.heap.size]? = some (.cells ZB 40 (0, 0)) := heap_alloc_new w3 _
  have hk3 : W3.heap[w3.heap.size]? = some (.cells C3 40 (0, 0)) := by rw [hW3]; exact setRow_heap _ _ _ _ _ _ hz3
  have hbx3 : Below w3.heap.size w3 W3 := by rw [hW3]; exact below_setRow (Bel.alloc (Bel.refl w3) _) (Nat.le_refl _) _
  have hsW3 : W3.heap.size = w3.heap.size + 1 := by rw [hW3]; simp
  have HZ3 := Lib.hid hz3
  have HIC3 := Lib.hid (show (Try.prog.info? 40).map (·.size) = some C3.size by rw [hC3, blkCells_size _ _ _ _ HPL.out]; exact infoBlk)
  have HOC3 := Lib.hid (show C3.all (·.oneCell') = true by rw [hC3]; exact blkCells_one _ _ _ _ _ _)
  have HSC3 := Lib.hid (show ZB.size = C3.size by rw [hC3, blkCells_size _ _ _ _ HPL.out, HZB.out]; rfl)
  have HEC3 := Lib.hid hC3
  have HW3 := Lib.hid hW3
  have hrow1 : RowsAt (fun b => w2.heap.size ≤ b ∧ b < w3.heap.size) w3 (.slice a5 n5 c5) T := RowsAt.carry g1 (fun b hlt hb => ⟨hb, hlt⟩) (fun _ _ _ => rfl)
  have hbw3 : Below w.heap.size w W3 := Bel.call (Bel.call HBG.out hb3) hbx3
  have hs3 := hb3.size
  have HROW1 := Lib.hid (RowsAt.below hrow1 hbx3)
  have HK3 := Lib.hid hk3
  have HBW3 := Lib.hid hbw3
  have HGA : Hid (BytesAt (fun b => b < w2.heap.size) W3 (.slice ag mg cg) B) := Lib.hid (BytesAt.carry HG.out (fun b hlt _ => hlt) (fun b _ hlt => (hbx3.block b (by omega)).trans (hb3.block b hlt)))
  have HSW3 := Lib.hid hsW3
  have hdec := rbdec_any (fun b => b < w.heap.size) W3 ab nb cb B (BytesAt.below HB.out hbw3) hnbl
  rw [HRX.out] at hdec
  have HDEC2 := Lib.hid hdec
  clear g1 hb3 hbx3 hrow1 hW3 hk3 hbw3 hsW3 hz3 hC3 hdec
  go_wp2_with (rw [← HZB.out]; (with_reducible refine wpL_store_row 40 (.tmp 4) (.tmp 18) w3.heap.size C3 40 ZB ?_ ⟨HZ3.out, HIC3.out, HSC3.out, HOC3.out⟩ ?_); (exact ⟨rfl, rfl, rfl, rfl⟩); rw [← HW3.out])
  refine HDEC2.out.mono ?_
  rintro e w4 ⟨a7, n7, c7, rfl, g3, hb4⟩
  try simp only at g3 ⊢
  obtain ⟨C4, hC4⟩ : ∃ C, C = blkCells p nn bb (.slice a7 n7 c7) := ⟨_, rfl⟩
  rw [← hC4]
  obtain ⟨W4, hW4⟩ : ∃ W : World, W = (w4.alloc (.cells ZB 40)).setRow w4.heap.size C4 := ⟨_, rfl⟩
  have hz4 : (w4.alloc (.cells ZB 40)).heap[w4.heap.size]? = some (.cells ZB 40 (0, 0)) := heap_alloc_new w4 _
  have hk4 : W4.heap[w4.heap.size]? = some (.cells C4 40 (0, 0)) := by rw [hW4]; exact setRow_heap _ _ _ _ _ _ hz4
  have hbx4 : Below w4.heap.size w4 W4 := by rw [hW4]; exact below_setRow (Bel.alloc (Bel.refl w4) _) (Nat.le_refl _) _
  have hsW4 : W4.heap.size = w4.heap.size + 1 := by rw [hW4]; simp
  have HZ4 := Lib.hid hz4
  have HIC4 := Lib.hid (show (Try.prog.info? 40).map (·.size) = some C4.size by rw [hC4, blkCells_size _ _ _ _ HPL.out]; exact infoBlk)
  have HOC4 := Lib.hid (show C4.all (·.oneCell') = true by rw [hC4]; exact blkCells_one _ _ _ _ _ _)
  have HSC4 := Lib.hid (show ZB.size = C4.size by rw [hC4, blkCells_size _ _ _ _ HPL.out, HZB.out]; rfl)
  have HEC4 := Lib.hid hC4
  have HW4 := Lib.hid hW4
  have hb34 : Below W3.heap.size W3 W4 := hb4.trans (hbx4.mono hb4.size)
  have hs4 := hb34.size
  have hlt4 : w4.heap.size < W4.heap.size := by omega
  have hs34 := hb4.size
  have HK4 := Lib.hid hk4
  have HB34 := Lib.hid hb34
  have HROW3 : Hid (RowsAt (fun b => w3.heap.size < b) W4 (.slice a7 n7 c7) T) := Lib.hid (RowsAt.below (RowsAt.carry g3 (fun b _ hb => by have h9 : W3.heap.size ≤ b := hb; rw [HSW3.out] at h9; show w3.heap.size < b; omega) (fun _ _ _ => rfl)) hbx4)
  clear g3 hb4 hbx4 hW4 hk4 hb34 hz4 hC4 hsW4
  go_wp2_with (rw [← HZB.out]; (with_reducible refine wpL_store_row 40 (.tmp 6) (.tmp 23) w4.heap.size C4 40 ZB ?_ ⟨HZ4.out, HIC4.out, HSC4.out, HOC4.out⟩ ?_); (exact ⟨rfl, rfl, rfl, rfl⟩); rw [← HW4.out])
  refine (alive19_any W4).mono ?_
  rintro e w5 ⟨rfl, hb5⟩
  have hb35 := HB34.out.trans (hb5.mono HB34.out.size)
  have HK53 := Lib.hid ((hb35.block w3.heap.size (by rw [HSW3.out]; omega)).trans HK3.out)
  have HK54 := Lib.hid ((hb5.block w4.heap.size hlt4).trans HK4.out)
  have HB35 := Lib.hid hb35
  have HB45 := Lib.hid hb5
  clear hb5 hb35
  go_wp2_with (first
    | ((with_reducible refine wpL_load_row_w 40 (.tmp 4) w3.heap.size C3 40 (.struct fs) ?_ ⟨HK53.out, HU.out, rfl, HIC3.out⟩ ?_); (exact ⟨rfl, rfl, rfl⟩))
    | ((with_reducible refine wpL_load_row_w 40 (.tmp 6) w4.heap.size C4 40 (.struct fs) ?_ ⟨HK54.out, HU.out, rfl, HIC4.out⟩ ?_); (exact ⟨rfl, rfl, rfl⟩)))
  rw [HEC3.out, HEC4.out]
  refine (sameBlk_any _ _ _ p p nn bb nn bb _ _ T T (RowsAt.below HROW1.out HB35.out) (RowsAt.below HROW3.out HB45.out) HPL.out HPL.out (by have := HTS.out; omega)).mono ?_
  rintro e w6 ⟨rfl, hb6⟩
  simp only [and_self, decide_true]
  have hb36 := HB35.out.trans (hb6.mono HB35.out.size)
  have hb46 : Below W4.heap.size W4 w6 := Bel.call HB45.out hb6
  have hk63 := (hb36.block w3.heap.size (by rw [HSW3.out]; omega)).trans HK3.out
  have hk64 := (hb46.block w4.heap.size hlt4).trans HK4.out
  have p34 := (blk_facts (t := 40) HPL.out (by rw [hk63, HEC3.out])).2.2.2
  have HB36 := Lib.hid hb36
  have HK63 := Lib.hid hk63
  have HK64 := Lib.hid hk64
  have HR6 := Lib.hid (RowsAt.below HROW1.out hb36)
  have HR63 := Lib.hid (RowsAt.below HROW3.out hb46)
  have HG6 := Lib.hid (BytesAt.below HGA.out hb36)
  have hsz6 := hb46.size
  have hbw6 := HBW3.out.trans (hb36.mono HBW3.out.size)
  have HBW6 := Lib.hid hbw6
  have hn5 : n5 = T.length ∧ n5 ≤ 140737488351232 := by
    obtain ⟨a', c', hv, -⟩ := SliceAt.len HR6.out
    simp only [Value.slice.injEq] at hv
    exact ⟨hv.2.1, by rw [hv.2.1]; exact HTS.out⟩
  have hn5b := hn5.2
  have HN5 := Lib.hid hn5.1
  have hsg : w.heap.size ≤ w2.heap.size := HBG.out.size
  have hs36 : w3.heap.size < w4.heap.size := by rw [← Nat.succ_le_iff, show w3.heap.size.succ = W3.heap.size from HSW3.out.symm]; exact hs34
  clear hb6 hb36 hb46 hk63 hk64 hbw6 hn5
  go_wp2_with fail
  go_loopw [41] (fun i wr => ∃ k : Nat, k ≤ n5 ∧ i = .int .i64 k ∧ Hid (Spoilt w6 wr w2.heap.size w3.heap.size)) (fun i _ => n5 - (intOf i).toNat)
  case atStart => exact ⟨0, Nat.zero_le _, rfl, Lib.hid (Spoilt.refl _ _ _)⟩
  case round =>
    obtain ⟨k, hk, rfl, HS⟩ := hrel
    have hkb := (HS.out.blk w3.heap.size (by omega)).trans HK63.out
    have r34 := (blk_facts (t := 40) HPL.out (by rw [hkb, HEC3.out])).2.2.2
    by_cases hlt : k < n5
    · rcases SliceAt.split HR6.out with ⟨_, h00⟩ | ⟨lb, lo, rfl, -, -, -⟩
      · omega
      obtain ⟨u, hcu, hbu⟩ := RowsAt.cell HR6.out k (by have := HN5.out; omega)
      obtain ⟨au, cu, hu, hul, hum, -⟩ := SliceAt.len hbu
      obtain ⟨m, hm⟩ : ∃ m, m = (T[k]'(by have := HN5.out; omega)).length := ⟨_, rfl⟩
      have hmb : m ≤ 9223372036854775807 := by unfold maxLen at hum; omega
      subst hu
      rw [← hm] at hcu hbu
      have hcr := HS.out.slice hcu
      have HBU := Lib.hid hbu
      have HCU := Lib.hid hcu
      have HM := Lib.hid hm
      have hkz : (0 : Int) ≤ (k : Int) := by omega
      have hkn : (k : Int) < (n5 : Int) := by omega
      obtain ⟨wo, rfl⟩ : ∃ W, W = wr := ⟨_, rfl⟩
      clear hbu hcu hm hkb
      go_wp2_with fail
      go_loopw [50] (fun i wr => ∃ j : Nat, j ≤ m ∧ i = .int .i64 j ∧ Hid (Spoilt w6 wr w2.heap.size w3.heap.size)) (fun i _ => m - (intOf i).toNat)
      case atStart => exact ⟨0, Nat.zero_le _, rfl, HS⟩
      case round =>
        obtain ⟨j, hj, rfl, HS2⟩ := hrel
        have hkb2 := (HS2.out.blk w3.heap.size (by omega)).trans HK63.out
        clear r34 hcr
        have r34 := (blk_facts (t := 40) HPL.out (by rw [hkb2, HEC3.out])).2.2.2
        have hcr := HS2.out.slice HCU.out
        clear hkb2
        by_cases hjm : j < m
        · rcases SliceAt.split HBU.out with ⟨_, h00⟩ | ⟨tb, t0, rfl, -, -, htb⟩
          · omega
          have hby := BytesAt.cell HBU.out j (by have := HM.out; omega)
          have hfr := HS2.out.frz _ _ (SliceAt.free HBU.out j (by have := HM.out; omega))
          obtain ⟨x, hx⟩ := HS2.out.byte hby
          have hS3 := Lib.hid (HS2.out.store (v := 99) htb hby)
          have hjz : (0 : Int) ≤ (j : Int) := by omega
          have hjn : (j : Int) < (m : Int) := by omega
          clear hby
          go_wp2_with fail
          go_roundw
          case rel => exact ⟨j + 1, by omega, num_eq (by omega), hS3⟩
          case measure => simp [intOf]; omega
        · obtain rfl : m = j := by omega
          go_wp2_with fail
          go_roundw
          case rel => exact ⟨k + 1, by omega, num_eq (by omega), HS2⟩
          case measure => simp [intOf]; omega
    · obtain rfl : n5 = k := by omega
      have hbel6 : Below w2.heap.size w6 wr := HS.out.below
      have hgr : BytesAt (fun b => b < w2.heap.size) wr (.slice ag mg cg) B := BytesAt.carry HG6.out (fun _ _ x => x) (fun b hb _ => HS.out.blk b (by omega))
      have hbwr : Below w.heap.size w wr := HBW6.out.trans (hbel6.mono hsg)
      have hk64 := (HS.out.blk w4.heap.size (by omega)).trans HK64.out
      have hr63 : RowsAt (fun b => w3.heap.size < b) wr (.slice a7 n7 c7) T := RowsAt.carry HR63.out (fun _ _ x => x) (fun b hb _ => HS.out.blk b (by omega))
      have hlt4r : w4.heap.size < wr.heap.size := by have := HS.out.size; omega
      have HGR := Lib.hid hgr
      have HBWR := Lib.hid hbwr
      have HK64r := Lib.hid hk64
      have HR63r := Lib.hid hr63
      have hdec := bdec_any _ wr ag mg cg B hgr hmgl
      rw [← HX.out] at hdec
      have HDEC3 := Lib.hid hdec
      clear hbel6 hgr hbwr hk64 hr63 hlt hdec r34 p34 hkb
      go_wp2_with fail
      refine HDEC3.out.mono ?_
      rintro e w7 ⟨a9, n9, c9, rfl, g5, hb7⟩
      try simp only at g5 ⊢
      obtain ⟨C7, hC7⟩ : ∃ C, C = blkCells p nn bb (.slice a9 n9 c9) := ⟨_, rfl⟩
      rw [← hC7]
      obtain ⟨W7, hW7⟩ : ∃ W : World, W = (w7.alloc (.cells ZB 40)).setRow w7.heap.size C7 := ⟨_, rfl⟩
      have hz7 : (w7.alloc (.cells ZB 40)).heap[w7.heap.size]? = some (.cells ZB 40 (0, 0)) := heap_alloc_new w7 _
      have hk7 : W7.heap[w7.heap.size]? = some (.cells C7 40 (0, 0)) := by rw [hW7]; exact setRow_heap _ _ _ _ _ _ hz7
      have hbx7 : Below w7.heap.size w7 W7 := by rw [hW7]; exact below_setRow (Bel.alloc (Bel.refl w7) _) (Nat.le_refl _) _
      have hsW7 : W7.heap.size = w7.heap.size + 1 := by rw [hW7]; simp
      have HZ7 := Lib.hid hz7
      have HIC7 := Lib.hid (show (Try.prog.info? 40).map (·.size) = some C7.size by rw [hC7, blkCells_size _ _ _ _ HPL.out]; exact infoBlk)
      have HOC7 := Lib.hid (show C7.all (·.oneCell') = true by rw [hC7]; exact blkCells_one _ _ _ _ _ _)
      have HSC7 := Lib.hid (show ZB.size = C7.size by rw [hC7, blkCells_size _ _ _ _ HPL.out, HZB.out]; rfl)
      have HEC7 := Lib.hid hC7
      have HW7 := Lib.hid hW7
      have hb7' : Below wr.heap.size wr W7 := Bel.call hb7 hbx7
      have s1 := run_string_at (P := Try.prog) (BytesAt.below HGR.out hb7') 25 5 9 Try.underlying25 Try.underlying5 Try.underlying9
      have s2 := run_string_at (P := Try.prog) (BytesAt.below HB.out (HBWR.out.trans (hb7'.mono HBWR.out.size))) 25 5 9 Try.underlying25 Try.underlying5 Try.underlying9
      have HK74 := Lib.hid ((hb7'.block w4.heap.size hlt4r).trans HK64r.out)
      have HK7 := Lib.hid hk7
      have HB7 := Lib.hid (HBWR.out.trans (hb7'.mono HBWR.out.size))
      have HG5 := Lib.hid (RowsAt.below g5 hbx7)
      have HR73 := Lib.hid (RowsAt.below HR63r.out hb7')
      clear g5 hb7 hbx7 hb7' hW7 hk7 hz7 hC7 hsW7
      go_wp2_with (first
        | (rw [← HZB.out]; (with_reducible refine wpL_store_row 40 (.tmp 10) (.tmp 65) w7.heap.size C7 40 ZB ?_ ⟨HZ7.out, HIC7.out, HSC7.out, HOC7.out⟩ ?_); (exact ⟨rfl, rfl, rfl, rfl⟩); rw [← HW7.out])
        | ((with_reducible refine wpL_load_row_w 40 (.tmp 10) w7.heap.size C7 40 (.struct fs) ?_ ⟨HK7.out, HU.out, rfl, HIC7.out⟩ ?_); (exact ⟨rfl, rfl, rfl⟩))
        | ((with_reducible refine wpL_load_row_w 40 (.tmp 6) w4.heap.size C4 40 (.struct fs) ?_ ⟨HK74.out, HU.out, rfl, HIC4.out⟩ ?_); (exact ⟨rfl, rfl, rfl⟩)))
      rw [HEC4.out, HEC7.out]
      refine (sameBlk_any _ _ _ p p nn bb nn bb _ _ T T HG5.out HR73.out HPL.out HPL.out (by have := HTS.out; omega)).mono ?_
      rintro e w8 ⟨rfl, hb8⟩
      simp only [and_self, decide_true]
      have HB8 := Lib.hid hb8
      clear hb8 s1 s2
      go_wp2_with fail
      go_ret
      exact ⟨rfl, HB7.out.trans (HB8.out.mono HB7.out.size)⟩
end Go.Proofs.Ytndkkgkcbbmnpaa
namespace Go.Proofs.Ytndkkgkcbbmnpaa
open Go.ChangeShapes Go.WideShapes Go.ChangeAt Go.RowKit Go.Pg

section
variable {H : Type} {enc : TypeId × Value → H} {P : Program} {w : World} {held : Bool}
/-- an argument that is a slice of bytes, by its reading alone -/
theorem open_bytes_read {t e : TypeId} {fuel : Nat} {v : Value} {x : DataW H × List MemPlace} (ht : P.underlying t = some (.slice e)) (he : P.underlying e = some (.int .u8)) (hc : P.cellsOf e = 1)
    (h : DataW.trod enc P w 0 (fun _ => true) held fuel t [v] = some x) (hfz : ∀ b o, MemPlace.cell b o ∈ x.2 → w.frozen? ⟨b, o, none⟩ = false) :
    ∃ bs a c, v = .slice a bs.length c ∧ BytesAt (fun b => b < w.heap.size) w v bs ∧ (bs = [] ∨ ∃ elems spare, x.1 = .slice elems spare ∧ bs.length = elems.length) := by
  rcases open_ints ht he hc h with ⟨hv, rfl⟩ | ⟨a, len, cap, zs, hv, -, hl, hm, hz, rfl, hcell, hwf⟩
  · simp only [List.cons.injEq, and_true] at hv
    subst hv
    exact ⟨[], none, 0, rfl, BytesAt.nil _ _, .inl rfl⟩
  · simp only [List.cons.injEq, and_true] at hv
    subst hv
    simp only [if_true] at hz
    have hb := bytes_at (w := w) (A := some a) (L := len) (C := cap) (Z := zs) hl hm hz hwf (fun h => by cases h) (fun a' ha c hc => by cases ha; exact hcell c (by omega)) (fun a' ha c hc => by cases ha; exact hfz _ _ (List.mem_map.2 ⟨c, List.mem_range.2 (by omega), rfl⟩))
    have hlen : ((zs.take len).map fun n => UInt8.ofNat n.toNat).length = len := by rw [List.length_map, List.length_take]; omega
    refine ⟨_, some a, cap, by rw [hlen], hb, .inr ⟨_, _, rfl, ?_⟩⟩
    rw [hlen]
    simp [lits]; omega
/-- what the form's own reach gives for it -/
theorem bytes_reach {ts : List TypeId} {ds : List (DataW H)} (hz : (DataW.weightsEach P ts ds).all (· ≤ reachBytes) = true) {j : Nat} {t e : TypeId} {d : DataW H} {n : Nat} (hj : ts[j]? = some t) (hd : ds[j]? = some d)
    (ht : P.underlying t = some (.slice e)) (hb : P.bytesOf e = 1) (h : n = 0 ∨ ∃ elems spare, d = .slice elems spare ∧ n = elems.length) : n ≤ 140737488351232 := by
  rcases h with rfl | ⟨elems, spare, rfl, rfl⟩
  · omega
  · have h1 := sized_slice hz hj hd ht
    rw [hb] at h1
    have h2 : reachBytes = 140737488351232 := rfl
    omega
end
end Go.Proofs.Ytndkkgkcbbmnpaa
