/-
  Contract of (digest.state).mixed.
  append of zeros: append(b, make([]byte, n)...) onto a slice of bytes of the call's own.
  Contracts of digest.begun, New, lay.
  Contracts of digest.New, (*Hash).Write on a new hash.
-/
import Derived.Test.YtndkkgkcbbmnpaaQnAA
import Derived.WalkMore
namespace Go.Pg
open Go.RowKit
theorem bits_u64_range (op : BinOp) (a b : Int) : 0 ≤ bits op .u64 a b ∧ bits op .u64 a b ≤ 18446744073709551615 := by
  have h : ∀ n : Int, 0 ≤ IntKind.u64.wrap n ∧ IntKind.u64.wrap n ≤ 18446744073709551615 := fun n => by
    rw [IntKind.wrap_u64]; omega
  unfold bits
  exact h _
theorem wrap_u64_range (n : Int) : 0 ≤ IntKind.u64.wrap n ∧ IntKind.u64.wrap n ≤ 18446744073709551615 := by
  rw [IntKind.wrap_u64]; omega
/-- four words lie in a block -/
def St4 (w : World) (b : Nat) (t : TypeId) (s : S4) : Prop := w.heap[b]? = some (.cells s.cells t (0, 0))
theorem St4.cell {w : World} {b : Nat} {t : TypeId} {s : S4} (h : St4 w b t s) (k : Nat) (hk : k < 4) : w.cell? ⟨b, k, none⟩ = some (.int .u64 (s.get k)) := by
  rw [cell_of_row _ _ _ _ _ _ h]; exact s.cells_get k hk
theorem St4.free {w : World} {b : Nat} {t : TypeId} {s : S4} (h : St4 w b t s) (k : Nat) : w.frozen? ⟨b, k, none⟩ = false := frozen_of_row w b k _ _ h
theorem St4.set {w : World} {b : Nat} {t : TypeId} {s : S4} (h : St4 w b t s) (k : Nat) (hk : k < 4) (v : Int) : St4 (w.setCell ⟨b, k, none⟩ (.int .u64 v)) b t (s.set k v) := by
  unfold St4; rw [blk_setCell h, s.cells_set k hk]
theorem St4.far {w : World} {b b' o : Nat} {t : TypeId} {s : S4} (h : St4 w b t s) (hb : b ≠ b') (v : Value) : St4 (w.setCell ⟨b', o, none⟩ v) b t s := by
  unfold St4; rw [Below.heap_setCell _ _ _ _ hb]; exact h
theorem St4.below {w w' : World} {b : Nat} {t : TypeId} {s : S4} (h : St4 w b t s) (hb : w'.heap[b]? = w.heap[b]?) : St4 w' b t s := hb.trans h
theorem St4.new (w : World) (t : TypeId) (s : S4) {b : Nat} (h : b = w.heap.size) : St4 (w.alloc (.cells s.cells t)) b t s := by subst h; exact heap_alloc_new w _
theorem St4.lt {w : World} {b : Nat} {t : TypeId} {s : S4} (h : St4 w b t s) : b < w.heap.size := (Array.getElem?_eq_some_iff.1 h).1
theorem St4.alloc {w : World} {b : Nat} {t : TypeId} {s : S4} (h : St4 w b t s) (o : Obj) : St4 (w.alloc o) b t s := (Below.heap_alloc _ _ _ h.lt).trans h
theorem St4.drew {w : World} {b : Nat} {t : TypeId} {s : S4} (h : St4 w b t s) : St4 w.drew b t s := h
theorem S4.part_succ_get (t s : S4) (k : Nat) (h : k < 4) : (S4.part (k + 1) t s).get k = t.get k := by
  rcases k with _ | _ | _ | _ | k
  all_goals first | rfl | omega
theorem add_at' (b o k : Nat) : (⟨b, o, none⟩ : Addr).add k = ⟨b, o + k, none⟩ := by unfold Addr.add; split <;> simp_all
theorem wordsOf_get (l : List UInt8) (k : Nat) (h : k < 4) : (wordsOf l).get k = wordAt (l.drop (8 * k)) 0 := by
  have e : wordAt (l.drop (8 * k)) 0 = wordAt l (8 * k) := by unfold wordAt; rw [List.drop_zero]
  rw [e]
  rcases k with _ | _ | _ | _ | k
  all_goals first | rfl | omega
end Go.Pg
namespace Go.Proofs.Ytndkkgkcbbmnpaa
open Go.RowKit Go.Pg

def MixD (w : World) (r : S4) (e : Ending) (w' : World) : Prop := e = .returned (.agg r.cells) ∧ Below w.heap.size w w'
/-- how far the call is: its words x, those of the beginning p, those of the text m -/
structure MixSt (w wr : World) (x p m : S4) : Prop where
  bel : Below w.heap.size w wr
  lt : w.heap.size + 1 + 1 + 1 < wr.heap.size
  sx : St4 wr w.heap.size 121 x
  sr : St4 wr (w.heap.size + 1) 121 ⟨0, 0, 0, 0⟩
  sp : St4 wr (w.heap.size + 1 + 1) 121 p
  sm : St4 wr (w.heap.size + 1 + 1 + 1) 120 m
theorem MixSt.drew {w wr : World} {x p m : S4} (h : MixSt w wr x p m) : MixSt w wr.drew x p m := ⟨h.bel.drew, h.lt, h.sx, h.sr, h.sp, h.sm⟩
theorem MixSt.setx {w wr : World} {x p m : S4} (h : MixSt w wr x p m) (k : Nat) (hk : k < 4) (v : Int) : MixSt w (wr.setCell ⟨w.heap.size, k, none⟩ (.int .u64 v)) (x.set k v) p m :=
  ⟨h.bel.setCell (Nat.le_refl _) _, by simpa using h.lt, h.sx.set k hk v, h.sr.far (by omega) _, h.sp.far (by omega) _, h.sm.far (by omega) _⟩
theorem MixSt.setm {w wr : World} {x p m : S4} (h : MixSt w wr x p m) (k : Nat) (hk : k < 4) (v : Int) : MixSt w (wr.setCell ⟨w.heap.size + 1 + 1 + 1, k, none⟩ (.int .u64 v)) x p (m.set k v) :=
  ⟨h.bel.setCell (by show w.heap.size ≤ w.heap.size + 1 + 1 + 1; omega) _, by simpa using h.lt, h.sx.far (by omega) _, h.sr.far (by omega) _, h.sp.far (by omega) _, h.sm.set k hk v⟩
theorem MixSt.cells {w wr : World} {xa xb xc xd : Int} {p m : S4} (h : MixSt w wr ⟨xa, xb, xc, xd⟩ p m) :
    (wr.cell? ⟨w.heap.size, 0, none⟩ = some (.int .u64 xa) ∧ wr.cell? ⟨w.heap.size, 1, none⟩ = some (.int .u64 xb) ∧ wr.cell? ⟨w.heap.size, 2, none⟩ = some (.int .u64 xc) ∧ wr.cell? ⟨w.heap.size, 3, none⟩ = some (.int .u64 xd)) ∧
      wr.frozen? ⟨w.heap.size, 0, none⟩ = false ∧ wr.frozen? ⟨w.heap.size, 1, none⟩ = false ∧ wr.frozen? ⟨w.heap.size, 2, none⟩ = false ∧ wr.frozen? ⟨w.heap.size, 3, none⟩ = false :=
  ⟨⟨h.sx.cell 0 (by omega), h.sx.cell 1 (by omega), h.sx.cell 2 (by omega), h.sx.cell 3 (by omega)⟩, h.sx.free 0, h.sx.free 1, h.sx.free 2, h.sx.free 3⟩
set_option maxRecDepth 100000 in
set_option maxHeartbeats 4000000 in
theorem mixed_any (F : Nat → Prop) (w : World) (s : S4) (a : Option Addr) (n c : Nat) (bs : List UInt8) (h : BytesAt F w (.slice a n c) bs) (h32 : 32 ≤ n) :
    Calls Try.prog 100 #[.agg s.cells, .slice a n c] w (MixD w (mixedS s (wordsOf bs))) := by
  obtain ⟨hn, hnc, hcm⟩ := BytesAt.n h
  unfold maxLen at hcm
  rcases SliceAt.split h with ⟨rfl, h0⟩ | ⟨b, o, rfl, -, -, -⟩
  · simp at hn; omega
  obtain ⟨m, hm⟩ : ∃ m, m = wordsOf bs := ⟨_, rfl⟩
  rw [← hm]
  have hmw : ∀ k, k < 4 → m.get k = wordAt (bs.drop (8 * k)) 0 := fun k hk => by rw [hm]; exact wordsOf_get bs k hk
  have HM := Lib.hid hmw
  have HN := Lib.hid hn
  have H := Lib.hid h
  obtain ⟨p, hp⟩ : ∃ p, p = s := ⟨_, rfl⟩
  obtain ⟨sa, sb, sc, sd⟩ := s
  obtain ⟨R, hR⟩ : ∃ R, R = mixedS ⟨sa, sb, sc, sd⟩ m := ⟨_, rfl⟩
  rw [← hR]
  rw [← hp] at hR
  simp only [S4.cells]
  have HR := Lib.hid hR
  have HP := Lib.hid hp
  clear h hn hm hmw hR hp
  go_enter Try.func100, Try.ntmps100
  go_wp2
  go_step3
  go_wp2
  go_loopw [12] (fun i wr => ∃ k : Nat, k ≤ 4 ∧ i = .int .i64 k ∧ Hid (MixSt w wr (S4.part k (S4.xor p m) p) p (S4.part k m ⟨0, 0, 0, 0⟩))) (fun i _ => 4 - (intOf i).toNat)
  case atStart =>
    refine ⟨0, by omega, rfl, ?_⟩
    rw [S4.part_zero, S4.part_zero, HP.out]
    exact ⟨Bel.alloc (Bel.alloc (Bel.alloc (Bel.alloc (Bel.refl w) _) _) _) _, by simp, (((St4.new w _ ⟨sa, sb, sc, sd⟩ rfl).alloc _).alloc _).alloc _, ((St4.new _ _ ⟨0, 0, 0, 0⟩ (by simp)).alloc _).alloc _, (St4.new _ _ ⟨sa, sb, sc, sd⟩ (by simp)).alloc _, St4.new _ _ ⟨0, 0, 0, 0⟩ (by simp)⟩
  case round =>
    obtain ⟨k, hk, rfl, HS⟩ := hrel
    by_cases hlt : k < 4
    · have g1 := HS.out.sx.cell k hlt
      have g2 := HS.out.sx.free k
      have g3 := HS.out.sm.cell k hlt
      have g4 := HS.out.sm.free k
      have hs := BytesAt.since (BytesAt.below H.out HS.out.bel) (8 * k) (by omega) (a2 := some ⟨b, o + 8 * k, none⟩) (by rw [if_neg (by omega)]; simp only [Option.map_some, add_at'])
      have hmk := HM.out k hlt
      have HSL := Lib.hid hs
      have HMK := Lib.hid hmk
      have hk0 : (0 : Int) ≤ (k : Int) := by omega
      have hk1 : (k : Int) < 4 := by omega
      have hkc : ((8 * k : Nat) : Int) ≤ (c : Int) := by omega
      have hkn : ((8 * k : Nat) : Int) ≤ (n : Int) := by omega
      clear hs hmk
      go_wp2_with fail
      refine (dword_any _ _ _ _ _ _ HSL.out (by omega)).mono ?_
      rintro e w' ⟨rfl, rfl⟩
      rw [← HMK.out]
      go_wp2_with fail
      obtain ⟨W, hW⟩ : ∃ W, W = wr.setCell ⟨w.heap.size + 1 + 1 + 1, k, none⟩ (.int .u64 (m.get k)) := ⟨_, rfl⟩
      rw [← hW]
      have HW : Hid (MixSt w W (S4.part k (S4.xor p m) p) p (S4.part (k + 1) m ⟨0, 0, 0, 0⟩)) := by
        rw [hW, ← S4.part_set m ⟨0, 0, 0, 0⟩ k hlt]
        exact HS.out.setm k hlt _
      clear hW HS g1 g2 g3 g4
      have g1 := HW.out.sx.cell k hlt
      have g2 := HW.out.sx.free k
      have g3 := HW.out.sm.cell k hlt
      rw [S4.part_get _ _ _ hlt] at g1
      rw [S4.part_succ_get m ⟨0, 0, 0, 0⟩ k hlt] at g3
      go_region
      have HN1 : Hid (MixSt w ((W.setCell ⟨w.heap.size, k, none⟩ (.int .u64 (bits .xor .u64 (p.get k) (m.get k)))).drew) (S4.part (k + 1) (S4.xor p m) p) p (S4.part (k + 1) m ⟨0, 0, 0, 0⟩)) := by
        rw [← S4.part_set _ p k hlt, S4.xor_get _ _ k hlt]
        exact (HW.out.setx k hlt _).drew
      clear HW g1 g2 g3
      go_wp2
      go_roundw
      case rel => exact ⟨k + 1, by omega, num_eq (by omega), HN1⟩
      case measure => simp [intOf]; omega
    · obtain rfl : k = 4 := by omega
      have hH := HS.out
      rw [S4.part_four, S4.part_four] at hH
      have HH := Lib.hid hH
      clear HS hlt hH
      go_wp2
      go_step3
      go_wp2
      rw [show ((4 : Nat) : Int) = 4 from rfl]
      go_loopw [8, 9] (fun kv rv W => ∃ r : Nat, r < 8 ∧ rv = .int .i64 r ∧ kv = .int .u64 (kay r) ∧ Hid (MixSt w W (rounds m (S4.xor p m) r) p m)) (fun _ rv _ => 8 - (intOf rv).toNat)
      case atStart => exact ⟨0, by omega, rfl, by rw [kay_zero], HH⟩
      case round =>
        obtain ⟨r, hr, rfl, rfl, HX⟩ := hrel
        obtain ⟨X, hX⟩ : ∃ X, X = rounds m (S4.xor p m) r := ⟨_, rfl⟩
        rw [← hX] at HX
        have HXE := Lib.hid hX
        clear hX
        obtain ⟨xa, xb, xc, xd⟩ := X
        obtain ⟨q0, q1, q2, q3⟩ : wr.cell? ⟨w.heap.size, 0, none⟩ = some (.int .u64 xa) ∧ wr.cell? ⟨w.heap.size, 1, none⟩ = some (.int .u64 xb) ∧ wr.cell? ⟨w.heap.size, 2, none⟩ = some (.int .u64 xc) ∧ wr.cell? ⟨w.heap.size, 3, none⟩ = some (.int .u64 xd) :=
          ⟨HX.out.sx.cell 0 (by omega), HX.out.sx.cell 1 (by omega), HX.out.sx.cell 2 (by omega), HX.out.sx.cell 3 (by omega)⟩
        have f0 := HX.out.sx.free 0
        have f1 := HX.out.sx.free 1
        have f2 := HX.out.sx.free 2
        have f3 := HX.out.sx.free 3
        have gm := HX.out.sm.cell (r % 4) (Nat.mod_lt _ (by omega))
        obtain ⟨y, hy⟩ : ∃ y, y = m.get (r % 4) := ⟨_, rfl⟩
        rw [← hy] at gm
        have HY := Lib.hid hy
        obtain ⟨ky, hky⟩ : ∃ ky, ky = kay r := ⟨_, rfl⟩
        rw [← hky]
        have HK := Lib.hid hky
        have hr0 : (0 : Int) ≤ (r : Int) := by omega
        have hr1 : (r : Int) < 8 := by omega
        clear hy hky
        go_wp2
        go_region
        obtain ⟨a1, ha1⟩ : ∃ v, v = IntKind.u64.wrap (xa + IntKind.u64.wrap (IntKind.u64.wrap (xb + y) + ky)) := ⟨_, rfl⟩
        rw [← ha1]
        have Ha1 := Lib.hid ha1
        clear ha1
        obtain ⟨W0, hW0⟩ : ∃ v, v = (wr.setCell ⟨w.heap.size, 0, none⟩ (.int .u64 a1)).drew := ⟨_, rfl⟩
        rw [← hW0]
        have HX0 : Hid (MixSt w W0 ⟨a1, xb, xc, xd⟩ p m) := by rw [hW0]; exact (HX.out.setx 0 (by omega) a1).drew
        clear hW0 q0 q1 q2 q3 f0 f1 f2 f3
        obtain ⟨⟨q0, q1, q2, q3⟩, f0, f1, f2, f3⟩ := HX0.out.cells
        clear gm
        go_wp2_with fail
        refine (rotl_32 _ _ (bits_u64_range _ _ _).1 (bits_u64_range _ _ _).2).mono ?_
        rintro e w1 ⟨rfl, rfl⟩
        obtain ⟨d1, hd1⟩ : ∃ v, v = rotW (bits .xor .u64 xd a1) 32 := ⟨_, rfl⟩
        rw [← hd1]
        have Hd1 := Lib.hid hd1
        clear hd1
        go_wp2_with fail
        obtain ⟨c1, hc1⟩ : ∃ v, v = IntKind.u64.wrap (xc + d1) := ⟨_, rfl⟩
        rw [← hc1]
        have Hc1 := Lib.hid hc1
        clear hc1
        obtain ⟨W1, hW1⟩ : ∃ v, v = ((W0.setCell ⟨w.heap.size, 3, none⟩ (.int .u64 d1)).setCell ⟨w.heap.size, 2, none⟩ (.int .u64 c1)) := ⟨_, rfl⟩
        rw [← hW1]
        have HX1 : Hid (MixSt w W1 ⟨a1, xb, c1, d1⟩ p m) := by rw [hW1]; exact ((HX0.out.setx 3 (by omega) d1).setx 2 (by omega) c1)
        clear hW1 q0 q1 q2 q3 f0 f1 f2 f3
        obtain ⟨⟨q0, q1, q2, q3⟩, f0, f1, f2, f3⟩ := HX1.out.cells
        refine (rotl_24 _ _ (bits_u64_range _ _ _).1 (bits_u64_range _ _ _).2).mono ?_
        rintro e w1 ⟨rfl, rfl⟩
        obtain ⟨b1, hb1⟩ : ∃ v, v = rotW (bits .xor .u64 xb c1) 24 := ⟨_, rfl⟩
        rw [← hb1]
        have Hb1 := Lib.hid hb1
        clear hb1
        go_wp2_with fail
        obtain ⟨a2, ha2⟩ : ∃ v, v = IntKind.u64.wrap (a1 + b1) := ⟨_, rfl⟩
        rw [← ha2]
        have Ha2 := Lib.hid ha2
        clear ha2
        obtain ⟨W2, hW2⟩ : ∃ v, v = ((W1.setCell ⟨w.heap.size, 1, none⟩ (.int .u64 b1)).setCell ⟨w.heap.size, 0, none⟩ (.int .u64 a2)) := ⟨_, rfl⟩
        rw [← hW2]
        have HX2 : Hid (MixSt w W2 ⟨a2, b1, c1, d1⟩ p m) := by rw [hW2]; exact ((HX1.out.setx 1 (by omega) b1).setx 0 (by omega) a2)
        clear hW2 q0 q1 q2 q3 f0 f1 f2 f3
        obtain ⟨⟨q0, q1, q2, q3⟩, f0, f1, f2, f3⟩ := HX2.out.cells
        refine (rotl_16 _ _ (bits_u64_range _ _ _).1 (bits_u64_range _ _ _).2).mono ?_
        rintro e w1 ⟨rfl, rfl⟩
        obtain ⟨d2, hd2⟩ : ∃ v, v = rotW (bits .xor .u64 d1 a2) 16 := ⟨_, rfl⟩
        rw [← hd2]
        have Hd2 := Lib.hid hd2
        clear hd2
        go_wp2_with fail
        obtain ⟨c2, hc2⟩ : ∃ v, v = IntKind.u64.wrap (c1 + d2) := ⟨_, rfl⟩
        rw [← hc2]
        have Hc2 := Lib.hid hc2
        clear hc2
        obtain ⟨W3, hW3⟩ : ∃ v, v = ((W2.setCell ⟨w.heap.size, 3, none⟩ (.int .u64 d2)).setCell ⟨w.heap.size, 2, none⟩ (.int .u64 c2)) := ⟨_, rfl⟩
        rw [← hW3]
        have HX3 : Hid (MixSt w W3 ⟨a2, b1, c2, d2⟩ p m) := by rw [hW3]; exact ((HX2.out.setx 3 (by omega) d2).setx 2 (by omega) c2)
        clear hW3 q0 q1 q2 q3 f0 f1 f2 f3
        obtain ⟨⟨q0, q1, q2, q3⟩, f0, f1, f2, f3⟩ := HX3.out.cells
        refine (rotl_63 _ _ (bits_u64_range _ _ _).1 (bits_u64_range _ _ _).2).mono ?_
        rintro e w1 ⟨rfl, rfl⟩
        obtain ⟨b2, hb2⟩ : ∃ v, v = rotW (bits .xor .u64 b1 c2) 63 := ⟨_, rfl⟩
        rw [← hb2]
        have Hb2 := Lib.hid hb2
        clear hb2
        have hround : rounds m (S4.xor p m) (r + 1) = ⟨b2, c2, d2, a2⟩ := by
          show round m r (rounds m (S4.xor p m) r) = _
          rw [← HXE.out]
          unfold round addW xorW
          simp only []
          rw [← HY.out, ← HK.out, ← Ha1.out, ← Hd1.out, ← Hc1.out, ← Hb1.out, ← Ha2.out, ← Hd2.out, ← Hc2.out, ← Hb2.out]
        have hks : IntKind.u64.wrap (ky + 11400714819323198485) = kay (r + 1) := by rw [HK.out]; exact kay_step r
        obtain ⟨WE, hWE⟩ : ∃ v, v = ((((W3.setCell ⟨w.heap.size, 1, none⟩ (.int .u64 b2)).setCell ⟨w.heap.size, 0, none⟩ (.int .u64 b2)).setCell ⟨w.heap.size, 1, none⟩ (.int .u64 c2)).setCell ⟨w.heap.size, 2, none⟩ (.int .u64 d2)).setCell ⟨w.heap.size, 3, none⟩ (.int .u64 a2) := ⟨_, rfl⟩
        have hend : MixSt w WE (rounds m (S4.xor p m) (r + 1)) p m := by
          rw [hround, hWE]
          exact ((((HX3.out.setx 1 (by omega) b2).setx 0 (by omega) b2).setx 1 (by omega) c2).setx 2 (by omega) d2).setx 3 (by omega) a2
        have HE := Lib.hid hend
        have HWE := Lib.hid hWE
        have HKS := Lib.hid hks
        clear hround hend hWE hks
        by_cases h7 : r = 7
        · subst h7
          go_wp2
          rw [← HWE.out]
          obtain ⟨Y, hY⟩ : ∃ Y, Y = rounds m (S4.xor p m) 8 := ⟨_, rfl⟩
          have hE2 : MixSt w WE Y p m := by rw [hY]; exact HE.out
          have hRY : R = Y.xor p := by rw [hY]; exact HR.out
          have HE2 := Lib.hid hE2
          have HRY := Lib.hid hRY
          clear hY hE2 hRY q0 q1 q2 q3 f0 f1 f2 f3
          go_loopw [105] (fun i wr => ∃ k : Nat, k ≤ 4 ∧ i = .int .i64 k ∧ Hid (MixSt w wr (S4.part k (S4.xor Y p) Y) p m)) (fun i _ => 4 - (intOf i).toNat)
          case atStart => exact ⟨0, by omega, rfl, by rw [S4.part_zero]; exact HE2.out⟩
          case round =>
            obtain ⟨k, hk, rfl, HS⟩ := hrel
            by_cases hlt : k < 4
            · have g1 := HS.out.sx.cell k hlt
              have g2 := HS.out.sx.free k
              have g3 := HS.out.sp.cell k hlt
              rw [S4.part_get _ _ _ hlt] at g1
              have hk0 : (0 : Int) ≤ (k : Int) := by omega
              have hk1 : (k : Int) < 4 := by omega
              go_wp2
              go_region
              have HN1 : Hid (MixSt w ((wr.setCell ⟨w.heap.size, k, none⟩ (.int .u64 (bits .xor .u64 (Y.get k) (p.get k)))).drew) (S4.part (k + 1) (S4.xor Y p) Y) p m) := by
                rw [← S4.part_set _ Y k hlt, S4.xor_get _ _ k hlt]
                exact (HS.out.setx k hlt _).drew
              clear HS g1 g2 g3
              go_wp2
              go_roundw
              case rel => exact ⟨k + 1, by omega, num_eq (by omega), HN1⟩
              case measure => simp [intOf]; omega
            · obtain rfl : k = 4 := by omega
              have hH := HS.out
              rw [S4.part_four, ← HRY.out] at hH
              clear HS hlt
              obtain ⟨ra, rb, rc, rd⟩ := R
              obtain ⟨⟨q0, q1, q2, q3⟩, -, -, -, -⟩ := hH.cells
              have f0 := hH.sr.free 0
              have f1 := hH.sr.free 1
              have f2 := hH.sr.free 2
              have f3 := hH.sr.free 3
              have c0 := hH.sr.cell 0 (by omega)
              have c1 := hH.sr.cell 1 (by omega)
              have c2 := hH.sr.cell 2 (by omega)
              have c3 := hH.sr.cell 3 (by omega)
              have HH := Lib.hid hH
              clear hH
              go_wp2
              rw [Exit.noGoto_ret]
              obtain ⟨WF, hWF⟩ : ∃ v, v = (((wr.setCell ⟨w.heap.size + 1, 0, none⟩ (.int .u64 ra)).setCell ⟨w.heap.size + 1, 1, none⟩ (.int .u64 rb)).setCell ⟨w.heap.size + 1, 2, none⟩ (.int .u64 rc)).setCell ⟨w.heap.size + 1, 3, none⟩ (.int .u64 rd) := ⟨_, rfl⟩
              have hst : St4 WF (w.heap.size + 1) 121 ⟨ra, rb, rc, rd⟩ := by
                rw [hWF]
                exact (((HH.out.sr.set 0 (by omega) ra).set 1 (by omega) rb).set 2 (by omega) rc).set 3 (by omega) rd
              have hbel : Below w.heap.size w WF := by
                rw [hWF]
                exact (((HH.out.bel.setCell (Nat.le_succ _) _).setCell (Nat.le_succ _) _).setCell (Nat.le_succ _) _).setCell (Nat.le_succ _) _
              rw [← hWF]
              have r0 := hst.cell 0 (by omega)
              have r1 := hst.cell 1 (by omega)
              have r2 := hst.cell 2 (by omega)
              have r3 := hst.cell 3 (by omega)
              simp only [S4.get] at r0 r1 r2 r3
              refine bodyPost_ret (v := .agg #[.int .u64 ra, .int .u64 rb, .int .u64 rc, .int .u64 rd]) (by simp [results, Try.results100, go_sem, r0, r1, r2, r3]) rfl ?_
              exact ⟨rfl, hbel⟩
        · have h7' : (r : Int) < 7 := by omega
          go_wp2
          rw [← HWE.out]
          go_roundw
          case rel => exact ⟨r + 1, by omega, num_eq (by omega), num_eq HKS.out, HE⟩
          case measure => simp [intOf]; omega
end Go.Proofs.Ytndkkgkcbbmnpaa
namespace Go.Pg
open Go.RowKit
section
variable {P : Program}
theorem zeroCells_u8 (m : Nat) : Builtin.zeroCells (Value.int .u8 0).cells m = (List.replicate m (Value.int .u8 0)).toArray := by
  apply Array.ext'
  simp only [Builtin.zeroCells, Value.cells, Array.toList_map, Array.toList_range]
  apply List.ext_getElem (by simp)
  intro i h1 h2
  simp [Nat.mod_one]
theorem run_append_zeros (w : World) (base : Nat) (t ti ty e : TypeId) (i : TypeInfo) (ht : P.underlying t = some (.slice e)) (hti : P.underlying ti = some (.int .i64)) (hi : P.info? e = some i) (hz : i.zero = some (.int .u8 0))
    (hsize : i.size = 1) (hby : i.bytes = 1) (g n cap : Nat) (xs : List Value) (hown : w.ownsRow base e 1 (.slice (some ⟨g, 0, none⟩) n cap) n xs)
    (m : Nat) (h63 : n + m ≤ maxLen) (hbytes : (n + m) * 1 ≤ 140737488355328) (hm0 : 0 < m) (hbase : base ≤ w.heap.size) :
    ∃ v' w', (Builtin.append_ #[t, ti] ty #[.slice (some ⟨g, 0, none⟩) n cap, .int .i64 m]).run P w = .ok v' w' ∧ w'.ownsRow base e 1 v' (n + m) (xs ++ List.replicate m (.int .u8 0)) ∧ w.grownBy w' (some g) ∧
      (∀ b, v'.ownBlock = some b → b = g ∨ w.heap.size ≤ b) := by
  rcases hown.2 with ⟨h, _⟩ | ⟨g', cap', cur, h, hbg, hg, hnc, hcm, hcs, htake⟩
  · simp at h
  · simp only [Value.slice.injEq, Option.some.injEq, Addr.mk.injEq, and_true, true_and] at h
    obtain ⟨rfl, rfl⟩ := h
    have hxl : xs.length = n := by rw [hown.1, Nat.mul_one]
    have hz' : (List.replicate m (Value.int .u8 0)).length = m := by simp
    have hlen : (xs ++ List.replicate m (Value.int .u8 0)).length = (n + m) * 1 := by rw [List.length_append, hz', hxl, Nat.mul_one]
    have hw : IntKind.i64.wrap (m : Int) = (m : Int) := by unfold maxLen at h63; exact IntWalk.i64_in _ (by omega)
    have hneg : ¬ ((m : Int) < 0) := by omega
    have hbig : ¬ (281474976710656 < (m : Int)) := by omega
    have hmz : m ≠ 0 := by omega
    by_cases hroom : n + m ≤ cap
    · have hst := run_storeCells_at P g n e (List.replicate m (Value.int .u8 0)) 0 cur w hg (by rw [hz', hcs]; omega) (by intro v hv; rw [List.mem_replicate] at hv; rw [hv.2]; rfl)
      simp only [Nat.add_zero] at hst
      have hr : (Builtin.append_ #[t, ti] ty #[.slice (some ⟨g, 0, none⟩) n cap, .int .i64 m]).run P w = .ok (.slice (some ⟨g, 0, none⟩) (n + m) cap) (w.setRow g (cur.toList.take n ++ List.replicate m (Value.int .u8 0) ++ cur.toList.drop (n + m)).toArray) := by
        simp [Builtin.append_, run_underlying ht, run_underlying hti, sizeOf, typeInfo, zeroValue, hi, hz, hsize, hby, asInt, asIntOf, hw, hneg, hbig, hmz, hroom, zeroCells_u8, Addr.add_lit, hst]
      refine ⟨_, _, hr, ⟨hlen, .inr ⟨g, cap, _, rfl, hbg, setRow_heap w g cur _ e _ hg, hroom, hcm, ?_, ?_⟩⟩, ⟨rfl, rfl, rfl, by simp, fun k _ hk => setRow_other w g k _ (fun e => hk (by simp [e]))⟩, fun b hb => .inl (by simpa [Value.ownBlock] using hb.symm)⟩
      · simp only [List.size_toArray, List.length_append, List.length_take, List.length_drop, Array.length_toList, hz', hcs]; omega
      · rw [Nat.mul_one] at htake
        rw [htake, Nat.mul_one, ← Nat.mul_one (n + m), ← hlen]
        exact List.take_left
    · have holds : ∀ j u, xs[j]? = some u → w.cell? ((⟨g, 0, none⟩ : Addr).add j) = some u := hown.cells (g := g) rfl
      have hfo := run_firstCells_some (P := P) w.drew 1 n ⟨g, 0, none⟩ n cap xs hown.1 (by simpa using holds)
      have h63' : ¬ (9223372036854775807 < ((n : Int) + (m : Int))) := by unfold maxLen at h63; omega
      have hfit := growslice_fits (need := n + m) (old := cap) (bytes := 1) (by omega) hbytes
      have h48' : ¬ (281474976710656 < Builtin.nextslicecap (n + m) cap) := by omega
      have hr : (Builtin.append_ #[t, ti] ty #[.slice (some ⟨g, 0, none⟩) n cap, .int .i64 m]).run P w = .ok (.slice (some ⟨w.heap.size, 0, none⟩) (n + m) (grownCap w (n + m) cap e))
          (w.drew.alloc (.cells (xs.toArray ++ (List.replicate m (Value.int .u8 0)).toArray ++ Builtin.zeroCells (Value.int .u8 0).cells (grownCap w (n + m) cap e - (n + m))) e)) := by
        simp [Builtin.append_, run_underlying ht, run_underlying hti, sizeOf, typeInfo, zeroValue, hi, hz, hsize, hby, asInt, asIntOf, hw, hneg, hbig, hmz, hroom, h63', h48', Question.forced, hfo, newRow, grownCap, zeroCells_u8]
      have hge := grownCap_ge w (n + m) cap e
      have hcm' := grownCap_le_maxLen w (n + m) cap e h63
      refine ⟨_, _, hr, ⟨hlen, .inr ⟨w.heap.size, _, _, rfl, hbase, heap_alloc_new w.drew _, hge, hcm', ?_, ?_⟩⟩, ⟨rfl, rfl, rfl, by simp, fun k hk _ => Below.heap_alloc w.drew _ k hk⟩, fun b hb => .inr ?_⟩
      · have e1 : grownCap w (n + m) cap e = (n + m) + (grownCap w (n + m) cap e - (n + m)) := by omega
        rw [zeroCells_u8]
        simp only [Array.size_append, List.size_toArray, hxl, hz', List.length_replicate]
        omega
      · have : ((xs.toArray ++ (List.replicate m (Value.int .u8 0)).toArray ++ Builtin.zeroCells (Value.int .u8 0).cells (grownCap w (n + m) cap e - (n + m))) : Array Value).toList = (xs ++ List.replicate m (Value.int .u8 0)) ++ (Builtin.zeroCells (Value.int .u8 0).cells (grownCap w (n + m) cap e - (n + m))).toList := by simp
        rw [this, ← hlen, List.take_left]
      · simp only [Value.ownBlock, Option.some.injEq] at hb
        omega
theorem wpList_append_zeros {w : World} {ops : Array Oper} {rest : List Oper} {o : Oper} {a : Act} {Q : Exit → Act → World → Prop} (hgd : o.guard = none) (s x : Operand) (t ti : TypeId)
    (ho : o.op = .call { callee := .builtin .append, args := #[s, x], argTypes := #[t, ti] })
    (base : Nat) (e : TypeId) (i : TypeInfo) (ht : P.underlying t = some (.slice e)) (hti : P.underlying ti = some (.int .i64)) (hi : P.info? e = some i) (hz : i.zero = some (.int .u8 0))
    (hsize : i.size = 1) (hby : i.bytes = 1) (g n cap : Nat) (l : List UInt8) (hs : a.eval s = .slice (some ⟨g, 0, none⟩) n cap) (hown : OwnAt w base e 1 byteR (.slice (some ⟨g, 0, none⟩) n cap) l)
    (m : Nat) (hx : a.eval x = .int .i64 m) (hbytes : (l.length + m) * 1 ≤ 140737488355328) (hm0 : 0 < m) (hbase : base ≤ w.heap.size)
    (h : ∀ v' w', OwnAt w' base e 1 byteR v' (l ++ List.replicate m 0) → w.grownBy w' (some g) → Moved w (.slice (some ⟨g, 0, none⟩) n cap) v' → wpList P ops Q rest (a.put o.dst v') w') : wpList P ops Q (o :: rest) a w := by
  obtain ⟨xs, h1, h2⟩ := hown
  have hn : n = l.length := by
    rcases h1.2 with ⟨h, _⟩ | ⟨g', cap', cur, h, -⟩
    · simp at h
    · simp only [Value.slice.injEq] at h
      exact h.2.1
  subst hn
  have h63 : l.length + m ≤ maxLen := by unfold maxLen; omega
  obtain ⟨v', w', r1, r2, r3, r4⟩ := run_append_zeros (P := P) w base t ti o.type e i ht hti hi hz hsize hby g l.length cap xs h1 m h63 hbytes hm0 hbase
  refine wpList_plain hgd fun K hK => ?_
  unfold Oper.wp execOp
  simp only [ho, resolve, invoke, builtin, Sem.run_bind, Sem.run_pure, Result.andThen_ok, List.map_toArray, List.map_cons, List.map_nil, hs, hx, r1]
  refine hK _ _ (h v' w' ⟨xs ++ List.replicate m (.int .u8 0), by simpa using r2, h2.append ?_⟩ r3 (fun b hb => (r4 b hb).imp (fun e => by rw [e]; rfl) id))
  refine ⟨by simp, fun i x hx => ?_⟩
  obtain ⟨hi, rfl⟩ := List.getElem?_eq_some_iff.1 hx
  refine ⟨[.int .u8 0], rfl, by simp [byteR], fun j u hu => ?_⟩
  match j, hu with
  | 0, hu => simp at hu hi; subst hu; simp [hi]
end
end Go.Pg
namespace Go.Pg
open Go.RowKit
/-- the first k of some bytes laid over a row's cells from a place on -/
def layAt (cs : Array Value) (o : Nat) (L : List UInt8) (k : Nat) : Array Value := (cs.toList.take o ++ ((L.take k).map fun x => Value.int .u8 (x.toNat : Int)) ++ cs.toList.drop (o + k)).toArray
theorem begunS_get (k : Nat) (h : k < 4) : begunS.get k = kay k := by
  rcases k with _ | _ | _ | _ | k
  all_goals first | (simp only [S4.get, begunS]; done) | omega
theorem layAt_zero (cs : Array Value) (o : Nat) (L : List UInt8) : layAt cs o L 0 = cs := by
  apply Array.ext'; simp [layAt]
theorem layAt_size (cs : Array Value) (o : Nat) (L : List UInt8) (k : Nat) (hk : k ≤ L.length) (h : o + k ≤ cs.size) : (layAt cs o L k).size = cs.size := by
  simp [layAt]; omega
theorem layAt_set (cs : Array Value) (o : Nat) (L : List UInt8) (k : Nat) (hk : k < L.length) (h : o + k < cs.size) : (layAt cs o L k).setIfInBounds (o + k) (.int .u8 ((L[k]).toNat : Int)) = layAt cs o L (k + 1) := by
  apply Array.ext'
  have h1 : (cs.toList.take o ++ ((L.take k).map fun x => Value.int .u8 (x.toNat : Int))).length = o + k := by simp; omega
  simp only [layAt, List.setIfInBounds_toArray]
  rw [List.set_append_right _ _ (by omega), h1, Nat.sub_self, List.drop_eq_getElem_cons (by simpa using h), List.set_cons_zero, List.take_succ_eq_append_getElem hk, List.map_append]
  simp [List.append_assoc, Nat.add_assoc]
theorem layAt_get (cs : Array Value) (o : Nat) (L : List UInt8) (k : Nat) (hk : k ≤ L.length) (h : o + k < cs.size) : ∃ u, (layAt cs o L k)[o + k]? = some u := by
  rw [Array.getElem?_eq_getElem (by rw [layAt_size cs o L k hk (by omega)]; exact h)]; exact ⟨_, rfl⟩
end Go.Pg
namespace Go.Proofs.Ytndkkgkcbbmnpaa
open Go.RowKit Go.Pg

def LayD (w : World) (g : Nat) (cs : Array Value) (e : TypeId) (en : Ending) (w' : World) : Prop := en = .returned (.tuple #[]) ∧ w'.heap[g]? = some (.cells cs e (0, 0)) ∧ Chg (fun k => k = g) w w'
set_option maxRecDepth 100000 in
set_option maxHeartbeats 1000000 in
theorem lay_any (w : World) (g o n c : Nat) (cs : Array Value) (e : TypeId) (hg : w.heap[g]? = some (.cells cs e (0, 0))) (ho : o + 8 ≤ cs.size) (h8 : 8 ≤ n) (hn : n ≤ 9223372036854775807) (x : Nat) (_hx : (x : Int) < 18446744073709551616) :
    Calls Try.prog 101 #[.slice (some ⟨g, o, none⟩) n c, .int .u64 x] w (LayD w g (layAt cs o (beBytes 8 x) 8) e) := by
  have HG := Lib.hid hg
  go_enter Try.func101, Try.ntmps101
  clear hg
  go_wp2
  go_loopw [5] (fun i wr => ∃ k : Nat, k ≤ 8 ∧ i = .int .i64 k ∧ Hid (wr.heap[g]? = some (.cells (layAt cs o (beBytes 8 x) k) e (0, 0)) ∧ Chg (fun k => k = g) w wr)) (fun i _ => 8 - (intOf i).toNat)
  case atStart => exact ⟨0, by omega, rfl, by rw [layAt_zero]; exact HG.out, Chg.refl _ _⟩
  case round =>
    obtain ⟨k, hk, rfl, HB⟩ := hrel
    by_cases hlt : k < 8
    · obtain ⟨u, hu⟩ := layAt_get cs o (beBytes 8 x) k (by rw [beBytes_length]; omega) (by omega)
      have hc := (cell_of_row wr g (o + k) _ _ _ HB.out.1).trans hu
      have hf := frozen_of_row wr g (o + k) _ _ HB.out.1
      have hk0 : (0 : Int) ≤ (k : Int) := by omega
      have hk1 : (k : Int) < 8 := by omega
      have hkn : (k : Int) < (n : Int) := by omega
      clear hu
      go_wp2
      go_roundw
      case rel => exact ⟨k + 1, by omega, num_eq (by omega), by rw [key_cell x k hlt, blk_setCell HB.out.1, layAt_set cs o _ k (by rw [beBytes_length]; exact hlt) (by omega)], HB.out.2.setCell (.inr rfl) _⟩
      case measure => simp [intOf]; omega
    · obtain rfl : k = 8 := by omega
      go_wp2
      go_end0
      exact ⟨rfl, HB.out.1, HB.out.2⟩

set_option maxRecDepth 100000 in
set_option maxHeartbeats 1000000 in
theorem begun_any (w : World) : Calls Try.prog 99 #[] w (MixD w begunS) := by
  go_enter Try.func99, Try.ntmps99
  go_wp2
  go_loopw [2, 4] (fun kv i wr => ∃ k : Nat, k ≤ 4 ∧ i = .int .i64 k ∧ kv = .int .u64 (if k = 0 then 0 else kay (k - 1)) ∧ Hid (Below w.heap.size w wr ∧ St4 wr w.heap.size 121 ⟨0, 0, 0, 0⟩ ∧ St4 wr (w.heap.size + 1) 121 (S4.part k begunS ⟨0, 0, 0, 0⟩))) (fun _ i _ => 4 - (intOf i).toNat)
  case atStart => exact ⟨0, by omega, rfl, rfl, Bel.alloc (Bel.alloc (Bel.refl w) _) _, (St4.new w _ ⟨0, 0, 0, 0⟩ rfl).alloc _, by rw [S4.part_zero]; exact St4.new _ _ ⟨0, 0, 0, 0⟩ (by simp)⟩
  case round =>
    obtain ⟨k, hk, rfl, rfl, HS⟩ := hrel
    by_cases hlt : k < 4
    · have g1 := HS.out.2.2.cell k hlt
      have g2 := HS.out.2.2.free k
      obtain ⟨y, hy⟩ : ∃ y : Int, y = if k = 0 then 0 else kay (k - 1) := ⟨_, rfl⟩
      have hys : IntKind.u64.wrap (y + 11400714819323198485) = kay k := by
        rw [hy]
        split
        · rename_i h; subst h; rw [kay_zero]; rfl
        · rw [kay_step, Nat.sub_add_cancel (by omega)]
      rw [← hy]
      have hk0 : (0 : Int) ≤ (k : Int) := by omega
      have hk1 : (k : Int) < 4 := by omega
      have HYS := Lib.hid hys
      clear hy hys
      go_wp2
      go_roundw
      case rel =>
        refine ⟨k + 1, by omega, num_eq (by omega), ?_, ?_⟩
        · rw [HYS.out, if_neg (by omega), Nat.add_sub_cancel]
        · rw [HYS.out]
          obtain ⟨h1, h2, h3⟩ := HS.out
          refine ⟨h1.setCell (Nat.le_succ _) _, h2.far (by omega) _, ?_⟩
          rw [← S4.part_set _ _ k hlt, begunS_get k hlt]
          exact h3.set k hlt _
      case measure => simp [intOf]; omega
    · obtain rfl : k = 4 := by omega
      obtain ⟨h1, h2, h3⟩ := HS.out
      rw [S4.part_four] at h3
      obtain ⟨⟨q0, q1, q2, q3⟩⟩ : Nonempty (wr.cell? ⟨w.heap.size + 1, 0, none⟩ = some (.int .u64 (kay 0)) ∧ wr.cell? ⟨w.heap.size + 1, 1, none⟩ = some (.int .u64 (kay 1)) ∧ wr.cell? ⟨w.heap.size + 1, 2, none⟩ = some (.int .u64 (kay 2)) ∧ wr.cell? ⟨w.heap.size + 1, 3, none⟩ = some (.int .u64 (kay 3))) :=
        ⟨h3.cell 0 (by omega), h3.cell 1 (by omega), h3.cell 2 (by omega), h3.cell 3 (by omega)⟩
      have c0 := h2.cell 0 (by omega)
      have c1 := h2.cell 1 (by omega)
      have c2 := h2.cell 2 (by omega)
      have c3 := h2.cell 3 (by omega)
      have f0 := h2.free 0
      have f1 := h2.free 1
      have f2 := h2.free 2
      have f3 := h2.free 3
      have HH := Lib.hid HS.out
      clear h1 h2 h3 HS
      obtain ⟨k0, hk0⟩ : ∃ v, v = kay 0 := ⟨_, rfl⟩
      obtain ⟨k1, hk1⟩ : ∃ v, v = kay 1 := ⟨_, rfl⟩
      obtain ⟨k2, hk2⟩ : ∃ v, v = kay 2 := ⟨_, rfl⟩
      obtain ⟨k3, hk3⟩ : ∃ v, v = kay 3 := ⟨_, rfl⟩
      rw [← hk0] at q0
      rw [← hk1] at q1
      rw [← hk2] at q2
      rw [← hk3] at q3
      have HB : Hid (begunS = ⟨k0, k1, k2, k3⟩) := Lib.hid (by rw [hk0, hk1, hk2, hk3]; rfl)
      clear hk0 hk1 hk2 hk3
      go_wp2
      obtain ⟨WF, hWF⟩ : ∃ v, v = (((wr.setCell ⟨w.heap.size, 0, none⟩ (.int .u64 k0)).setCell ⟨w.heap.size, 1, none⟩ (.int .u64 k1)).setCell ⟨w.heap.size, 2, none⟩ (.int .u64 k2)).setCell ⟨w.heap.size, 3, none⟩ (.int .u64 k3) := ⟨_, rfl⟩
      have hst : St4 WF w.heap.size 121 ⟨k0, k1, k2, k3⟩ := by
        rw [hWF]
        exact (((HH.out.2.1.set 0 (by omega) k0).set 1 (by omega) k1).set 2 (by omega) k2).set 3 (by omega) k3
      have hbel : Below w.heap.size w WF := by
        rw [hWF]
        exact (((HH.out.1.setCell (Nat.le_refl _) _).setCell (Nat.le_refl _) _).setCell (Nat.le_refl _) _).setCell (Nat.le_refl _) _
      rw [← hWF]
      have r0 := hst.cell 0 (by omega)
      have r1 := hst.cell 1 (by omega)
      have r2 := hst.cell 2 (by omega)
      have r3 := hst.cell 3 (by omega)
      simp only [S4.get] at r0 r1 r2 r3
      refine bodyPost_ret (v := .agg #[.int .u64 k0, .int .u64 k1, .int .u64 k2, .int .u64 k3]) (by simp [results, Try.results99, go_sem, r0, r1, r2, r3]) rfl ?_
      exact ⟨by rw [HB.out]; rfl, hbel⟩
end Go.Proofs.Ytndkkgkcbbmnpaa
namespace Go.Pg
open Go.RowKit
theorem restOf_short (l : List UInt8) (h : l.length < 32) : restOf l = l := by unfold restOf; rw [Nat.div_eq_of_lt h]; rfl
theorem restOf_step (l : List UInt8) (h : 32 ≤ l.length) : restOf l = restOf (l.drop 32) := by
  unfold restOf
  rw [List.drop_drop, List.length_drop]
  congr 1
  omega
theorem restOf_lt (l : List UInt8) : (restOf l).length < 32 := by unfold restOf; rw [List.length_drop]; omega
end Go.Pg
namespace Go.Proofs.Ytndkkgkcbbmnpaa
open Go.RowKit Go.Pg

/-- a hash lies in a block -/
def HashAt (w : World) (b : Nat) (s : S4) (v : Value) (n : Int) : Prop := w.heap[b]? = some (.cells #[.int .u64 s.a, .int .u64 s.b, .int .u64 s.c, .int .u64 s.d, v, .int .i64 n] 124 (0, 0))
theorem HashAt.cells {w : World} {b : Nat} {s : S4} {v : Value} {n : Int} (h : HashAt w b s v n) :
    (w.cell? ⟨b, 0, none⟩ = some (.int .u64 s.a) ∧ w.cell? ⟨b, 1, none⟩ = some (.int .u64 s.b) ∧ w.cell? ⟨b, 2, none⟩ = some (.int .u64 s.c) ∧ w.cell? ⟨b, 3, none⟩ = some (.int .u64 s.d) ∧ w.cell? ⟨b, 4, none⟩ = some v ∧ w.cell? ⟨b, 5, none⟩ = some (.int .i64 n)) := by
  refine ⟨?_, ?_, ?_, ?_, ?_, ?_⟩ <;> (rw [cell_of_row _ _ _ _ _ _ h]; rfl)
theorem HashAt.free {w : World} {b : Nat} {s : S4} {v : Value} {n : Int} (h : HashAt w b s v n) (k : Nat) : w.frozen? ⟨b, k, none⟩ = false := frozen_of_row w b k _ _ h
theorem HashAt.lt {w : World} {b : Nat} {s : S4} {v : Value} {n : Int} (h : HashAt w b s v n) : b < w.heap.size := (Array.getElem?_eq_some_iff.1 h).1
theorem HashAt.setv {w : World} {b : Nat} {s : S4} {v : Value} {n : Int} (h : HashAt w b s v n) (u : Value) : HashAt (w.setCell ⟨b, 4, none⟩ u) b s u n := blk_setCell h
theorem HashAt.setn {w : World} {b : Nat} {s : S4} {v : Value} {n : Int} (h : HashAt w b s v n) (m : Int) : HashAt (w.setCell ⟨b, 5, none⟩ (.int .i64 m)) b s v m := blk_setCell h
theorem HashAt.sets {w : World} {b : Nat} {s : S4} {v : Value} {n : Int} (h : HashAt w b s v n) (t : S4) :
    HashAt ((((w.setCell ⟨b, 0, none⟩ (.int .u64 t.a)).setCell ⟨b, 1, none⟩ (.int .u64 t.b)).setCell ⟨b, 2, none⟩ (.int .u64 t.c)).setCell ⟨b, 3, none⟩ (.int .u64 t.d)) b t v n :=
  blk_setCell (blk_setCell (blk_setCell (blk_setCell h)))
theorem HashAt.same {w w' : World} {b : Nat} {s : S4} {v : Value} {n : Int} (h : HashAt w b s v n) (hb : w'.heap[b]? = w.heap[b]?) : HashAt w' b s v n := hb.trans h

def NewD (w : World) (e : Ending) (w' : World) : Prop := ∃ b, e = .returned (.pointer (some ⟨b, 0, none⟩)) ∧ w.heap.size ≤ b ∧ HashAt w' b begunS (.slice none 0 0) 0 ∧ Below w.heap.size w w'
set_option maxRecDepth 100000 in
set_option maxHeartbeats 1000000 in
theorem dnew_any (w : World) : Calls Try.prog 84 #[] w (NewD w) := by
  go_enter Try.func84, Try.ntmps84
  go_wp2_with fail
  refine (begun_any w).mono ?_
  rintro e w1 ⟨rfl, hb⟩
  obtain ⟨⟨sa, sb, sc, sd⟩, hs⟩ : ∃ s, s = begunS := ⟨_, rfl⟩
  rw [← hs]
  simp only [S4.cells]
  have HB := Lib.hid hb
  have HS := Lib.hid hs
  clear hb hs
  go_wp2
  go_ret
  refine ⟨_, rfl, HB.out.size, ?_, Bel.alloc HB.out _⟩
  rw [← HS.out]
  exact heap_alloc_new w1 _

def WriteNewD (w : World) (hb : Nat) (s : S4) (bs : List UInt8) (e : Ending) (w' : World) : Prop :=
  e = .returned (.tuple #[]) ∧ ∃ a m c, HashAt w' hb (absorb s bs) (.slice a m c) bs.length ∧ BytesAt (fun b => w.heap.size ≤ b) w' (.slice a m c) (restOf bs) ∧ Chg (fun k => k = hb) w w'
set_option maxRecDepth 100000 in
set_option maxHeartbeats 2000000 in
theorem dwrite_new (F : Nat → Prop) (w : World) (hb : Nat) (s : S4) (a : Option Addr) (n c : Nat) (bs : List UInt8) (h : BytesAt F w (.slice a n c) bs) (hF : ¬ F hb) (hk : HashAt w hb s (.slice none 0 0) 0) (hn : n ≤ 140737488351232) :
    Calls Try.prog 85 #[.pointer (some ⟨hb, 0, none⟩), .slice a n c] w (WriteNewD w hb s bs) := by
  obtain ⟨i0, hi, hz0, hz1, hz2⟩ := info_parts infoU8
  obtain ⟨hnl, hnc, hcm⟩ := BytesAt.n h
  obtain ⟨q0, q1, q2, q3, q4, q5⟩ := hk.cells
  have f4 := hk.free 4
  have f5 := hk.free 5
  obtain ⟨W1, hW1⟩ : ∃ W1, W1 = w.setCell ⟨hb, 5, none⟩ (.int .i64 n) := ⟨_, rfl⟩
  have hk1 : HashAt W1 hb s (.slice none 0 0) n := by rw [hW1]; exact hk.setn n
  have hc1 : Chg (fun k => k = hb) w W1 := by rw [hW1]; exact (Chg.refl (fun k => k = hb) w).setCell (.inr rfl) _
  have hB1 : BytesAt F W1 (.slice a n c) bs := h.carry (fun _ _ x => x) (fun b hb' hlt => hc1.block b hlt (fun e => hF (e ▸ hb')))
  have hle : (([] : List UInt8).length + bs.length) * 1 ≤ 140737488355328 := by simp; omega
  have hsz1 := hc1.size
  have HN := Lib.hid hnl
  have HW1 := Lib.hid hW1
  have HK1 := Lib.hid hk1
  have HC1 := Lib.hid hc1
  have HB1 := Lib.hid hB1
  have HLE := Lib.hid hle
  rw [HW1.out] at HB1
  have hbase : w.heap.size ≤ (w.setCell ⟨hb, 5, none⟩ (.int .i64 n)).heap.size := by simp
  clear h hk hnl hW1 hk1 hc1 hB1 hle hcm hnc
  go_enter Try.func85, Try.ntmps85
  go_wp2_with (at_builtin; refine wpList_append_at rfl (.tmp 17) (.tmp 18) 25 rfl w.heap.size 5 i0 (.int .u8 0) 1 1 underlying25 hi hz0 hz1 hz2 rfl (by decide) (by decide) byteR.one (.slice none 0 0) [] rfl (OwnAt.nil _ _ _ _ _) _ bs F rfl HB1.out HLE.out hbase ?next)
  case next =>
  intro v2 w2 ho hg hm
  rw [← HW1.out] at hg
  have hk2 : HashAt w2 hb s (.slice none 0 0) n := HK1.out.same (hg.block hb HK1.out.lt (fun e => by cases e))
  have hc2 : Chg (fun k => k = hb) w w2 := HC1.out.trans (Chg.ofGrown hg) (fun i _ e => by cases e)
  have hat := ho.at (F := fun b => w.heap.size ≤ b) (fun g _ h _ => h) (by decide)
  obtain ⟨a2, c2, rfl, h2, h3, -⟩ := ho.len
  obtain ⟨m, hm⟩ : ∃ m, m = bs.length := ⟨_, rfl⟩
  rw [← hm] at hat h2 ⊢
  obtain ⟨q0, q1, q2, q3, q4, q5⟩ := hk2.cells
  have f0 := hk2.free 0
  have f1 := hk2.free 1
  have f2 := hk2.free 2
  have f3 := hk2.free 3
  have f4 := hk2.free 4
  have f5 := hk2.free 5
  have HK2 := Lib.hid hk2
  have HC2 := Lib.hid hc2
  have HA := Lib.hid hat
  have HM := Lib.hid hm
  clear hk2 hc2 hat hm ho hg
  go_wp2_with fail
  obtain ⟨W3, hW3⟩ : ∃ W3, W3 = w2.setCell ⟨hb, 4, none⟩ (.slice a2 m c2) := ⟨_, rfl⟩
  rw [← hW3]
  have hk3 : HashAt W3 hb s (.slice a2 m c2) n := by rw [hW3]; exact HK2.out.setv _
  have hc3 : Chg (fun k => k = hb) w W3 := by rw [hW3]; exact HC2.out.setCell (.inr rfl) _
  have hhb : hb < w.heap.size := by rw [HW1.out] at HK1; have := HK1.out.lt; simpa using this
  have hat3 : BytesAt (fun b => w.heap.size ≤ b) W3 (.slice a2 m c2) bs := by
    rw [hW3]
    exact BytesAt.carry HA.out (fun _ _ x => x) (fun b hb' _ => Below.heap_setCell _ _ _ _ (by show b ≠ hb; have : w.heap.size ≤ b := hb'; omega))
  have HI : Hid (HashAt W3 hb s (.slice a2 m c2) n ∧ BytesAt (fun b => w.heap.size ≤ b) W3 (.slice a2 m c2) bs ∧ Chg (fun k => k = hb) w W3 ∧ absorb s bs = absorb s bs ∧ restOf bs = restOf bs) := ⟨hk3, hat3, hc3, rfl, rfl⟩
  clear hW3 hk3 hc3 hat3 q0 q1 q2 q3 q4 q5 f0 f1 f2 f3 f4 f5 hbase
  go_loopg [] m (fun gk wr => ∃ (X : S4) (l : List UInt8) (a : Option Addr) (c : Nat), Hid (HashAt wr hb X (.slice a gk c) n ∧ BytesAt (fun b => w.heap.size ≤ b) wr (.slice a gk c) l ∧ Chg (fun k => k = hb) w wr ∧ absorb X l = absorb s bs ∧ restOf l = restOf bs))
  case atStart => exact ⟨s, bs, a2, c2, HI⟩
  case round =>
    obtain ⟨X, l, a, c, HS⟩ := hrel
    obtain ⟨j1, j2, j3, j4, j5⟩ := HS.out
    obtain ⟨n1, n2, n3⟩ := BytesAt.n j2
    unfold maxLen at n3
    obtain ⟨q0, q1, q2, q3, q4, q5⟩ := j1.cells
    by_cases h32 : 32 ≤ gk
    · rcases SliceAt.split j2 with ⟨_, h0⟩ | ⟨ab, ao, rfl, -, -, -⟩
      · omega
      have hcut := BytesAt.upto j2 32 h32
      obtain ⟨Y, hY⟩ : ∃ Y, Y = mixedS X (wordsOf l) := ⟨_, rfl⟩
      have hcall : ∀ W : World, W.heap = wr.heap → Calls Try.prog 100 #[.agg X.cells, .slice (some ⟨ab, ao, none⟩) 32 c] W (MixD W Y) := fun W hW => by
        rw [hY, ← wordsOf_take]
        exact mixed_any _ W X _ 32 c (l.take 32) (BytesAt.carry hcut (fun _ _ x => x) (fun b _ _ => by rw [hW])) (Nat.le_refl _)
      have habs : absorb Y (l.drop 32) = absorb s bs := by rw [hY, ← absorb_step X l (by omega)]; exact j4
      have hrst : restOf (l.drop 32) = restOf bs := by rw [← restOf_step l (by omega)]; exact j5
      obtain ⟨a3, ha3, hsince⟩ : ∃ a3, (if c = 32 then some ⟨ab, ao, none⟩ else some ⟨ab, ao + 32, none⟩ : Option Addr) = a3 ∧ BytesAt (fun b => w.heap.size ≤ b) wr (.slice a3 (gk - 32) (c - 32)) (l.drop 32) :=
        ⟨_, rfl, BytesAt.since j2 32 h32 (by simp [Addr.add])⟩
      obtain ⟨xa, xb, xc, xd⟩ := X
      obtain ⟨ya, yb, yc, yd⟩ := Y
      simp only [S4.cells] at hcall
      have hkeep : ∀ W : World, W.heap[hb]? = wr.heap[hb]? → HashAt W hb ⟨xa, xb, xc, xd⟩ (.slice (some ⟨ab, ao, none⟩) gk c) n := fun W hW => j1.same hW
      have hlt := j1.lt
      have HK := Lib.hid hkeep
      have HCA := Lib.hid hcall
      have HAB := Lib.hid habs
      have HRS := Lib.hid hrst
      have HSI := Lib.hid hsince
      have HC3 := Lib.hid j3
      have HA3' := Lib.hid ha3
      clear ha3
      have h32i : (32 : Int) ≤ (gk : Int) := by omega
      have hgc : gk ≤ c := n2
      clear hcut hcall hkeep habs hrst hsince j1 j2 j3 j4 j5 HS n1 n2 hY
      go_wp2_with fail
      go_region_with (go_at_call 100; refine (HCA.out wr.drew rfl).mono ?_; rintro e w1 ⟨rfl, hb1⟩; simp only [S4.cells]; have hk1 := HK.out w1 (hb1.block hb hlt); obtain ⟨r0, r1, r2, r3, r4, r5⟩ := hk1.cells; have f0 := hk1.free 0; have f1 := hk1.free 1; have f2 := hk1.free 2; have f3 := hk1.free 3; have f4 := hk1.free 4)
      all_goals
        have hbS : Hid (Below wr.drew.heap.size wr.drew w1) := hb1
        have HK1 := Lib.hid hk1
        obtain ⟨WE, hWE⟩ : ∃ v, v = ((((w1.setCell ⟨hb, 0, none⟩ (.int .u64 ya)).setCell ⟨hb, 1, none⟩ (.int .u64 yb)).setCell ⟨hb, 2, none⟩ (.int .u64 yc)).setCell ⟨hb, 3, none⟩ (.int .u64 yd)).setCell ⟨hb, 4, none⟩ (.slice a3 (gk - 32) (c - 32)) := ⟨_, rfl⟩
        have HN2 : Hid (HashAt WE hb ⟨ya, yb, yc, yd⟩ (.slice a3 (gk - 32) (c - 32)) n ∧ BytesAt (fun b => w.heap.size ≤ b) WE (.slice a3 (gk - 32) (c - 32)) (l.drop 32) ∧ Chg (fun k => k = hb) w WE ∧ absorb ⟨ya, yb, yc, yd⟩ (l.drop 32) = absorb s bs ∧ restOf (l.drop 32) = restOf bs) := by
          refine ⟨?_, ?_, ?_, HAB.out, HRS.out⟩
          · rw [hWE]; exact (HK1.out.sets ⟨ya, yb, yc, yd⟩).setv _
          · refine BytesAt.carry HSI.out (fun _ _ x => x) (fun b hb' hl => ?_)
            have hne : b ≠ hb := by have : w.heap.size ≤ b := hb'; omega
            rw [hWE, Below.heap_setCell _ _ _ _ hne, Below.heap_setCell _ _ _ _ hne, Below.heap_setCell _ _ _ _ hne, Below.heap_setCell _ _ _ _ hne, Below.heap_setCell _ _ _ _ hne]
            exact hbS.out.block b hl
          · rw [hWE]
            exact (((((HC3.out.drew.trans (Chg.ofBelow hbS.out (fun k => k = hb)) (fun _ _ x => x)).setCell (.inr rfl) _).setCell (.inr rfl) _).setCell (.inr rfl) _).setCell (.inr rfl) _).setCell (.inr rfl) _
        have HWE := Lib.hid hWE
        have HA3 := HA3'
        clear hWE hbS hb1 hk1
        by_cases hc32 : c = 32
        · have hA := HA3.out
          rw [if_pos hc32] at hA
          subst hA
          subst hc32
          obtain rfl : gk = 32 := by omega
          simp only [Nat.sub_self] at HWE HN2
          go_wp2_with fail
          rw [← HWE.out]
          go_roundg 0
          case rel => exact ⟨_, _, _, _, HN2⟩
          case measure => omega
        · have hA := HA3.out
          rw [if_neg hc32] at hA
          subst hA
          go_wp2_with fail
          rw [← HWE.out]
          go_roundg (gk - 32)
          case rel => exact ⟨_, _, _, _, HN2⟩
          case measure => omega
    · go_wp2_with fail
      go_end0
      rw [restOf_short l (by omega)] at j5
      rw [absorb_done X l (by omega)] at j4
      refine ⟨rfl, a, gk, c, ?_, ?_, j3⟩
      · rw [← j4, ← HN.out]; exact j1
      · rw [← j5]; exact j2
end Go.Proofs.Ytndkkgkcbbmnpaa
