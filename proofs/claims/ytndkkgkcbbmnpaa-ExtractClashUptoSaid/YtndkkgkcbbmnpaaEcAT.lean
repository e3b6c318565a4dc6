/-
  Contracts of pergolalaw23.copied and pergolalaw23.in.
  Contract of pergolaref19.SameBlock.
  What the laws of blocks ask besides the contracts: a long row's load in a region that draws; equality of headers; the values of the fixed examples.
  Contract of pergolaref23.Clash.
  Bytes of some blocks have been written over; all else is as it was.
  The frame of a law's proof: how arguments open (bytes, rows of bytes), what the bound on their bulk gives, that arguments read behind the call as before.
-/
import Derived.Test.YtndkkgkcbbmnpaaEcAS
import Derived.Stop.BytesEq
import Derived.Deep.MidRow
import Derived.Test.YtndkkgkcbbmnpaaRows
import Derived.ProofKit
import Derived.OpenShut
import Derived.JoinedCond
import Derived.ChangeSame
import Derived.Carry
import Derived.Deep.Matrix
import Derived.Lib.SmallJoins
namespace Go.Proofs.Ytndkkgkcbbmnpaa
open Go.RowKit Go.Pg

/-- rows in new memory, which the call owns -/
def CopD (w : World) (l : List (List UInt8)) (e : Ending) (w' : World) : Prop :=
  ∃ a n c, e = .returned (.slice a n c) ∧ OwnList rowR (fun b => w.heap.size ≤ b) w.heap.size w' 25 1 (.slice a n c) l ∧ Below w.heap.size w w'

set_option maxRecDepth 100000 in
set_option maxHeartbeats 8000000 in
theorem copied23_any (F : Nat → Prop) (w : World) (a : Option Addr) (n c : Nat) (l : List (List UInt8)) (h : RowsAt F w (.slice a n c) l) (hlen : n ≤ 1099511627776) (hx : ∀ x ∈ l, x.length ≤ 70368744177664) :
    Calls Try.prog 31 #[.slice a n c] w (CopD w l) := by
  have hn : n = l.length := by
    obtain ⟨a', c', hv, -⟩ := SliceAt.len h
    simp only [Value.slice.injEq] at hv
    exact hv.2.1
  obtain ⟨i0, hi, hz0, hz1, hz2⟩ := info_parts infoRow
  obtain ⟨i8, hi8, hy0, hy1, hy2⟩ := info_parts infoU8
  have HN := Lib.hid hn
  have HX := Lib.hid hx
  have HH := Lib.hid h
  clear hn hx h
  go_enter Try.func31, Try.ntmps31
  go_wp2
  go_loopw [3, 7] (fun ov i wr => ∃ (k : Nat) (a2 : Option Addr) (m2 c2 : Nat), k ≤ n ∧ i = .int .i64 k ∧ ov = .slice a2 m2 c2 ∧ Hid (OwnList rowR (fun b => w.heap.size ≤ b) w.heap.size wr 25 1 (.slice a2 m2 c2) (l.take k)) ∧ Hid (Below w.heap.size w wr)) (fun _ i _ => n - (intOf i).toNat)
  case atStart => exact ⟨0, none, 0, 0, Nat.zero_le _, rfl, rfl, Lib.hid OwnList.nil, Lib.hid (Bel.refl w)⟩
  case round =>
    obtain ⟨k, a2, m2, c2, hk, rfl, rfl, HO2, HB2⟩ := hrel
    by_cases hlt : k < n
    · rcases SliceAt.split HH.out with ⟨_, h0⟩ | ⟨b, o, rfl, -, -, -⟩
      · omega
      have hkl : k < l.length := by have := HN.out; omega
      obtain ⟨u, c0, t0⟩ := RowsAt.cell (RowsAt.below HH.out HB2.out) k hkl
      have hxl := HX.out l[k] (List.getElem_mem _)
      have htk : l.take (k + 1) = l.take k ++ [l[k]] := List.take_succ_eq_append_getElem hkl
      obtain ⟨x, hxx⟩ : ∃ x, x = l[k] := ⟨_, rfl⟩
      rw [← hxx] at hxl t0 htk
      obtain ⟨au, cu, rfl, -, -, -⟩ := SliceAt.len t0
      obtain ⟨mx, hmx⟩ : ∃ m, m = x.length := ⟨_, rfl⟩
      rw [← hmx] at c0 t0
      obtain ⟨W2, hW2⟩ : ∃ W' : World, W' = wr.alloc (.cells #[] 5) := ⟨_, rfl⟩
      have hb22 : Below wr.heap.size wr W2 := by rw [hW2]; exact Bel.alloc (Bel.refl wr) _
      have hown8 : OwnAt W2 wr.heap.size 5 1 byteR (.slice (some ⟨wr.heap.size, 0, none⟩) 0 0) ([] : List UInt8) := by
        rw [hW2]; exact ⟨[], World.ownsRow_made wr #[] 0 (Nat.le_refl _) (by decide) rfl, Rows.nil _ _⟩
      have hsrc8 := BytesAt.below t0 hb22
      have hle8 : (([] : List UInt8).length + x.length) * 1 ≤ 140737488355328 := by simp; omega
      have HW2 := Lib.hid hW2
      have HO22 := Lib.hid (HO2.out.call carriedRow hb22)
      have HB22 := Lib.hid hb22
      have hs22 := hb22.size
      have HOWN8 := Lib.hid hown8
      have HSRC8 := Lib.hid hsrc8
      have HLE8 := Lib.hid hle8
      have HTK := Lib.hid htk
      have hblt := cell_lt c0
      have hkz : (0 : Int) ≤ (k : Int) := by omega
      have hkn : (k : Int) < (n : Int) := by omega
      clear hb22 hown8 hsrc8 hle8 hW2 htk hxl hxx t0 hmx
      go_wp2_with (at_builtin; (try rw [← HW2.out]); refine wpList_append_at rfl (.tmp 11) (.tmp 15) 25 rfl wr.heap.size 5 i8 (.int .u8 0) 1 1 underlying25 hi8 hy0 hy1 hy2 rfl (by decide) (by decide) byteR.one (.slice (some ⟨wr.heap.size, 0, none⟩) 0 0) [] rfl HOWN8.out _ x _ rfl HSRC8.out HLE8.out hs22 ?nextb1)
      case nextb1 =>
      intro v3 w3 ho hg hm
      have hown8 := HOWN8.out.own
      obtain ⟨a3, c3, hv3, -, -, -⟩ := ho.len
      have hat3 := ho.at (F := fun x => wr.heap.size ≤ x) (fun _ _ h _ => h) (by decide)
      obtain ⟨m3, hm3⟩ : ∃ m, m = x.length := ⟨_, rfl⟩
      subst hv3
      try simp only [List.nil_append] at hat3 ⊢
      rw [← hm3] at hat3 ⊢
      have hb3 : Below wr.heap.size wr w3 := HB22.out.grown hg HB22.out.size (fun j hj => (hown8 j hj).1)
      have ho3 := HO2.out.call carriedRow hb3
      have hown2 := HO2.out.own
      obtain ⟨R3, j1, j2, j3, j4⟩ := ho3.push carriedRow (H := fun x => wr.heap.size ≤ x) (cs := [.slice a3 m3 c3]) (x := x) ⟨_, rfl, hat3⟩ rfl (by decide) (fun y _ hy => ⟨Nat.le_trans HB2.out.size hy, fun e => by have := (hown2 y e).2; omega⟩) 25
      have hle3 : ((l.take k).length + [x].length) * 24 ≤ 140737488355328 := by simp; omega
      have hbase3 : w.heap.size ≤ (w3.alloc (.cells [.slice a3 m3 c3].toArray 25)).heap.size := by have := HB2.out.size; have := hb3.size; simp; omega
      have HB3 := Lib.hid (Bel.call HB2.out hb3)
      have HJ5 := Lib.hid j1
      have HJ6 := Lib.hid j2
      have HJ7 := Lib.hid j3
      have HJ8 := Lib.hid j4
      have HL3 := Lib.hid hle3
      have HBASE3 := Lib.hid hbase3
      clear ho hg hm hown8 hat3 hb3 ho3 j1 j2 j3 j4 hle3 hbase3 hown2 hm3 c0
      go_wp2_with (at_builtin; refine wpList_append_at rfl (.tmp 10) (.tmp 17) 22 rfl w.heap.size 25 i0 (.slice none 0 0) 1 24 underlyingRows hi hz0 hz1 hz2 rfl (by decide) (by decide) HJ5.out (.slice a2 m2 c2) (l.take k) rfl HJ6.out _ [x] (fun _ => True) rfl HJ7.out HL3.out HBASE3.out ?nextc1)
      case nextc1 =>
      intro v4 w4 ho hg hm
      have ho4 := HJ8.out _ _ ho hg hm
      have hown6 := OwnAt.own HJ6.out
      rw [← HTK.out] at ho4
      obtain ⟨a4, c4, hv4, -, -, -⟩ := ho4.len
      obtain ⟨m4, hm4⟩ : ∃ m, m = (l.take (k + 1)).length := ⟨_, rfl⟩
      rw [← hm4] at hv4
      subst hv4
      have hb4 : Below w.heap.size w w4 := (Bel.alloc HB3.out _).grown hg (by have := HB3.out.size; simp; omega) (fun j hj => (hown6 j hj).1)
      have HO4 := Lib.hid ho4
      have HB4 := Lib.hid hb4
      clear ho hg hm ho4 hown6 hm4 hb4
      go_wp2_with fail
      go_roundw
      case rel => exact ⟨k + 1, a4, m4, c4, by omega, num_eq (by omega), rfl, HO4, HB4⟩
      case measure => simp [intOf]; omega
    · obtain rfl : n = k := by omega
      go_wp2_with fail
      go_ret
      exact ⟨a2, m2, c2, rfl, by have h1 := HO2.out; rw [List.take_of_length_le (by have := HN.out; omega)] at h1; exact h1, HB2.out⟩

set_option maxRecDepth 100000 in
set_option maxHeartbeats 1000000 in
theorem in23_any (F G : Nat → Prop) (w : World) (u v : Value) (A : List (List UInt8)) (y : List UInt8) (h : RowsAt F w u A) (k : BytesAt G w v y) (hl : A.length ≤ 1152921504606846976) :
    Calls Try.prog 37 #[u, v] w fun e w' => e = .returned (.bool (decide (y ∈ A))) ∧ ∃ m, w' = w.drewN m := by
  obtain ⟨a, c, rfl, -, -, -⟩ := SliceAt.len h
  obtain ⟨a', c', rfl, -, -, -⟩ := SliceAt.len k
  obtain ⟨n, hn⟩ : ∃ n, n = A.length := ⟨_, rfl⟩
  obtain ⟨n', hn'⟩ : ∃ n, n = y.length := ⟨_, rfl⟩
  rw [← hn] at h hl ⊢
  rw [← hn'] at k ⊢
  have HN := Lib.hid hn
  have HH := Lib.hid h
  have HK := Lib.hid k
  clear hn hn' h k
  go_enter Try.func37, Try.ntmps37
  go_wp2
  go_loopw [8] (fun i wr => ∃ j : Nat, j ≤ n ∧ i = .int .i64 j ∧ Hid (y ∉ A.take j) ∧ Hid (∃ m, wr = w.drewN m)) (fun i _ => n - (intOf i).toNat)
  case atStart => exact ⟨0, Nat.zero_le _, rfl, Lib.hid (by simp), Lib.hid ⟨0, rfl⟩⟩
  case round =>
    obtain ⟨j, hj, rfl, HT, HM⟩ := hrel
    have hwr : RowsAt F wr (.slice a n c) A ∧ BytesAt G wr (.slice a' n' c') y := by
      obtain ⟨m, hm⟩ := HM.out
      rw [hm]; exact ⟨RowsAt.carry HH.out (fun _ _ x => x) (fun _ _ _ => rfl), BytesAt.carry HK.out (fun _ _ x => x) (fun _ _ _ => rfl)⟩
    have hN := HN.out
    by_cases hlt : j < n
    · rcases SliceAt.split hwr.1 with ⟨_, h0⟩ | ⟨b, o, rfl, -, -, -⟩
      · omega
      obtain ⟨u1, c1, t1⟩ := RowsAt.cell hwr.1 j (by omega)
      have hst : A.take (j + 1) = A.take j ++ [A[j]'(by omega)] := List.take_succ_eq_append_getElem (by omega)
      have hin : A[j]'(by omega) ∈ A := List.getElem_mem _
      obtain ⟨x1, hx1⟩ : ∃ x, x = A[j]'(by omega) := ⟨_, rfl⟩
      rw [← hx1] at hst hin
      rw [← hx1] at t1
      obtain ⟨d1, e1, rfl, -, -, -⟩ := SliceAt.len t1
      have s1 := fun nq => run_string_at (P := Try.prog) (BytesAt.draws t1 nq) 25 5 9 Try.underlying25 Try.underlying5 Try.underlying9
      have s2 := fun nq => run_string_at (P := Try.prog) (BytesAt.draws hwr.2 nq) 25 5 9 Try.underlying25 Try.underlying5 Try.underlying9
      have HST := Lib.hid hst
      have HIN := Lib.hid hin
      have hjn : (j : Int) < (n : Int) := by omega
      clear hst hin hx1 hwr hN t1
      by_cases hxy : x1 = y
      · subst hxy
        have hd : decide (x1 ∈ A) = true := by simp [HIN.out]
        have HD := Lib.hid hd
        clear hd
        go_wp2
        go_quiet (fail)
        go_wp2
        go_ret
        exact ⟨ret_bool HD.out.symm, (by obtain ⟨m, hm⟩ := HM.out; rw [hm]; exact ⟨_, World.drewN_drewN _ _ _⟩)⟩
      · have hb1 : (x1 == y) = false := by simp [hxy]
        have HNE : Hid (y ∉ A.take (j + 1)) := Lib.hid (by rw [HST.out]; simp only [List.mem_append, List.mem_singleton, not_or]; exact ⟨HT.out, fun e => hxy e.symm⟩)
        clear hxy
        go_wp2
        go_quiet (fail)
        go_wp2
        go_roundw
        case rel => exact ⟨j + 1, by omega, num_eq (by omega), HNE, Lib.hid (by obtain ⟨m, hm⟩ := HM.out; rw [hm]; exact ⟨_, World.drewN_drewN _ _ _⟩)⟩
        case measure => simp [intOf]; omega
    · obtain rfl : j = n := by omega
      have hd : decide (y ∈ A) = false := by
        have := HT.out
        rw [List.take_of_length_le (by omega)] at this
        simp [this]
      have HD := Lib.hid hd
      clear hd hwr hN
      go_wp2
      go_ret
      exact ⟨ret_bool HD.out.symm, HM.out⟩
end Go.Proofs.Ytndkkgkcbbmnpaa
namespace Go.Pg
open Go.RowKit
section
variable {P : Program}
theorem wpList_wanted {ops : Array Oper} {rest : List Oper} {o : Oper} {a : Act} {w : World} {Q : Exit → Act → World → Prop} (hg : Region.wanted o (yielded ops a.tmps) = true)
    (h : ∀ K : Act → World → Prop, (∀ a w, wpList P ops Q rest a w → K a w) → o.wp P a w K Q) : wpList P ops Q (o :: rest) a w :=
  wpList_step fun K hK => by rw [if_pos hg]; exact h K hK
end
end Go.Pg
namespace Go.Proofs.Ytndkkgkcbbmnpaa
open Go.RowKit Go.Pg
theorem digEq (xs ys : List UInt8) (hx : xs.length = 32) (hy : ys.length = 32) (W : World) :
    (Op.equalIn 10000 37 (.agg (cellsL xs).toArray) (.agg (cellsL ys).toArray)).run Try.prog W = .ok (decide (xs = ys)) W := by
  obtain ⟨i0, hi, hz0, hz1, hz2⟩ := info_parts infoU8
  have h := run_equalIn_bytes (P := Try.prog) W 9998 37 5 32 underlyingDig Try.underlying5 (fun w => by simp [sizeOf, typeInfo, hi, hz1]) xs ys hx hy
  have e : (xs == ys) = decide (xs = ys) := by by_cases h : xs = ys <;> simp [h]
  rw [e] at h
  exact h

set_option maxRecDepth 100000 in
set_option maxHeartbeats 4000000 in
theorem sameBlk_any (F G : Nat → Prop) (w : World) (p p' : List UInt8) (nn bb nn' bb' : Nat) (v v' : Value) (l l' : List (List UInt8)) (h : RowsAt F w v l) (h' : RowsAt G w v' l') (hp : p.length = 32) (hp' : p'.length = 32) (hl : l.length ≤ 1152921504606846976) :
    Calls Try.prog 22 #[.agg (blkCells p nn bb v), .agg (blkCells p' nn' bb' v')] w fun e w' => e = .returned (.bool (decide (l = l' ∧ p = p' ∧ nn = nn' ∧ bb = bb'))) ∧ Below w.heap.size w w' := by
  obtain ⟨a, c, rfl, -, -, -⟩ := SliceAt.len h
  obtain ⟨a', c', rfl, -, -, -⟩ := SliceAt.len h'
  obtain ⟨n, hn⟩ : ∃ n, n = l.length := ⟨_, rfl⟩
  obtain ⟨n', hn'⟩ : ∃ n, n = l'.length := ⟨_, rfl⟩
  rw [← hn] at h ⊢
  rw [← hn'] at h' ⊢
  obtain ⟨BC, hBC⟩ : ∃ BC, BC = blkCells p nn bb (.slice a n c) := ⟨_, rfl⟩
  obtain ⟨BD, hBD⟩ : ∃ BD, BD = blkCells p' nn' bb' (.slice a' n' c') := ⟨_, rfl⟩
  obtain ⟨Wz, hWz⟩ : ∃ W, W = (w.alloc (.cells BC 40)).alloc (.cells BD 40) := ⟨_, rfl⟩
  have hbz : Below w.heap.size w Wz := by rw [hWz]; exact Bel.alloc (Bel.alloc (Bel.refl w) _) _
  have hk0 : Wz.heap[w.heap.size]? = some (.cells BC 40 (0, 0)) := by rw [hWz, Below.heap_alloc _ _ _ (by simp)]; exact heap_alloc_new w _
  have hk1 : Wz.heap[w.heap.size + 1]? = some (.cells BD 40 (0, 0)) := by rw [hWz]; have := heap_alloc_new (w.alloc (.cells BC 40)) (.cells BD 40); rw [World.size_alloc] at this; exact this
  have g1 := RowsAt.below h hbz
  have g2 := RowsAt.below h' hbz
  have hf0 : ∀ W : World, W.heap = Wz.heap → W.rangeAt w.heap.size 0 (cellsL p) ∧ W.cell? ⟨w.heap.size, 32, none⟩ = some (.int .u64 nn) ∧ W.cell? ⟨w.heap.size, 33, none⟩ = some (.int .u64 bb) ∧ W.cell? ⟨w.heap.size, 34, none⟩ = some (.slice a n c) :=
    fun W hW => blk_facts (t := 40) hp (by rw [hW, hk0, hBC])
  have hf1 : ∀ W : World, W.heap = Wz.heap → W.rangeAt (w.heap.size + 1) 0 (cellsL p') ∧ W.cell? ⟨w.heap.size + 1, 32, none⟩ = some (.int .u64 nn') ∧ W.cell? ⟨w.heap.size + 1, 33, none⟩ = some (.int .u64 bb') ∧ W.cell? ⟨w.heap.size + 1, 34, none⟩ = some (.slice a' n' c') :=
    fun W hW => blk_facts (t := 40) hp' (by rw [hW, hk1, hBD])
  obtain ⟨-, -, -, q34⟩ := hf0 Wz rfl
  obtain ⟨-, -, -, r34⟩ := hf1 Wz rfl
  obtain ⟨b0, hb0⟩ : ∃ b, b = decide (l = l') := ⟨_, rfl⟩
  obtain ⟨b1, hb1⟩ : ∃ b, b = decide (p = p') := ⟨_, rfl⟩
  have hres : decide (l = l' ∧ p = p' ∧ nn = nn' ∧ bb = bb') = (b0 && (b1 && (decide (nn = nn') && decide (bb = bb')))) := by rw [hb0, hb1]; simp [Bool.decide_and]
  obtain ⟨b2, hb2⟩ : ∃ b, b = decide (nn = nn') := ⟨_, rfl⟩
  obtain ⟨b3, hb3⟩ : ∃ b, b = decide (bb = bb') := ⟨_, rfl⟩
  have hE2 : ((nn : Int) == (nn' : Int)) = b2 := by
    rw [hb2]
    by_cases h : nn = nn'
    · subst h; simp
    · have h' : ¬ (nn : Int) = nn' := by omega
      simp [h, h']
  have hE3 : ((bb : Int) == (bb' : Int)) = b3 := by
    rw [hb3]
    by_cases h : bb = bb'
    · subst h; simp
    · have h' : ¬ (bb : Int) = bb' := by omega
      simp [h, h']
  rw [← hb2, ← hb3] at hres
  clear hb2 hb3
  obtain ⟨m1, hm1⟩ : ∃ m : Int, m = (nn : Int) := ⟨_, rfl⟩
  obtain ⟨m2, hm2⟩ : ∃ m : Int, m = (nn' : Int) := ⟨_, rfl⟩
  obtain ⟨m3, hm3⟩ : ∃ m : Int, m = (bb : Int) := ⟨_, rfl⟩
  obtain ⟨m4, hm4⟩ : ∃ m : Int, m = (bb' : Int) := ⟨_, rfl⟩
  rw [← hm1, ← hm2] at hE2
  rw [← hm3, ← hm4] at hE3
  simp only [← hm1, ← hm3] at hf0
  simp only [← hm2, ← hm4] at hf1
  have HE2 := Lib.hid hE2
  have HE3 := Lib.hid hE3
  clear hE2 hE3 hm1 hm2 hm3 hm4
  rw [hres, ← hBC, ← hBD]
  have heq := digEq p p' hp hp'
  rw [← hb1] at heq
  have HEQ := Lib.hid heq
  have HB0 := Lib.hid hb0
  have HF0 := Lib.hid hf0
  have HF1 := Lib.hid hf1
  have HBZ := Lib.hid hbz
  have HWZ := Lib.hid hWz
  have HLN := Lib.hid hl
  have G1 := Lib.hid g1
  have G2 := Lib.hid g2
  have HQ := Lib.hid q34
  have HR := Lib.hid r34
  have e0 : (Try.prog.info? 37).map (·.size) = some (cellsL p).length := by rw [cellsL_length, hp]; exact infoDig
  have e1 : (Try.prog.info? 37).map (·.size) = some (cellsL p').length := by rw [cellsL_length, hp']; exact infoDig
  have E0 := Lib.hid e0
  have E1 := Lib.hid e1
  rw [hWz] at q34 r34
  clear heq hb0 hb1 hf0 hf1 hbz hWz hl g1 g2 hres hBC hBD h h' hn hn' hk0 hk1 e0 e1 hp hp'
  go_enter Try.func22, Try.ntmps22
  go_wp2_with fail
  rw [← HWZ.out]
  refine (sameAll_any F G Wz _ _ l l' G1.out G2.out HLN.out).mono ?_
  rintro e w1 ⟨rfl, m, rfl⟩
  rw [← HB0.out]
  clear q34 r34
  obtain ⟨s0, s1, s2, s3⟩ := HF0.out (Wz.drewN m) rfl
  obtain ⟨t0, t1, t2, t3⟩ := HF1.out (Wz.drewN m) rfl
  have hend : Below w.heap.size w (Wz.drewN m) := ⟨HBZ.out.os, HBZ.out.tape, HBZ.out.output, HBZ.out.size, HBZ.out.block⟩
  have HEND := Lib.hid hend
  have S0 := Lib.hid s0
  have T0 := Lib.hid t0
  clear hend s0 t0
  cases b0 with
  | false =>
    go_wp2_with fail
    go_ret
    exact ⟨rfl, HEND.out⟩
  | true =>
    have heq := HEQ.out
    have hE2 := HE2.out
    have hE3 := HE3.out
    cases b1 <;> cases b2 <;> cases b3
    all_goals
      go_wp2_with (first
        | (refine wpList_wanted (by rfl) ?_; intro K hK; refine wp_load_mid 37 (.tmp 13) rfl w.heap.size 0 rfl (cellsL p) (.array 32 5) S0.out underlyingDig rfl E0.out ?_; apply hK)
        | (refine wpList_wanted (by rfl) ?_; intro K hK; refine wp_load_mid 37 (.tmp 15) rfl (w.heap.size + 1) 0 rfl (cellsL p') (.array 32 5) T0.out underlyingDig rfl E1.out ?_; apply hK))
      go_ret
      exact ⟨rfl, HEND.out⟩
end Go.Proofs.Ytndkkgkcbbmnpaa
namespace Go.Pg
open Go.RowKit
section
variable {P : Program}
theorem yieldsIf_load_row {ops : Array Oper} {S : World → Prop} {op : Oper} {a : Act} (hw : Region.wanted op (yielded ops a.tmps) = true) (ty : TypeId) (x : Operand) (ho : op.op = .load ty x)
    (g : Nat) (hx : a.eval x = .pointer (some ⟨g, 0, none⟩)) (cs : Array Value) (t : TypeId) (d : TypeDesc) (hS : ∀ w, S w → w.heap[g]? = some (.cells cs t (0, 0)))
    (hu : P.underlying ty = some d) (hd : (match d with | .struct _ | .array _ _ => true | _ => false) = true) (hi : (P.info? ty).map (·.size) = some cs.size) : YieldsIf P ops S op (.agg cs) a :=
  .inl ⟨hw, fun w hw' => by
    unfold execOp
    simp only [ho, hx, Instr.loadAt, Instr.sureAddr, Sem.run_bind, Sem.run_pure, Result.andThen_ok, run_loadVar_row w g t ty cs (0, 0) d (hS w hw') hu (by cases d <;> exact hd) hi]⟩
theorem yieldsIf_eql_agg {ops : Array Oper} {S : World → Prop} {op : Oper} {a : Act} (hw : Region.wanted op (yielded ops a.tmps) = true) (t : TypeId) (x y : Operand) (t2 : TypeId) (ho : op.op = .binOp .eql t x y t2)
    (xs ys : Array Value) (hx : a.eval x = .agg xs) (hy : a.eval y = .agg ys) (hg : P.eqGuardType P.depth t = false) (b : Bool) (h : ∀ W : World, (Op.equalIn 10000 t (.agg xs) (.agg ys)).run P W = .ok b W) : YieldsIf P ops S op (.bool b) a :=
  .inl ⟨hw, fun w _ => by
    unfold execOp
    simp only [ho, hx, hy, Sem.run_bind, run_eqGuard_agg w .eql t x y xs ys hg, run_eql_struct, h, Result.andThen_ok, Sem.run_pure]⟩
theorem yieldsIf_neq_agg {ops : Array Oper} {S : World → Prop} {op : Oper} {a : Act} (hw : Region.wanted op (yielded ops a.tmps) = true) (t : TypeId) (x y : Operand) (t2 : TypeId) (ho : op.op = .binOp .neq t x y t2)
    (xs ys : Array Value) (hx : a.eval x = .agg xs) (hy : a.eval y = .agg ys) (hg : P.eqGuardType P.depth t = false) (b : Bool) (h : ∀ W : World, (Op.equalIn 10000 t (.agg xs) (.agg ys)).run P W = .ok b W) : YieldsIf P ops S op (.bool (!b)) a :=
  .inl ⟨hw, fun w _ => by
    unfold execOp
    simp only [ho, hx, hy, Sem.run_bind, run_eqGuard_agg w .neq t x y xs ys hg, run_neq_struct, h, Result.andThen_ok, Sem.run_pure]⟩
theorem extract_mid (pre l post : List Value) : (pre ++ l ++ post).toArray.extract pre.length (pre.length + l.length) = l.toArray := by
  apply Array.ext'
  simp [List.extract_eq_take_drop]
theorem eqFields_self (xs : Array Value) (d : Nat) (fs : List Field) (w : World)
    (h : ∀ f ∈ fs, ∃ v, (∀ W : World, (Go.part f.type xs f.offset).run P W = .ok v W) ∧ (∀ W : World, (Op.equalIn d f.type v v).run P W = .ok true W)) :
    (Op.eqFields d xs xs fs).run P w = .ok true w := by
  induction fs generalizing w with
  | nil => simp [Op.eqFields]
  | cons f fs ih =>
    obtain ⟨v, h1, h2⟩ := h f (by simp)
    have ih' := ih w (fun f hf => h f (by simp [hf]))
    simp only [Op.eqFields, Sem.run_ite, Sem.run_bind, h1, h2, Result.andThen_ok, ih', Bool.not_true, Bool.false_eq_true, if_false]
    split <;> rfl
end
end Go.Pg
namespace Go.Proofs.Ytndkkgkcbbmnpaa
open Go.RowKit Go.Pg
theorem partDig (pre : List Value) (p : List UInt8) (post : List Value) (hp : p.length = 32) (off : Nat) (ho : pre.length = off) (W : World) :
    (Go.part 37 (pre ++ cellsL p ++ post).toArray off).run Try.prog W = .ok (.agg (cellsL p).toArray) W := by
  have hs : (sizeOf 37).run Try.prog W = .ok 32 W := by
    have := infoDig
    cases h : Try.prog.info? 37 with
    | none => rw [h] at this; cases this
    | some i => rw [h] at this; simp only [Option.map_some, Option.some.injEq] at this; simp [sizeOf, typeInfo, h, this]
  have hx := extract_mid pre (cellsL p) post
  rw [cellsL_length, hp, ho] at hx
  simp only [Go.part, isAgg, Sem.run_bind, run_underlying underlyingDig, Sem.run_pure, Result.andThen_ok, if_true, hs, hx]
theorem partInt (pre : List Value) (v : Value) (post : List Value) (off : Nat) (ho : pre.length = off) (W : World) :
    (Go.part 38 (pre ++ v :: post).toArray off).run Try.prog W = .ok v W := by
  have hx : (pre ++ v :: post).toArray[off]? = some v := by rw [List.getElem?_toArray, ← ho, List.getElem?_append_right (Nat.le_refl _), Nat.sub_self]; rfl
  simp only [Go.part, isAgg, Sem.run_bind, run_underlying Try.underlying38, Sem.run_pure, Result.andThen_ok, Bool.false_eq_true, if_false, hx]
theorem digSelf (p : List UInt8) (hp : p.length = 32) (W : World) : (Op.equalIn 9999 37 (.agg (cellsL p).toArray) (.agg (cellsL p).toArray)).run Try.prog W = .ok true W := by
  obtain ⟨i0, hi, hz0, hz1, hz2⟩ := info_parts infoU8
  have h := run_equalIn_bytes (P := Try.prog) W 9997 37 5 32 underlyingDig Try.underlying5 (fun w => by simp [sizeOf, typeInfo, hi, hz1]) p p hp hp
  rw [beq_self_eq_true] at h
  exact h
theorem intSelf (n : Int) (W : World) : (Op.equalIn 9999 38 (.int .u64 n) (.int .u64 n)).run Try.prog W = .ok true W := by
  rw [run_equalIn_int W 9998 38 .u64 .u64 n n Try.underlying38, beq_self_eq_true]
theorem hdrFields : (Try.prog.fieldsOf 47).toList.map (fun f => (f.type, f.offset)) = [(37, 0), (38, 32), (38, 33), (38, 34), (37, 35), (37, 67), (37, 99)] := by kernel_rfl
theorem hdrEq (h : Hdr) (ho : h.ok) (W : World) : (Op.equalIn 10000 47 (.agg (hdrCells h)) (.agg (hdrCells h))).run Try.prog W = .ok true W := by
  have hu : Try.prog.underlying 47 = some (.struct (Try.prog.fieldsOf 47)) := by kernel_rfl
  rw [show (10000 : Nat) = 9999 + 1 from rfl, run_equalIn_agg W 9999 47 _ _ hu (by kernel_rfl)]
  refine eqFields_self _ _ _ _ fun f hf => ?_
  have hm : (f.type, f.offset) ∈ (Try.prog.fieldsOf 47).toList.map (fun f => (f.type, f.offset)) := List.mem_map.2 ⟨f, hf, rfl⟩
  rw [hdrFields] at hm
  obtain ⟨p, nn, bb, gg, tx, st, rc⟩ := h
  obtain ⟨o1, o2, o3, o4, -, -, -⟩ := ho
  simp only at o1 o2 o3 o4
  have l1 : (cellsL p).length = 32 := by rw [cellsL_length, o1]
  have l2 : (cellsL tx).length = 32 := by rw [cellsL_length, o2]
  have l3 : (cellsL st).length = 32 := by rw [cellsL_length, o3]
  have l4 : (cellsL rc).length = 32 := by rw [cellsL_length, o4]
  have e0 : hdrCells ⟨p, nn, bb, gg, tx, st, rc⟩ = ([] ++ cellsL p ++ ([Value.int .u64 (nn : Int), Value.int .u64 (bb : Int), Value.int .u64 (gg : Int)] ++ cellsL tx ++ cellsL st ++ cellsL rc)).toArray := by simp [hdrCells]
  have e1 : hdrCells ⟨p, nn, bb, gg, tx, st, rc⟩ = (cellsL p ++ Value.int .u64 (nn : Int) :: ([Value.int .u64 (bb : Int), Value.int .u64 (gg : Int)] ++ cellsL tx ++ cellsL st ++ cellsL rc)).toArray := by simp [hdrCells]
  have e2 : hdrCells ⟨p, nn, bb, gg, tx, st, rc⟩ = ((cellsL p ++ [Value.int .u64 (nn : Int)]) ++ Value.int .u64 (bb : Int) :: ([Value.int .u64 (gg : Int)] ++ cellsL tx ++ cellsL st ++ cellsL rc)).toArray := by simp [hdrCells]
  have e3 : hdrCells ⟨p, nn, bb, gg, tx, st, rc⟩ = ((cellsL p ++ [Value.int .u64 (nn : Int), Value.int .u64 (bb : Int)]) ++ Value.int .u64 (gg : Int) :: (cellsL tx ++ cellsL st ++ cellsL rc)).toArray := by simp [hdrCells]
  have e4 : hdrCells ⟨p, nn, bb, gg, tx, st, rc⟩ = ((cellsL p ++ [Value.int .u64 (nn : Int), Value.int .u64 (bb : Int), Value.int .u64 (gg : Int)]) ++ cellsL tx ++ (cellsL st ++ cellsL rc)).toArray := by simp [hdrCells]
  have e5 : hdrCells ⟨p, nn, bb, gg, tx, st, rc⟩ = ((cellsL p ++ [Value.int .u64 (nn : Int), Value.int .u64 (bb : Int), Value.int .u64 (gg : Int)] ++ cellsL tx) ++ cellsL st ++ cellsL rc).toArray := by simp [hdrCells]
  have e6 : hdrCells ⟨p, nn, bb, gg, tx, st, rc⟩ = ((cellsL p ++ [Value.int .u64 (nn : Int), Value.int .u64 (bb : Int), Value.int .u64 (gg : Int)] ++ cellsL tx ++ cellsL st) ++ cellsL rc ++ []).toArray := by simp [hdrCells]
  simp only [List.mem_cons, Prod.mk.injEq, List.not_mem_nil, or_false] at hm
  rcases hm with ⟨h1, h2⟩ | ⟨h1, h2⟩ | ⟨h1, h2⟩ | ⟨h1, h2⟩ | ⟨h1, h2⟩ | ⟨h1, h2⟩ | ⟨h1, h2⟩
  all_goals rw [h1, h2]
  · exact ⟨_, fun W => by rw [e0]; exact partDig _ _ _ o1 _ rfl W, digSelf _ o1⟩
  · exact ⟨_, fun W => by rw [e1]; exact partInt _ _ _ _ (by simp [l1]) W, intSelf _⟩
  · exact ⟨_, fun W => by rw [e2]; exact partInt _ _ _ _ (by simp [l1]) W, intSelf _⟩
  · exact ⟨_, fun W => by rw [e3]; exact partInt _ _ _ _ (by simp [l1]) W, intSelf _⟩
  · exact ⟨_, fun W => by rw [e4]; exact partDig _ _ _ o2 _ (by simp [l1]) W, digSelf _ o2⟩
  · exact ⟨_, fun W => by rw [e5]; exact partDig _ _ _ o3 _ (by simp [l1, l2]) W, digSelf _ o3⟩
  · exact ⟨_, fun W => by rw [e6]; exact partDig _ _ _ o4 _ (by simp [l1, l2, l3]) W, digSelf _ o4⟩
/-- the header of the example -/
def hdr5 : Hdr := ⟨List.replicate 32 0, 5, 0, 0, List.replicate 32 0, List.replicate 32 0, List.replicate 32 0⟩
theorem hdr5_ok : hdr5.ok := ⟨rfl, rfl, rfl, rfl, by decide, by decide, by decide⟩
theorem builtHdr5 : Try.prog.built 47 [(1, .int .u64 5)] = some (hdrCells hdr5) := by kernel_rfl
/-- the block of the example -/
def blk1 : Blk := ⟨List.replicate 32 0, 1, 200, []⟩
theorem blk1_ok : blk1.ok := ⟨rfl, by decide, by decide⟩
theorem builtBlk1 : Try.prog.built 40 [(1, .int .u64 1), (2, .int .u64 200)] = some (blkCells blk1.p blk1.nn blk1.bb (.slice none 0 0)) := by kernel_rfl
theorem number_1 : number 1 = 1 := by rw [number_pos (by decide), show 1 / 256 = 0 from rfl, number_zero]
theorem number_200 : number 200 = 1 := by rw [number_pos (by decide), show 200 / 256 = 0 from rfl, number_zero]
theorem wordB_1 : wordB 1 = [1] := by unfold wordB; rw [number_1]; rfl
theorem wordB_200 : wordB 200 = [200] := by unfold wordB; rw [number_200]; rfl
theorem blk1_item : blk1.item = .list [.text (List.replicate 32 0), .text [1], .text [200], .list []] := by
  simp [Blk.item, blk1, blkI, wordB_1, wordB_200, textsI]
theorem blk1_fits : It.fits 8 blk1.item := by
  rw [blk1_item]
  simp [It.fits, It.wholes, It.whole, sz, plainB]
theorem blk1_enc : ∃ B, blk1.enc = (B, 0) ∧ B.length = 38 := by
  refine ⟨blk1.item.enc, blk_enc_of blk1 _ blk1_fits rfl, ?_⟩
  rw [It.enc_length, blk1_item]
  simp [It.whole, It.wholes, sz, plainB]
end Go.Proofs.Ytndkkgkcbbmnpaa
namespace Go.Proofs.Ytndkkgkcbbmnpaa
open Go.RowKit Go.Pg

set_option maxRecDepth 100000 in
set_option maxHeartbeats 8000000 in
theorem rclash_any (F : Nat → Prop) (w : World) (a : Option Addr) (n c : Nat) (l : List (List UInt8)) (h : RowsAt F w (.slice a n c) l) (hlen : n ≤ 1099511627776) (hx : ∀ x ∈ l, x.length ≤ 70368744177664) :
    Calls Try.prog 33 #[.slice a n c] w (ClashD F w (clash l)) := by
  have hn : n = l.length := by
    obtain ⟨a', c', hv, -⟩ := SliceAt.len h
    simp only [Value.slice.injEq] at hv
    exact hv.2.1
  obtain ⟨R, hR⟩ : ∃ R, R = clash l := ⟨_, rfl⟩
  have HN := Lib.hid hn
  have HX := Lib.hid hx
  have HR := Lib.hid hR
  have HH := Lib.hid h
  rw [← hR]
  clear hn hx hR h
  go_enter Try.func33, Try.ntmps33
  go_wp2
  go_loopw [5] (fun i wr => ∃ k : Nat, k ≤ n ∧ i = .int .i64 k ∧ Hid (R = clashFrom (l.take k) (l.drop k)) ∧ Hid (Below w.heap.size w wr)) (fun i _ => n - (intOf i).toNat)
  case atStart => exact ⟨0, Nat.zero_le _, rfl, Lib.hid (by rw [HR.out]; rfl), Lib.hid (Bel.refl w)⟩
  case round =>
    obtain ⟨k, hk, rfl, HC, HB⟩ := hrel
    have hN := HN.out
    by_cases hlt : k < n
    · rcases SliceAt.split HH.out with ⟨_, h0⟩ | ⟨b, o, rfl, -, -, -⟩
      · omega
      have hkl : k < l.length := by omega
      have hnx := clashFrom_next l k hkl
      obtain ⟨u, cuw, tu⟩ := RowsAt.cell HH.out k hkl
      have hxl := HX.out l[k] (List.getElem_mem _)
      obtain ⟨x, hxx⟩ : ∃ x, x = l[k] := ⟨_, rfl⟩
      rw [← hxx] at hnx tu hxl
      obtain ⟨au, cu, rfl, -, -, -⟩ := SliceAt.len tu
      obtain ⟨mu, hmu⟩ : ∃ m, m = x.length := ⟨_, rfl⟩
      rw [← hmu] at tu cuw hxl
      obtain ⟨D, hD⟩ : ∃ D, D = digestOf x := ⟨_, rfl⟩
      have hDl : D.length = 32 := by rw [hD]; exact digestOf_length _
      have hcallD : ∀ W : World, Below w.heap.size w W → Calls Try.prog 36 #[.slice au mu cu] W (DigD W D) := fun W hb => by rw [hD]; exact rof_any F W au mu cu x (BytesAt.below tu hb) hxl
      rw [← hD] at hnx
      have HNX := Lib.hid hnx
      have HXX := Lib.hid hxx
      have HDD := Lib.hid hD
      have HCD0 := Lib.hid hcallD
      have HCU := Lib.hid cuw
      have HTU := Lib.hid tu
      have HMU := Lib.hid hmu
      have hkz : (0 : Int) ≤ (k : Int) := by omega
      have hkn : (k : Int) < (n : Int) := by omega
      obtain ⟨w0, rfl⟩ : ∃ W, W = wr := ⟨_, rfl⟩
      clear hnx hxx hD hcallD cuw tu hmu hN
      go_wp2_with fail
      go_loopw [6] (fun s wr => ∃ j : Nat, j ≤ k ∧ s = .int .i64 j ∧ Hid (∀ i, (hi : i < j) → ∀ hl : i < l.length, digestOf l[i] ≠ D) ∧ Hid (Below w.heap.size w wr)) (fun s _ => k - (intOf s).toNat)
      case atStart => exact ⟨0, Nat.zero_le _, rfl, Lib.hid (fun i hi => absurd hi (Nat.not_lt_zero _)), HB⟩
      case round =>
        obtain ⟨j, hj, rfl, HO, HB2⟩ := hrel
        by_cases hjk : j < k
        · have hjl : j < l.length := by omega
          obtain ⟨uj, cjw, tj⟩ := RowsAt.cell HH.out j hjl
          have hyl := HX.out l[j] (List.getElem_mem _)
          obtain ⟨y, hyy⟩ : ∃ y, y = l[j] := ⟨_, rfl⟩
          rw [← hyy] at tj hyl
          obtain ⟨aj, cj, rfl, -, -, -⟩ := SliceAt.len tj
          obtain ⟨mj, hmj⟩ : ∃ m, m = y.length := ⟨_, rfl⟩
          rw [← hmj] at tj cjw hyl
          obtain ⟨E, hE⟩ : ∃ D, D = digestOf y := ⟨_, rfl⟩
          have hEl : E.length = 32 := by rw [hE]; exact digestOf_length _
          have hcallE : ∀ W : World, Below wr.heap.size wr W → Calls Try.prog 36 #[.slice aj mj cj] W (DigD W E) := fun W hb => by rw [hE]; exact rof_any F W aj mj cj y (BytesAt.below tj (Bel.call HB2.out hb)) hyl
          have hcallD : ∀ W : World, Below wr.heap.size wr W → Calls Try.prog 36 #[.slice au mu cu] W (DigD W D) := fun W hb => HCD0.out W (Bel.call HB2.out hb)
          obtain ⟨q, hq⟩ : ∃ q, q = decide (E = D) := ⟨_, rfl⟩
          have heq : ∀ W : World, (Op.equalIn 10000 37 (.agg (cellsOf E)) (.agg (cellsOf D))).run Try.prog W = .ok q W := fun W => by rw [hq]; exact digEq E D hEl hDl W
          obtain ⟨S, hS⟩ : ∃ S : World → Prop, S = fun W => Below wr.heap.size wr W := ⟨_, rfl⟩
          have hkp : ∀ W : World, Below wr.heap.size wr W → S W := fun W hb => by rw [hS]; exact hb
          have hgt : ∀ W : World, S W → W.cell? ⟨b, o + j, none⟩ = some (.slice aj mj cj) ∧ W.cell? ⟨b, o + k, none⟩ = some (.slice au mu cu) := fun W hb => by
            rw [hS] at hb
            exact ⟨cell_below (Bel.call HB2.out hb) cjw, cell_below (Bel.call HB2.out hb) HCU.out⟩
          have HCE := Lib.hid hcallE
          have HCD := Lib.hid hcallD
          have HEQ := Lib.hid heq
          have HKP := Lib.hid hkp
          have HGT := Lib.hid hgt
          have HQ := Lib.hid hq
          have HYY := Lib.hid hyy
          have HEE := Lib.hid hE
          have HCJ := Lib.hid cjw
          have HTJ := Lib.hid tj
          have HMJ := Lib.hid hmj
          have hjz : (0 : Int) ≤ (j : Int) := by omega
          have hjn : (j : Int) < (n : Int) := by omega
          have hjki : (j : Int) < (k : Int) := by omega
          clear hcallE hcallD heq hkp hgt hq hyy hE cjw tj hmj hS
          go_wp2_with fail
          go_cut [28] (fun s28 wx => s28 = .bool q ∧ Hid (Below wr.heap.size wr wx))
          case first =>
            refine wp_region_held_drew (S := S) (by kernel_rfl) (HKP.out _ (Bel.drew (Bel.refl wr))) (fun hHeld => ?_)
            refine wpAnyH_take (i := 0) (op_at rfl) (by kernel_rfl) (by kernel_rfl) (by kernel_rfl) (fun _ _ _ h => h) (Or.inl ⟨by rfl, by intro W hSw; go_simp; (try with_reducible rfl)⟩) hHeld ?_
            simp only [Act.put, List.setIfInBounds_toArray, List.set_cons_zero, List.set_cons_succ]
            refine wpAnyH_take (i := 1) (op_at rfl) (by kernel_rfl) (by kernel_rfl) (by kernel_rfl) (fun _ _ _ h => h) (Or.inl ⟨by rfl, by intro W hSw; go_simp; (try with_reducible rfl)⟩) hHeld ?_
            simp only [Act.put, List.setIfInBounds_toArray, List.set_cons_zero, List.set_cons_succ]
            refine wpAnyH_take (i := 2) (op_at rfl) (by kernel_rfl) (by kernel_rfl) (by kernel_rfl) (fun _ _ _ h => h) (Or.inl ⟨by rfl, by intro W hSw; go_simp; (try with_reducible rfl)⟩) hHeld ?_
            simp only [Act.put, List.setIfInBounds_toArray, List.set_cons_zero, List.set_cons_succ]
            refine wpAnyH_take (i := 3) (op_at rfl) (by kernel_rfl) (by kernel_rfl) (by kernel_rfl) (fun _ _ _ h => h) (Or.inl ⟨by rfl, by intro W hSw; have hc := (HGT.out W hSw).1; go_simp; (try with_reducible rfl)⟩) hHeld ?_
            simp only [Act.put, List.setIfInBounds_toArray, List.set_cons_zero, List.set_cons_succ]
            refine wpAnyH_take (i := 5) (op_at rfl) (by kernel_rfl) (by kernel_rfl) (by kernel_rfl) (fun _ _ _ h => h) (Or.inl ⟨by rfl, by intro W hSw; go_simp; (try with_reducible rfl)⟩) hHeld ?_
            simp only [Act.put, List.setIfInBounds_toArray, List.set_cons_zero, List.set_cons_succ]
            refine wpAnyH_take (i := 6) (op_at rfl) (by kernel_rfl) (by kernel_rfl) (by kernel_rfl) (fun _ _ _ h => h) (Or.inl ⟨by rfl, by intro W hSw; go_simp; (try with_reducible rfl)⟩) hHeld ?_
            simp only [Act.put, List.setIfInBounds_toArray, List.set_cons_zero, List.set_cons_succ]
            refine wpAnyH_take (i := 7) (op_at rfl) (by kernel_rfl) (by kernel_rfl) (by kernel_rfl) (fun _ _ _ h => h) (Or.inl ⟨by rfl, by intro W hSw; go_simp; (try with_reducible rfl)⟩) hHeld ?_
            simp only [Act.put, List.setIfInBounds_toArray, List.set_cons_zero, List.set_cons_succ]
            refine wpAnyH_take (i := 8) (op_at rfl) (by kernel_rfl) (by kernel_rfl) (by kernel_rfl) (fun _ _ _ h => h) (Or.inl ⟨by rfl, by intro W hSw; have hc := (HGT.out W hSw).2; go_simp; (try with_reducible rfl)⟩) hHeld ?_
            simp only [Act.put, List.setIfInBounds_toArray, List.set_cons_zero, List.set_cons_succ]
            refine wpAnyH_ready (rs := [4]) (by kernel_rfl) (by simp) (AllReadyH.cons (op_at rfl) (fun K hK => ?_) (AllReadyH.nil))
            clear hHeld
            go_simp
            go_at_call_of 36 (Value.slice aj mj cj)
            refine ((HCE.out _ (Bel.drew (Bel.refl wr))).mono ?_)
            rintro e Va ⟨rfl, hb⟩
            have hBVa : Below wr.heap.size wr Va := Bel.call (Bel.drew (Bel.refl wr)) hb
            clear hb
            go_wp2_with fail
            refine hK.out _ _ (HKP.out _ hBVa) (fun hHeld => ?_)
            clear hK K
            try simp only [Act.put, List.setIfInBounds_toArray, List.set_cons_zero, List.set_cons_succ]
            refine wpAnyH_ready (rs := [9]) (by kernel_rfl) (by simp) (AllReadyH.cons (op_at rfl) (fun K hK => ?_) (AllReadyH.nil))
            clear hHeld
            go_simp
            go_at_call_of 36 (Value.slice au mu cu)
            refine ((HCD.out _ (hBVa)).mono ?_)
            rintro e Vb ⟨rfl, hb⟩
            have hBVb : Below wr.heap.size wr Vb := Bel.call (hBVa) hb
            clear hb
            go_wp2_with fail
            refine hK.out _ _ (HKP.out _ hBVb) (fun hHeld => ?_)
            clear hK K
            try simp only [Act.put, List.setIfInBounds_toArray, List.set_cons_zero, List.set_cons_succ]
            refine wpAnyH_take (i := 10) (op_at rfl) (by kernel_rfl) (by kernel_rfl) (by kernel_rfl) (fun _ _ _ h => h) (yieldsIf_eql_agg (by rfl) 37 (.tmp 22) (.tmp 27) 37 rfl (cellsOf E) (cellsOf D) rfl rfl (by kernel_rfl) q HEQ.out) hHeld ?_
            simp only [Act.put, List.setIfInBounds_toArray, List.set_cons_zero, List.set_cons_succ]
            refine wpAnyH_done (by kernel_rfl) ?_ _
            go_wp2_with fail
            go_meet
            exact ⟨rfl, Lib.hid hBVb⟩
          case rest =>
            obtain ⟨rfl, HX2⟩ := hcut
            have hbc := Bel.call HB2.out HX2.out
            have HBC := Lib.hid hbc
            have HOLD := HO.out
            cases q with
            | false =>
              have hne : E ≠ D := of_decide_eq_false HQ.out.symm
              have HO2 : Hid (∀ i, (hi : i < j + 1) → ∀ hl : i < l.length, digestOf l[i] ≠ D) := Lib.hid fun i hi hl => by
                by_cases hij : i = j
                · subst hij; rw [← HYY.out, ← HEE.out]; exact hne
                · exact HO.out i (by omega) hl
              clear hne hbc HOLD
              go_wp2_with fail
              go_roundw
              case rel => exact ⟨j + 1, by omega, num_eq (by omega), HO2, HBC⟩
              case measure => simp [intOf]; omega
            | true =>
              have he : E = D := of_decide_eq_true HQ.out.symm
              have hfirst : firstOf (l.take k) D = some j := by
                unfold firstOf
                rw [List.findIdx?_eq_some_iff_getElem]
                refine ⟨by rw [List.length_take]; omega, ?_, fun i hi => ?_⟩
                · rw [List.getElem_take, ← HYY.out, ← HEE.out]; simpa using he
                · have := HO.out i hi (by omega)
                  rw [List.getElem_take]; simpa using this
              have hgd : l.getD j [] = y := by rw [List.getD_eq_getElem?_getD, List.getElem?_eq_getElem (by omega), HYY.out]; rfl
              have hnx := HNX.out
              rw [hfirst] at hnx
              simp only [hgd] at hnx
              have c1 := cell_below hbc HCJ.out
              have c2 := cell_below hbc HCU.out
              have s1 := fun nq => run_string_at (P := Try.prog) (BytesAt.draws (BytesAt.below HTJ.out hbc) nq) 25 5 9 Try.underlying25 Try.underlying5 Try.underlying9
              have s2 := fun nq => run_string_at (P := Try.prog) (BytesAt.draws (BytesAt.below HTU.out hbc) nq) 25 5 9 Try.underlying25 Try.underlying5 Try.underlying9
              have HNX2 := Lib.hid hnx
              clear he hfirst hgd hnx hbc HOLD
              by_cases hxy : y = x
              · subst hxy
                have hC2 : R = clashFrom (l.take (k + 1)) (l.drop (k + 1)) := by rw [HC.out, HNX2.out, if_pos rfl]
                have HC2 := Lib.hid hC2
                clear hC2
                go_wp2
                go_quiet (fail)
                go_wp2
                go_roundw
                case rel => exact ⟨k + 1, by omega, num_eq (by omega), HC2, Lib.hid (by have := HBC.out; exact ⟨this.os, this.tape, this.output, this.size, this.block⟩)⟩
                case measure => simp [intOf]; omega
              · have hb1 : (y == x) = false := by simp [hxy]
                have hRR : R = some (y, x) := by rw [HC.out, HNX2.out, if_neg hxy]
                have HRR := Lib.hid hRR
                clear hxy hRR
                go_wp2
                go_quiet (fail)
                go_wp2
                go_quiet (fail)
                go_wp2
                refine bodyPost_ret (v := .tuple #[.slice aj mj cj, .slice au mu cu, .bool true]) (by simp [results, Try.results33, go_sem]) rfl ?_
                rw [HRR.out]
                refine ⟨aj, mj, cj, au, mu, cu, rfl, BytesAt.carry HTJ.out (fun _ _ x => x) (fun b _ hlt => HBC.out.block b hlt), BytesAt.carry HTU.out (fun _ _ x => x) (fun b _ hlt => HBC.out.block b hlt), ?_⟩
                have := HBC.out
                exact ⟨this.os, this.tape, this.output, this.size, this.block⟩
        · obtain rfl : j = k := by omega
          have hnone : firstOf (l.take j) D = none := by
            rw [firstOf_none]
            intro z hz
            obtain ⟨i, hi, rfl⟩ := List.getElem_of_mem hz
            rw [List.length_take] at hi
            rw [List.getElem_take]
            exact HO.out i (by omega) (by omega)
          have hC2 : R = clashFrom (l.take (j + 1)) (l.drop (j + 1)) := by rw [HC.out, HNX.out, hnone]
          have HC2 := Lib.hid hC2
          clear hnone hC2
          go_wp2_with fail
          go_roundw
          case rel => exact ⟨j + 1, by omega, num_eq (by omega), HC2, HB2⟩
          case measure => simp [intOf]; omega
    · obtain rfl : n = k := by omega
      have hRR : R = none := by rw [HC.out, hN]; exact clashFrom_end l
      subst hRR
      clear hN
      go_wp2_with fail
      refine bodyPost_ret (v := .tuple #[.slice none 0 0, .slice none 0 0, .bool false]) (by simp [results, Try.results33, go_sem]) rfl ?_
      exact ⟨none, 0, 0, none, 0, 0, rfl, BytesAt.nil _ _, BytesAt.nil _ _, HB.out⟩
end Go.Proofs.Ytndkkgkcbbmnpaa
namespace Go.Pg
open Go.RowKit
/-- bytes of some blocks have been written over; all else is as it was -/
structure Spoilt (W wr : World) (lo hi : Nat) : Prop where
  os : wr.os = W.os
  tape : wr.tape = W.tape
  output : wr.output = W.output
  size : wr.heap.size = W.heap.size
  blk : ∀ b, ¬ (lo ≤ b ∧ b < hi) → wr.heap[b]? = W.heap[b]?
  cell : ∀ b o u, W.cell? ⟨b, o, none⟩ = some u → (∃ n m, u = .int .u8 n ∧ wr.cell? ⟨b, o, none⟩ = some (.int .u8 m)) ∨ wr.cell? ⟨b, o, none⟩ = some u
  frz : ∀ b o, W.frozen? ⟨b, o, none⟩ = false → wr.frozen? ⟨b, o, none⟩ = false
theorem Spoilt.refl (W : World) (lo hi : Nat) : Spoilt W W lo hi := ⟨rfl, rfl, rfl, rfl, fun _ _ => rfl, fun _ _ _ h => .inr h, fun _ _ h => h⟩
theorem Spoilt.byte {W wr : World} {lo hi b o : Nat} {n : Int} (h : Spoilt W wr lo hi) (hc : W.cell? ⟨b, o, none⟩ = some (.int .u8 n)) : ∃ m, wr.cell? ⟨b, o, none⟩ = some (.int .u8 m) := by
  rcases h.cell b o _ hc with ⟨_, m, _, h⟩ | h
  · exact ⟨m, h⟩
  · exact ⟨n, h⟩
theorem Spoilt.slice {W wr : World} {lo hi b o : Nat} {a : Option Addr} {n c : Nat} (h : Spoilt W wr lo hi) (hc : W.cell? ⟨b, o, none⟩ = some (.slice a n c)) : wr.cell? ⟨b, o, none⟩ = some (.slice a n c) := by
  rcases h.cell b o _ hc with ⟨_, m, h, _⟩ | h
  · cases h
  · exact h
theorem Spoilt.below {W wr : World} {lo hi : Nat} (h : Spoilt W wr lo hi) : Below lo W wr := ⟨h.os, h.tape, h.output, Nat.le_of_eq h.size.symm, fun k hk => h.blk k (by omega)⟩
theorem Spoilt.store {W wr : World} {lo hi b o : Nat} {n v : Int} (h : Spoilt W wr lo hi) (hb : lo ≤ b ∧ b < hi) (hc : W.cell? ⟨b, o, none⟩ = some (.int .u8 n)) : Spoilt W (wr.setCell ⟨b, o, none⟩ (.int .u8 v)) lo hi := by
  refine ⟨h.os, h.tape, h.output, by rw [← h.size]; simp [World.setCell], fun k hk => ?_, fun b' o' u hu => ?_, fun b' o' hf => ?_⟩
  · rw [Below.heap_setCell _ _ _ _ (by show k ≠ b; omega)]; exact h.blk k hk
  · by_cases he : b' = b ∧ o' = o
    · obtain ⟨rfl, rfl⟩ := he
      rw [hc] at hu
      simp only [Option.some.injEq] at hu
      subst hu
      obtain ⟨m, hm⟩ := h.byte hc
      exact .inl ⟨n, v, rfl, World.cell?_setCell_same _ _ _ hm⟩
    · have hne : (⟨b, o, none⟩ : Addr) ≠ ⟨b', o', none⟩ := fun e => he (by simp only [Addr.mk.injEq, and_true] at e; exact ⟨e.1.symm, e.2.symm⟩)
      rw [World.cell?_setCell_other _ _ _ _ hne]
      exact h.cell b' o' u hu
  · rw [World.frozen?_setCell]; exact h.frz b' o' hf
end Go.Pg
namespace Go.Proofs.Ytndkkgkcbbmnpaa
open Go.ChangeShapes Go.WideShapes Go.ChangeAt Go.RowKit Go.Pg

/-! ## What the bound gives -/
theorem bulk_one {H : Type} (d : DataW H) : 1 ≤ Rows.uptoBulk d := by
  cases d with
  | lit l => cases l <;> simp [Rows.uptoBulk]
  | nil => simp [Rows.uptoBulk]
  | ptr d => simp [Rows.uptoBulk]
  | slice elems spare => simp [Rows.uptoBulk]
  | agg parts => simp [Rows.uptoBulk]
  | iface t d => simp [Rows.uptoBulk]
  | map entries => simp [Rows.uptoBulk]
  | held h => simp [Rows.uptoBulk]
theorem bulk_len {H : Type} (l : List (DataW H)) : l.length ≤ Rows.uptoBulkAll l := by
  induction l with
  | nil => simp [Rows.uptoBulkAll]
  | cons x r ih => have := bulk_one x; simp only [Rows.uptoBulkAll, List.length_cons]; omega
theorem bulk_map {H α : Type} (g : α → DataW H) (f : α → Nat) (l : List α) (h : ∀ r, r ∈ l → f r ≤ Rows.uptoBulk (g r)) : (l.map f).sum ≤ Rows.uptoBulkAll (l.map g) := by
  induction l with
  | nil => simp
  | cons x r ih =>
    have h1 := h x (List.mem_cons_self ..)
    have h2 := ih (fun y hy => h y (List.mem_cons_of_mem _ hy))
    simp only [List.map_cons, List.sum_cons, Rows.uptoBulkAll]; omega
theorem bulk_bound {H : Type} {l : List (DataW H)} (hk : Rows.uptoSmall H l = true) : Rows.uptoBulkAll l ≤ 1048576 := of_decide_eq_true hk
/-- how much rows of bytes take, each with its own place -/
def rowsSum (l : List (List UInt8)) : Nat := (l.map fun x => x.length + 1).sum
theorem rowsSum_len (l : List (List UInt8)) : l.length ≤ rowsSum l := by
  unfold rowsSum
  induction l with
  | nil => simp
  | cons x r ih => simp only [List.map_cons, List.sum_cons, List.length_cons]; omega
theorem rowsSum_mem (l : List (List UInt8)) (x : List UInt8) (h : x ∈ l) : x.length ≤ rowsSum l := by
  unfold rowsSum
  induction l with
  | nil => cases h
  | cons y r ih =>
    simp only [List.map_cons, List.sum_cons]
    rcases List.mem_cons.1 h with rfl | h
    · omega
    · have := ih h; omega

/-! ## How arguments open -/
section
variable {H : Type} {enc : TypeId × Value → H} {P : Program} {w : World} {held : Bool}
theorem byte_of_wf {n : Int} (h : (Lit.int .u8 n).wf = true) : ((UInt8.ofNat n.toNat).toNat : Int) = n := by
  have h1 : 0 ≤ n ∧ n ≤ 255 := by simpa [Lit.wf, IntKind.min, IntKind.max, IntKind.signed, IntKind.bits] using h
  rw [UInt8.toNat_ofNat']
  omega
theorem cell_spot {a : Addr} {v : Value} (h : w.cell? a = some v) : a = ⟨a.block, a.off, none⟩ := by
  unfold World.cell? at h
  split at h
  · split at h
    · cases h
    · rename_i hs
      obtain ⟨b, o, s⟩ := a
      cases s with
      | none => rfl
      | some x => simp at hs
  · cases h
theorem add_at (b o k : Nat) : (⟨b, o, none⟩ : Addr).add k = ⟨b, o + k, none⟩ := by unfold Addr.add; split <;> simp_all
theorem add_zero' (a : Addr) : a.add 0 = a := by unfold Addr.add; rw [if_pos rfl]
/-- cells of bytes, as a slice of them -/
theorem bytes_at {A : Option Addr} {L C : Nat} {Z : List Int} (hLC : L ≤ C) (hC : C ≤ maxLen) (hZ : Z.length = C) (hwf : ∀ n ∈ Z, (Lit.int .u8 n).wf = true) (hA : A = none → C = 0)
    (hc : ∀ a, A = some a → ∀ c, c < C → w.cell? (a.add c) = some (.int .u8 (Z.getD c 0))) (hfz : ∀ a, A = some a → ∀ c, c < C → w.frozen? ⟨a.block, a.off + c, none⟩ = false) :
    BytesAt (fun b => b < w.heap.size) w (.slice A L C) ((Z.take L).map fun n => UInt8.ofNat n.toNat) := by
  have hlen : ((Z.take L).map fun n => UInt8.ofNat n.toNat).length = L := by rw [List.length_map, List.length_take]; omega
  refine ⟨A, C, by rw [hlen], by omega, hC, hA, fun hp => ?_, fun b o j ha hj => by subst ha; exact hfz _ rfl j (by rw [hlen] at hj; omega)⟩
  cases A with
  | none => have := hA rfl; omega
  | some a =>
    have h0 := hc a rfl 0 (by omega)
    rw [add_zero'] at h0
    have hs := cell_spot h0
    refine ⟨a.block, a.off, by rw [← hs], cell_lt (by rw [← hs]; exact h0), fun i x hx => ?_⟩
    rw [List.getElem?_map, Option.map_eq_some_iff] at hx
    obtain ⟨n, hn, rfl⟩ := hx
    rw [List.getElem?_take] at hn
    split at hn
    · rename_i hi
      have hcell := hc a rfl i (by omega)
      rw [hs, add_at] at hcell
      have hg : Z.getD i 0 = n := by rw [List.getD_eq_getElem?_getD, hn]; rfl
      refine ⟨[.int .u8 ((UInt8.ofNat n.toNat).toNat : Int)], rfl, rfl, fun j u hu => ?_⟩
      match j, hu with
      | 0, hu =>
        have hw := byte_of_wf (hwf n (List.mem_of_getElem? hn))
        simp only [List.getElem?_cons_zero, Option.some.injEq] at hu
        subst hu
        rw [hw, ← hg]
        simpa using hcell
    · cases hn
/-- an argument that is a slice of bytes -/
theorem open_bytes {t e : TypeId} {fuel : Nat} {v : Value} {x : DataW H × List MemPlace} (ht : P.underlying t = some (.slice e)) (he : P.underlying e = some (.int .u8)) (hc : P.cellsOf e = 1)
    (h : DataW.trod enc P w 0 (fun _ => true) held fuel t [v] = some x) (hfz : ∀ b o, MemPlace.cell b o ∈ x.2 → w.frozen? ⟨b, o, none⟩ = false) :
    ∃ bs a c, v = .slice a bs.length c ∧ BytesAt (fun b => b < w.heap.size) w v bs ∧ bs.length + 1 ≤ Rows.uptoBulk x.1 := by
  rcases open_ints ht he hc h with ⟨hv, rfl⟩ | ⟨a, len, cap, zs, hv, -, hl, hm, hz, rfl, hcell, hwf⟩
  · simp only [List.cons.injEq, and_true] at hv
    subst hv
    exact ⟨[], none, 0, rfl, BytesAt.nil _ _, by simp [Rows.uptoBulk]⟩
  · simp only [List.cons.injEq, and_true] at hv
    subst hv
    simp only [if_true] at hz
    have hb := bytes_at (w := w) (A := some a) (L := len) (C := cap) (Z := zs) hl hm hz hwf (fun h => by cases h) (fun a' ha c hc => by cases ha; exact hcell c (by omega)) (fun a' ha c hc => by cases ha; exact hfz _ _ (List.mem_map.2 ⟨c, List.mem_range.2 (by omega), rfl⟩))
    have hlen : ((zs.take len).map fun n => UInt8.ofNat n.toNat).length = len := by rw [List.length_map, List.length_take]; omega
    refine ⟨_, some a, cap, by rw [hlen], hb, ?_⟩
    have h1 := bulk_len (H := H) (lits .u8 (zs.take len))
    have h2 : (lits (H := H) .u8 (zs.take len)).length = len := by simp [lits]; omega
    simp only [Rows.uptoBulk]; omega
/-- an argument that is a slice of slices of bytes -/
theorem open_rows {t e q : TypeId} {fuel : Nat} {v : Value} {x : DataW H × List MemPlace} (ht : P.underlying t = some (.slice e)) (he : P.underlying e = some (.slice q)) (hq : P.underlying q = some (.int .u8))
    (ce : P.cellsOf e = 1) (cq : P.cellsOf q = 1) (h : DataW.trod enc P w 0 (fun _ => true) held fuel t [v] = some x) (hfz : ∀ b o, MemPlace.cell b o ∈ x.2 → w.frozen? ⟨b, o, none⟩ = false) :
    ∃ l a c, v = .slice a l.length c ∧ RowsAt (fun b => b < w.heap.size) w v l ∧ rowsSum l + 1 ≤ Rows.uptoBulk x.1 := by
  rcases Deep.open_int_rows ht he hq ce cq h with ⟨hv, rfl⟩ | ⟨a, len, cap, A, L, C, Z, hv, -, hl, hm, rfl, hr⟩
  · simp only [List.cons.injEq, and_true] at hv
    subst hv
    exact ⟨[], none, 0, rfl, SliceAt.nil _ _ _ _, by simp [Rows.uptoBulk, rowsSum]⟩
  · simp only [List.cons.injEq, and_true] at hv
    subst hv
    have hlen : ((List.range len).map fun r => ((Z r).take (L r)).map fun n => UInt8.ofNat n.toNat).length = len := by simp
    have hrl : ∀ r, r < cap → (((Z r).take (L r)).map fun n => UInt8.ofNat n.toNat).length = L r := fun r hr' => by
      obtain ⟨-, h1, -, h2, -⟩ := hr r hr'
      rw [List.length_map, List.length_take]; omega
    refine ⟨(List.range len).map fun r => ((Z r).take (L r)).map fun n => UInt8.ofNat n.toNat, some a, cap, by rw [hlen], ?_, ?_⟩
    · refine ⟨some a, cap, by rw [hlen], by omega, hm, (fun h => by cases h), fun hp => ?_, fun b o j ha hj => ?_⟩
      rotate_left
      · simp only [Option.some.injEq] at ha
        subst ha
        exact hfz _ _ (List.mem_append_left _ (List.mem_map.2 ⟨j, List.mem_range.2 (by rw [hlen] at hj; omega), rfl⟩))
      have h0 := (hr 0 (by omega)).1
      rw [add_zero'] at h0
      have hs := cell_spot h0
      refine ⟨a.block, a.off, by rw [← hs], cell_lt (by rw [← hs]; exact h0), fun i y hy => ?_⟩
      rw [List.getElem?_map, Option.map_eq_some_iff] at hy
      obtain ⟨r, hr1, rfl⟩ := hy
      obtain ⟨hi, rfl⟩ := List.getElem?_eq_some_iff.1 hr1
      simp only [List.getElem_range, List.length_range] at hi ⊢
      obtain ⟨g1, g2, g3, g4, g5, g6, g7⟩ := hr i (by omega)
      rw [hs, add_at] at g1
      refine ⟨[.slice (A i) (L i) (C i)], rfl, ⟨_, rfl, bytes_at g2 g3 g4 g5 g6 (fun a' ha c hc => (g7 a' ha).2 c hc) (fun a' ha c hc => hfz _ _ (List.mem_append_right _ (List.mem_flatMap.2 ⟨i, List.mem_range.2 (by omega), by unfold Deep.intRowPlaces; rw [ha]; exact List.mem_map.2 ⟨c, List.mem_range.2 (by omega), rfl⟩⟩)))⟩, fun j u hu => ?_⟩
      match j, hu with
      | 0, hu => simp at hu; subst hu; simpa using g1
    · simp only [Rows.uptoBulk]
      have h1 := bulk_map (H := H) (fun r => Deep.intRow .u8 (A r) (L r) (Z r)) (fun r => (((Z r).take (L r)).map fun n => UInt8.ofNat n.toNat).length + 1) (List.range len) (fun r hr' => by
        have hrc : r < cap := by have := List.mem_range.1 hr'; omega
        rw [hrl r hrc]
        obtain ⟨-, g2, -, g4, -, g6, -⟩ := hr r hrc
        unfold Deep.intRow
        cases hA : A r with
        | none => have := g6 hA; simp only [Rows.uptoBulk]; omega
        | some a' =>
          simp only [Rows.uptoBulk]
          have h1 := bulk_len (H := H) (lits .u8 ((Z r).take (L r)))
          have h2 : (lits (H := H) .u8 ((Z r).take (L r))).length = L r := by simp [lits]; omega
          omega)
      have h2 : rowsSum ((List.range len).map fun r => ((Z r).take (L r)).map fun n => UInt8.ofNat n.toNat) = ((List.range len).map fun r => (((Z r).take (L r)).map fun n => UInt8.ofNat n.toNat).length + 1).sum := by
        unfold rowsSum; rw [List.map_map]; rfl
      rw [h2]
      omega
end

/-! ## The end of a law -/
section
variable {H : Type} {enc : TypeId × Value → H} {P : Program}
theorem args_stay (hl : laidOutB P = true) {W W' : World} (hb : Below W.heap.size W W') {sp : Nat → Bool} : ∀ {ts : List TypeId} {vs : List Value} {ds : List (DataW H)} {ps : List MemPlace},
    (∀ t ∈ ts, P.readableRec t = true ∧ t < P.types.size) → DataW.TrodAll enc P W 0 (fun _ => true) true ts vs ds ps → (∀ p ∈ ps, p.block < W.heap.size) → (∀ p ∈ ps, sp p.block = true) → DataW.TrodAll enc P W' 0 sp true ts vs ds ps
  | [], vs, ds, ps, _, h, _, _ => by
    obtain ⟨rfl, rfl, rfl⟩ := trodAll_nil h
    exact trodAll_mk0
  | t :: ts, vs, ds, ps, ht, h, hlt, hs => by
    obtain ⟨v, vs1, d, ds1, a, b, rfl, rfl, rfl, h1, h2⟩ := trodAll_cons h
    obtain ⟨r1, r2⟩ := ht t (List.mem_cons_self ..)
    refine trodAll_cons_mk (WideElems.Trod_stays hl r1 r2 h1 (fun x hx => hb.same (hlt x (List.mem_append_left _ hx))) (fun x hx => hs x (List.mem_append_left _ hx))) ?_
    exact args_stay hl hb (fun t' ht' => ht t' (List.mem_cons_of_mem _ ht')) h2 (fun x hx => hlt x (List.mem_append_right _ hx)) (fun x hx => hs x (List.mem_append_right _ hx))
/-- the law has told true, and nothing of what came in has turned -/
theorem law_done {f : Func} {s : ChangeSpec} {apart fresh handsOn again : Bool} {W W' : World} {args : Array Value} {ds gs : List (DataW H)} {before : List MemPlace} {tb : TypeId}
    (hl : laidOutB P = true) (hts : ∀ t ∈ f.params.toList, P.readableRec t = true ∧ t < P.types.size) (htb : P.underlying tb = some .bool) (hres : f.resultTypes = #[tb]) (hvs : s.vars = [])
    (hW : DataW.Whole enc P f.params.toList s.vars apart W args.toList ds gs before) (hfn : s.fn H (ds ++ gs) = { results := [.lit (.bool true)], args := ds }) (hb : Below W.heap.size W W') :
    s.post enc P f apart fresh handsOn again W args (.bool true) W' := by
  have hW' := hW
  obtain ⟨p, q, hA, hV, rfl, hfz, hnd⟩ := hW
  rw [hvs] at hV
  obtain ⟨rfl, rfl⟩ := trodVars_none hV
  have hlt : ∀ x ∈ p ++ [], x.block < W.heap.size := fun x hx => hW'.lt x hx
  have hold : ∀ x ∈ p ++ [], (fun b => decide (b < W.heap.size)) x.block = true := fun x hx => by simpa using hlt x hx
  have hargs : ∀ sp : Nat → Bool, (∀ x ∈ p ++ [], sp x.block = true) → DataW.TrodAll enc P W' 0 sp true f.params.toList args.toList (s.fn H (ds ++ [])).args p := fun sp hsp => by
    rw [hfn]
    exact args_stay hl hb hts hA (fun x hx => hlt x (by simpa using hx)) (fun x hx => hsp x (by simpa using hx))
  have hres' : ∀ (b : Nat) (sp : Nat → Bool) (hd : Bool), DataW.TrodAll enc P W' b sp hd f.resultTypes.toList ((Value.bool true).resultList f.resultTypes.size) (s.fn H (ds ++ [])).results [] := fun b sp hd => by
    rw [hres, hfn]
    exact trodAll_cons_mk (shut_bool htb _) trodAll_mk0
  have hvars : ∀ sp : Nat → Bool, (∀ x ∈ p ++ [], sp x.block = true) → DataW.TrodVars enc P W' sp s.vars (s.fn H (ds ++ [])).vars [] := fun sp _ => by
    rw [hfn, hvs]; rfl
  refine ⟨ds, [], p ++ [], [], p, [], hW', hres' _ _ _, hargs _ hold, hvars _ hold, World.keptBut_mono (fun x hx => ⟨hx, ?_⟩) (hb.frame (· ∈ p ++ [])), fun _ => ?_⟩
  · exact Or.inr (by simpa using hx)
  · refine ⟨ok_one hres rfl (okWide_bool_mk htb _), _, _, ([] ++ p) ++ [], ⟨[] ++ p, [], trodAll_append (hargs _ (fun _ _ => rfl)) (hres' _ _ _), hvars _ (fun _ _ => rfl), rfl, ?_, ?_⟩, ?_⟩
    · intro b off hp
      have hin : MemPlace.cell b off ∈ p ++ [] := by simpa using hp
      rw [hb.frozen (hlt _ hin)]
      exact hfz b off hin
    · intro ha
      simpa using hnd ha
    · intro x hx _
      simpa using hx
end
end Go.Proofs.Ytndkkgkcbbmnpaa
