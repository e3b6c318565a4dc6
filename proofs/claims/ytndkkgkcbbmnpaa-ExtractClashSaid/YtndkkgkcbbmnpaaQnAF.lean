/-
  Contract of pergolaref01.Of.
  Contracts of block.Name, pergolaref19.Name; a header always has bytes.
-/
import Derived.Test.YtndkkgkcbbmnpaaQnAE
namespace Go.Pg
open Go.RowKit
/-- nothing but draws -/
structure SameW (W wr : World) : Prop where
  heap : wr.heap = W.heap
  os : wr.os = W.os
  tape : wr.tape = W.tape
  output : wr.output = W.output
theorem SameW.below {W wr : World} (h : SameW W wr) : Below W.heap.size W wr := ⟨h.os, h.tape, h.output, by rw [h.heap]; exact Nat.le_refl _, fun k _ => by rw [h.heap]⟩
theorem SameW.drewN {W wr : World} (h : SameW W wr) (n : Nat) : SameW W (wr.drewN n) := ⟨h.heap, h.os, h.tape, h.output⟩
theorem SameW.slice {W wr : World} {α : Type} {F : Nat → Prop} {sz : Nat} {R : List Value → α → Prop} {v : Value} {l : List α} (h : SameW W wr) (hsz : 0 < sz) (k : SliceAt F W sz R v l) : SliceAt F wr sz R v l :=
  SliceAt.carry k hsz (fun _ _ x => x) (fun b _ _ => by rw [h.heap]) (fun _ _ _ h => h)
/-- what has been added when r rounds are through -/
def kayAt : Nat → Int | 0 => 0 | r + 1 => kay r
theorem kayAt_step (r : Nat) : IntKind.u64.wrap (kayAt r + 11400714819323198485) = kay r := by
  cases r with
  | zero => show IntKind.u64.wrap (0 + 11400714819323198485) = kay 0; rw [kay_zero]; rfl
  | succ r => exact kay_step r
def wordR (cs : List Value) (x : Int) : Prop := cs = [.int .u64 x]
theorem wordR.one : ∀ cs x, wordR cs x → ∀ u ∈ cs, u.oneCell' = true := by
  intro cs x h u hu
  rw [h] at hu; simp at hu; subst hu; rfl
def S4.list (s : S4) : List Int := [s.a, s.b, s.c, s.d]
theorem S4.list_get (s : S4) (k : Nat) (h : k < 4) : s.list[k]'(h) = s.get k := by
  rcases k with _ | _ | _ | _ | k
  all_goals first | rfl | omega
theorem St4.words {w : World} {g : Nat} {t : TypeId} {s : S4} (h : St4 w g t s) : SliceAt (fun b => b = g) w 1 wordR (.slice (some ⟨g, 0, none⟩) 4 4) s.list := by
  refine ⟨some ⟨g, 0, none⟩, 4, rfl, Nat.le_refl _, by decide, (fun h => by cases h), fun _ => ⟨g, 0, rfl, rfl, fun i x hx => ?_⟩, fun b o j ha _ => ?_⟩
  · obtain ⟨hi, rfl⟩ := List.getElem?_eq_some_iff.1 hx
    refine ⟨[.int .u64 (s.list[i])], rfl, rfl, fun j u hu => ?_⟩
    match j, hu with
    | 0, hu =>
      simp only [List.getElem?_cons_zero, Option.some.injEq] at hu
      subst hu
      rw [s.list_get i hi]
      have := h.cell i hi
      simpa using this
  · simp only [Option.some.injEq, Addr.mk.injEq, and_true] at ha
    obtain ⟨rfl, rfl⟩ := ha
    exact h.free _
theorem words_cells {F : Nat → Prop} {w : World} {b o n c : Nat} {s : S4} (h : SliceAt F w 1 wordR (.slice (some ⟨b, o, none⟩) n c) s.list) (k : Nat) (hk : k < 4) : w.cell? ⟨b, o + k, none⟩ = some (.int .u64 (s.get k)) := by
  obtain ⟨cs, -, hr, hj⟩ := SliceAt.row h k hk
  rw [hr] at hj
  have := hj 0 _ rfl
  rw [s.list_get k hk] at this
  simpa using this
theorem outS_get (s : S4) (i : Nat) (h : i < 32) : (outS s)[i]'(by rw [outS_length]; exact h) = UInt8.ofNat ((s.get (i / 8)).toNat / 256 ^ (7 - i % 8) % 256) := by
  have h1 := outS_piece s (i / 8) (by omega)
  have h2 := beBytes8_get (s.get (i / 8)).toNat (i % 8) (Nat.mod_lt _ (by omega))
  have h3 : ((outS s).drop (8 * (i / 8))).take 8 = beBytes 8 (s.get (i / 8)).toNat := h1
  have h4 : (beBytes 8 (s.get (i / 8)).toNat)[i % 8]? = (outS s)[i]? := by
    rw [← h3, List.getElem?_take, if_pos (Nat.mod_lt _ (by omega)), List.getElem?_drop, show 8 * (i / 8) + i % 8 = i by omega]
  rw [List.getElem?_eq_getElem (by rw [beBytes_length]; exact Nat.mod_lt _ (by omega)), List.getElem?_eq_getElem (by rw [outS_length]; exact h)] at h4
  rw [← Option.some.inj h4, h2]
theorem out_cell (s : S4) (i : Nat) (h : i < 32) (x : Nat) (hx : s.get (i / 8) = (x : Int)) : (.int .u8 ((x : Int) / 2 ^ (56 - 8 * (i % 8)) % 256) : Value) = .int .u8 (((outS s)[i]'(by rw [outS_length]; exact h)).toNat : Int) := by
  have hm : i % 8 < 8 := Nat.mod_lt _ (by omega)
  rw [outS_get s i h, hx, Int.toNat_natCast, show 56 - 8 * (i % 8) = 8 * (7 - i % 8) by omega, shift_byte, UInt8.toNat_ofNat', Nat.mod_eq_of_lt (Nat.mod_lt _ (by omega))]
theorem add_assoc_u64 (a b y k : Int) : IntKind.u64.wrap (IntKind.u64.wrap (IntKind.u64.wrap (a + b) + y) + k) = IntKind.u64.wrap (a + IntKind.u64.wrap (IntKind.u64.wrap (b + y) + k)) := by
  simp only [IntKind.wrap_u64]; omega
end Go.Pg
namespace Go.Proofs.Ytndkkgkcbbmnpaa
open Go.RowKit Go.Pg

theorem infoU64 : (Try.prog.info? 38).map (fun i => (i.zero, i.size, i.bytes)) = some (some (.int .u64 0), 1, 8) := by kernel_rfl
theorem underlyingU64s : Try.prog.underlying 87 = some (.slice 38) := Try.underlying87
set_option maxRecDepth 100000 in
set_option maxHeartbeats 8000000 in
theorem rof_any (F : Nat → Prop) (w : World) (a : Option Addr) (n c : Nat) (bs : List UInt8) (h : BytesAt F w (.slice a n c) bs) (hn : n ≤ 140737488351232) :
    Calls Try.prog 36 #[.slice a n c] w (DigD w (digestOf bs)) := by
  have hnl := (BytesAt.n h).1
  obtain ⟨R, hR⟩ : ∃ R, R = digestOf bs := ⟨_, rfl⟩
  have hRl : (cellsOf R).size = 32 := by rw [cellsOf_size, hR, digestOf_length]
  rw [← hR]
  have HR := Lib.hid hR
  have HNL := Lib.hid hnl
  have H := Lib.hid h
  have HRL := Lib.hid hRl
  clear h hR hnl hRl
  go_enter Try.func36, Try.ntmps36
  go_wp2_with fail
  obtain ⟨Wz, hWz⟩ : ∃ W : World, W = w.alloc (.cells #[.int .u8 0, .int .u8 0, .int .u8 0, .int .u8 0, .int .u8 0, .int .u8 0, .int .u8 0, .int .u8 0, .int .u8 0, .int .u8 0, .int .u8 0, .int .u8 0, .int .u8 0, .int .u8 0, .int .u8 0, .int .u8 0, .int .u8 0, .int .u8 0, .int .u8 0, .int .u8 0, .int .u8 0, .int .u8 0, .int .u8 0, .int .u8 0, .int .u8 0, .int .u8 0, .int .u8 0, .int .u8 0, .int .u8 0, .int .u8 0, .int .u8 0, .int .u8 0] 37) := ⟨_, rfl⟩
  rw [← hWz]
  have hbz : Below w.heap.size w Wz := by rw [hWz]; exact Bel.alloc (Bel.refl w) _
  have hrz : Wz.heap[w.heap.size]? = some (.cells (cellsOf (List.replicate 32 0)) 37 (0, 0)) := by rw [hWz]; exact heap_alloc_new w _
  have hlt := (Array.getElem?_eq_some_iff.1 hrz).1
  refine (padded_any F Wz a n c bs (BytesAt.below H.out hbz) hn).mono ?_
  rintro e w1 ⟨v1, rfl, ho, hb1⟩
  obtain ⟨DD, hDD⟩ : ∃ D, D = padOf bs bs.length := ⟨_, rfl⟩
  rw [← hDD] at ho
  have hDl : DD.length % 32 = 0 := by rw [hDD]; exact padOf_length _ _
  have hDn : DD.length ≤ n + 64 := by rw [hDD, HNL.out]; simp [padOf, beBytes_length, zeros]; omega
  have hat := ho.at (F := fun b => b < w1.heap.size) (fun _ _ _ h => h) (by decide)
  obtain ⟨at1, ct1, rfl, h2, h3, -⟩ := ho.len
  have hr1 := (hb1.block _ hlt).trans hrz
  have hlt1 : w.heap.size < w1.heap.size := Nat.lt_of_lt_of_le hlt hb1.size
  obtain ⟨tn, htn⟩ : ∃ tn, tn = DD.length := ⟨_, rfl⟩
  rw [← htn] at hat hDl hDn h2 ⊢
  have HTN := Lib.hid htn
  have HAT := Lib.hid hat
  have HBL := Lib.hid (Bel.call hbz hb1)
  have HR1 := Lib.hid hr1
  have HDD := Lib.hid hDD
  have HDL := Lib.hid hDl
  unfold maxLen at h3
  clear hWz hbz hrz hb1 ho hDD hat hr1 htn hDl
  go_wp2_with fail
  obtain ⟨W2, hW2⟩ : ∃ v, v = w1.alloc (.cells #[.int .u64 11400714819323198485, .int .u64 (IntKind.u64.wrap 22801429638646396970), .int .u64 (IntKind.u64.wrap (IntKind.u64.wrap 22801429638646396970 + 11400714819323198485)), .int .u64 (IntKind.u64.wrap (IntKind.u64.wrap (IntKind.u64.wrap 22801429638646396970 + 11400714819323198485) + 11400714819323198485))] 38) := ⟨_, rfl⟩
  rw [← hW2]
  have HI2 : Hid (Below w.heap.size w W2 ∧ W2.heap[w.heap.size]? = some (.cells (cellsOf (List.replicate 32 0)) 37 (0, 0)) ∧ BytesAt (fun b => b < w1.heap.size) W2 (.slice at1 tn ct1) DD ∧ w1.heap.size ≤ w1.heap.size ∧ St4 W2 w1.heap.size 38 begunS ∧ absorb begunS (DD.drop 0) = absorb begunS DD ∧ begunS.ok) := by
    have e : (⟨11400714819323198485, IntKind.u64.wrap 22801429638646396970, IntKind.u64.wrap (IntKind.u64.wrap 22801429638646396970 + 11400714819323198485), IntKind.u64.wrap (IntKind.u64.wrap (IntKind.u64.wrap 22801429638646396970 + 11400714819323198485) + 11400714819323198485)⟩ : S4) = begunS := by
      simp only [IntKind.wrap_u64, begunS, kay, golden]
      rfl
    rw [hW2]
    refine ⟨Bel.alloc HBL.out _, (Below.heap_alloc _ _ _ hlt1).trans HR1.out, BytesAt.below HAT.out (Bel.alloc (Bel.refl w1) _), Nat.le_refl _, ?_, rfl, begunS_ok⟩
    rw [← e]
    exact St4.new w1 _ ⟨_, _, _, _⟩ rfl
  clear hW2 HBL HR1 HAT
  go_loopw [5, 6] (fun sv iv wr => ∃ (g q : Nat) (X : S4), sv = .slice (some ⟨g, 0, none⟩) 4 4 ∧ iv = .int .i64 q ∧ q ≤ tn ∧ q % 32 = 0 ∧ Hid (Below w.heap.size w wr ∧ wr.heap[w.heap.size]? = some (.cells (cellsOf (List.replicate 32 0)) 37 (0, 0)) ∧ BytesAt (fun b => b < w1.heap.size) wr (.slice at1 tn ct1) DD ∧ w1.heap.size ≤ g ∧ St4 wr g 38 X ∧ absorb X (DD.drop q) = absorb begunS DD ∧ X.ok)) (fun _ i _ => tn - (intOf i).toNat)
  case atStart => exact ⟨_, 0, begunS, rfl, rfl, by omega, rfl, HI2⟩
  case round =>
    obtain ⟨g, q, X, rfl, rfl, hq, hq32, HS⟩ := hrel
    obtain ⟨j1, j2, j3, j4, j5, j6, j7⟩ := HS.out
    by_cases hqt : q < tn
    · have hq2 : q + 32 ≤ tn := by have := HDL.out; omega
      have hglt := j5.lt
      obtain ⟨i0, hi, hz0, hz1, hz2⟩ := info_parts infoU64
      have hown : OwnAt (wr.alloc (.cells #[] 38)) wr.heap.size 38 1 wordR (.slice (some ⟨wr.heap.size, 0, none⟩) 0 0) ([] : List Int) :=
        ⟨[], World.ownsRow_made wr #[] 0 (Nat.le_refl _) (by decide) rfl, Rows.nil _ _⟩
      have hsrc : SliceAt (fun b => b = g) (wr.alloc (.cells #[] 38)) 1 wordR (.slice (some ⟨g, 0, none⟩) 4 4) X.list := (j5.alloc _).words
      have hbase : wr.heap.size ≤ (wr.alloc (.cells #[] 38)).heap.size := by simp
      have hle : (([] : List Int).length + X.list.length) * 8 ≤ 140737488355328 := by simp [S4.list]
      have HLX := Lib.hid hle
      clear hle
      have HO := Lib.hid hown
      have HSR := Lib.hid hsrc
      have J1 := Lib.hid j1
      have J2 := Lib.hid j2
      have J3 := Lib.hid j3
      have J4 := Lib.hid j4
      have J5 := Lib.hid j5
      have J6 := Lib.hid j6
      have J7 := Lib.hid j7
      have hq0 : (0 : Int) ≤ (q : Int) := by omega
      have hq1 : (q : Int) < (tn : Int) := by omega
      clear hown hsrc j1 j2 j3 j4 j5 j6 j7 HS
      go_wp2_with (at_builtin; refine wpList_append_at rfl (.tmp 43) (.tmp 44) 87 rfl wr.heap.size 38 i0 (.int .u64 0) 1 8 underlyingU64s hi hz0 hz1 hz2 rfl (by decide) (by decide) wordR.one (.slice (some ⟨wr.heap.size, 0, none⟩) 0 0) [] rfl HO.out (.slice (some ⟨g, 0, none⟩) 4 4) X.list (fun b => b = g) rfl HSR.out HLX.out hbase ?next)
      case next =>
      intro v2 w2 ho hg hm
      have hp := ho.at (F := fun b => wr.heap.size ≤ b) (fun _ _ h _ => h) (by decide)
      obtain ⟨ap, cp, rfl, hcp, -, -⟩ := ho.len
      have hX4 : X.list.length = 4 := rfl
      rw [hX4]
      rw [hX4] at hcp
      replace hp : SliceAt (fun b => wr.heap.size ≤ b) w2 1 wordR (.slice ap 4 cp) X.list := hp
      have hb2 : Below wr.heap.size wr w2 := (Bel.alloc (Bel.refl wr) _).grown hg hbase (fun k hk => ((HO.out).own k hk).1)
      have hb2s := hb2.size
      have HP := Lib.hid hp
      have HB2 := Lib.hid hb2
      clear ho hg hm hp hb2 HO HSR
      have hB2 := BytesAt.below J3.out HB2.out
      have HBT := Lib.hid hB2
      clear hB2
      go_wp2_with fail
      refine (rword_any _ w2 at1 tn ct1 DD HBT.out (q + 0) _ (by omega) (by omega)).mono ?_
      rintro e w' ⟨rfl, rfl⟩
      obtain ⟨y0, hy0⟩ : ∃ y, y = wordAt DD (q + 0) := ⟨_, rfl⟩
      rw [← hy0]
      have HY0 := Lib.hid hy0
      clear hy0
      go_wp2_with fail
      refine (rword_any _ w2 at1 tn ct1 DD HBT.out (q + 8) _ (by omega) (by omega)).mono ?_
      rintro e w' ⟨rfl, rfl⟩
      obtain ⟨y1, hy1⟩ : ∃ y, y = wordAt DD (q + 8) := ⟨_, rfl⟩
      rw [← hy1]
      have HY1 := Lib.hid hy1
      clear hy1
      go_wp2_with fail
      refine (rword_any _ w2 at1 tn ct1 DD HBT.out (q + 16) _ (by omega) (by omega)).mono ?_
      rintro e w' ⟨rfl, rfl⟩
      obtain ⟨y2, hy2⟩ : ∃ y, y = wordAt DD (q + 16) := ⟨_, rfl⟩
      rw [← hy2]
      have HY2 := Lib.hid hy2
      clear hy2
      go_wp2_with fail
      refine (rword_any _ w2 at1 tn ct1 DD HBT.out (q + 24) _ (by omega) (by omega)).mono ?_
      rintro e w' ⟨rfl, rfl⟩
      obtain ⟨y3, hy3⟩ : ∃ y, y = wordAt DD (q + 24) := ⟨_, rfl⟩
      rw [← hy3]
      have HY3 := Lib.hid hy3
      clear hy3
      go_wp2_with fail
      obtain ⟨M, hM⟩ : ∃ M, M = w2.heap.size := ⟨_, rfl⟩
      obtain ⟨W3, hW3⟩ : ∃ v, v = w2.alloc (.cells #[.int .u64 y0, .int .u64 y1, .int .u64 y2, .int .u64 y3] 38) := ⟨_, rfl⟩
      rw [← hW3, ← hM]
      have hb3 : Below wr.heap.size wr W3 := by rw [hW3]; exact Bel.alloc HB2.out _
      have hm3 : St4 W3 M 38 ⟨y0, y1, y2, y3⟩ := by rw [hW3, hM]; exact St4.new w2 _ ⟨y0, y1, y2, y3⟩ rfl
      have hs3 : St4 W3 g 38 X := J5.out.below (hb3.block g hglt)
      have hp3 : SliceAt (fun b => wr.heap.size ≤ b ∧ b ≠ M) W3 1 wordR (.slice ap 4 cp) X.list := by
        rw [hW3]
        exact SliceAt.carry HP.out (by decide) (fun b hlt hb => ⟨hb, by omega⟩) (fun b _ hl => Below.heap_alloc _ _ _ hl) (fun _ _ _ h => h)
      have hsz3 : W3.heap.size = M + 1 := by rw [hW3, hM]; simp
      obtain ⟨xa, xb, xc, xd⟩ := X
      have c0 := hs3.cell 0 (by omega)
      have c1 := hs3.cell 1 (by omega)
      have c2 := hs3.cell 2 (by omega)
      have c3 := hs3.cell 3 (by omega)
      have d0 := hm3.cell 0 (by omega)
      have d1 := hm3.cell 1 (by omega)
      have d2 := hm3.cell 2 (by omega)
      have d3 := hm3.cell 3 (by omega)
      simp only [S4.get] at c0 c1 c2 c3 d0 d1 d2 d3
      have hgM : g < M := by omega
      have hW3all : Below w.heap.size w W3 ∧ W3.heap[w.heap.size]? = some (.cells (cellsOf (List.replicate 32 0)) 37 (0, 0)) ∧ BytesAt (fun b => b < w1.heap.size) W3 (.slice at1 tn ct1) DD ∧ w1.heap.size ≤ W3.heap.size := by
        have hlo := (Array.getElem?_eq_some_iff.1 J2.out).1
        have hJ4 := J4.out
        exact ⟨J1.out.trans (hb3.mono J1.out.size), (hb3.block _ hlo).trans J2.out, BytesAt.below J3.out hb3, by omega⟩
      have hwo : wordsOf (DD.drop q) = ⟨y0, y1, y2, y3⟩ := by
        have e : ∀ k, wordAt (DD.drop q) k = wordAt DD (q + k) := fun k => by unfold wordAt; rw [List.drop_drop]
        unfold wordsOf
        rw [e 0, e 8, e 16, e 24, ← HY0.out, ← HY1.out, ← HY2.out, ← HY3.out]
      have habs : ∀ X', X' = mixedS ⟨xa, xb, xc, xd⟩ ⟨y0, y1, y2, y3⟩ → absorb X' (DD.drop (q + 32)) = absorb begunS DD := fun X' hX' => by
        have h1 := J6.out
        rw [absorb_step _ _ (by rw [List.length_drop, ← HTN.out]; omega), hwo, List.drop_drop] at h1
        rw [hX']; exact h1
      have HW3A := Lib.hid hW3all
      have HABS := Lib.hid habs
      clear hW3all hwo habs
      have HB3 := Lib.hid hb3
      have HM3 := Lib.hid hm3
      have HP3 := Lib.hid hp3
      have HSZ3 := Lib.hid hsz3
      have HM := Lib.hid hM
      clear hW3 hb3 hm3 hs3 hp3 hsz3 hM HP HB2 HBT
      go_quiet (fail)
      go_wp2
      go_quiet (fail)
      go_wp2
      go_quiet (fail)
      go_wp2
      go_quiet (fail)
      go_wp2
      obtain ⟨P0, hP0⟩ : ∃ P : S4, P = S4.xor ⟨xa, xb, xc, xd⟩ ⟨y0, y1, y2, y3⟩ := ⟨_, rfl⟩
      have HP0 := Lib.hid hP0
      have HS0 : Hid (∀ n1 n2 n3 n4, SameW W3 ((((W3.drewN n1).drewN n2).drewN n3).drewN n4)) := Lib.hid (fun _ _ _ _ => ⟨rfl, rfl, rfl, rfl⟩)
      clear hP0 c0 c1 c2 c3 d0 d1 d2 d3
      go_loopw [9, 10, 11, 12, 13, 14, 15] (fun av bv cv dv kv rv ev wr => ∃ (r : Nat), r ≤ 8 ∧ av = .int .u64 (rounds ⟨y0, y1, y2, y3⟩ P0 r).a ∧ bv = .int .u64 (rounds ⟨y0, y1, y2, y3⟩ P0 r).b ∧ cv = .int .u64 (rounds ⟨y0, y1, y2, y3⟩ P0 r).c ∧ dv = .int .u64 (rounds ⟨y0, y1, y2, y3⟩ P0 r).d ∧ kv = .int .u64 (kayAt r) ∧ rv = .int .i64 r ∧ Hid (SameW W3 wr)) (fun _ _ _ _ _ rv _ _ => 8 - (intOf rv).toNat)
      case atStart => exact ⟨0, by omega, by rw [HP0.out]; rfl, by rw [HP0.out]; rfl, by rw [HP0.out]; rfl, by rw [HP0.out]; rfl, rfl, rfl, HS0.out _ _ _ _⟩
      case round =>
        obtain ⟨r, hr8, rfl, rfl, rfl, rfl, rfl, rfl, HSW⟩ := hrel
        obtain ⟨Z, hZ⟩ : ∃ Z, Z = rounds ⟨y0, y1, y2, y3⟩ P0 r := ⟨_, rfl⟩
        rw [← hZ]
        obtain ⟨za, zb, zc, zd⟩ := Z
        have HZ := Lib.hid hZ
        clear hZ
        have hm4 : St4 wr M 38 ⟨y0, y1, y2, y3⟩ := HM3.out.below (by rw [HSW.out.heap])
        by_cases hr : r < 8
        · have gm := hm4.cell (r % 4) (Nat.mod_lt _ (by omega))
          obtain ⟨y, hy⟩ : ∃ y, y = S4.get ⟨y0, y1, y2, y3⟩ (r % 4) := ⟨_, rfl⟩
          rw [← hy] at gm
          have HY := Lib.hid hy
          obtain ⟨ky, hky⟩ : ∃ ky, ky = kay r := ⟨_, rfl⟩
          have hks := kayAt_step r
          rw [← hky] at hks
          obtain ⟨k0, hk0⟩ : ∃ k0, k0 = kayAt r := ⟨_, rfl⟩
          rw [← hk0] at hks ⊢
          have HK := Lib.hid hky
          have HKS := Lib.hid hks
          have hr0 : (0 : Int) ≤ (r : Int) := by omega
          have hr1 : (r : Int) < 8 := by omega
          clear hy hky hks hk0 hm4
          go_wp2_with fail
          rw [HKS.out]
          obtain ⟨a1, ha1⟩ : ∃ v, v = IntKind.u64.wrap (IntKind.u64.wrap (IntKind.u64.wrap (za + zb) + y) + ky) := ⟨_, rfl⟩
          rw [← ha1]
          have Ha1 := Lib.hid ha1
          clear ha1
          refine (rrot_32 _ _ (bits_u64_range _ _ _).1 (bits_u64_range _ _ _).2).mono ?_
          rintro e w5 ⟨rfl, k32, rfl⟩
          obtain ⟨d1, hd1⟩ : ∃ v, v = rotW (bits .xor .u64 zd a1) 32 := ⟨_, rfl⟩
          rw [← hd1]
          have Hd1 := Lib.hid hd1
          clear hd1
          go_wp2_with fail
          obtain ⟨c1, hc1⟩ : ∃ v, v = IntKind.u64.wrap (zc + d1) := ⟨_, rfl⟩
          rw [← hc1]
          have Hc1 := Lib.hid hc1
          clear hc1
          refine (rrot_24 _ _ (bits_u64_range _ _ _).1 (bits_u64_range _ _ _).2).mono ?_
          rintro e w5 ⟨rfl, k24, rfl⟩
          obtain ⟨b1, hb1⟩ : ∃ v, v = rotW (bits .xor .u64 zb c1) 24 := ⟨_, rfl⟩
          rw [← hb1]
          have Hb1 := Lib.hid hb1
          clear hb1
          go_wp2_with fail
          obtain ⟨a2, ha2⟩ : ∃ v, v = IntKind.u64.wrap (a1 + b1) := ⟨_, rfl⟩
          rw [← ha2]
          have Ha2 := Lib.hid ha2
          clear ha2
          refine (rrot_16 _ _ (bits_u64_range _ _ _).1 (bits_u64_range _ _ _).2).mono ?_
          rintro e w5 ⟨rfl, k16, rfl⟩
          obtain ⟨d2, hd2⟩ : ∃ v, v = rotW (bits .xor .u64 d1 a2) 16 := ⟨_, rfl⟩
          rw [← hd2]
          have Hd2 := Lib.hid hd2
          clear hd2
          go_wp2_with fail
          obtain ⟨c2, hc2⟩ : ∃ v, v = IntKind.u64.wrap (c1 + d2) := ⟨_, rfl⟩
          rw [← hc2]
          have Hc2 := Lib.hid hc2
          clear hc2
          refine (rrot_63 _ _ (bits_u64_range _ _ _).1 (bits_u64_range _ _ _).2).mono ?_
          rintro e w5 ⟨rfl, k63, rfl⟩
          obtain ⟨b2, hb2⟩ : ∃ v, v = rotW (bits .xor .u64 b1 c2) 63 := ⟨_, rfl⟩
          rw [← hb2]
          have Hb2 := Lib.hid hb2
          clear hb2
          have hround : rounds ⟨y0, y1, y2, y3⟩ P0 (r + 1) = ⟨b2, c2, d2, a2⟩ := by
            show round ⟨y0, y1, y2, y3⟩ r (rounds ⟨y0, y1, y2, y3⟩ P0 r) = _
            rw [← HZ.out]
            unfold round addW xorW
            simp only []
            rw [← HY.out, ← HK.out, ← add_assoc_u64, ← Ha1.out, ← Hd1.out, ← Hc1.out, ← Hb1.out, ← Ha2.out, ← Hd2.out, ← Hc2.out, ← Hb2.out]
          have HRD := Lib.hid hround
          have HKA : Hid (kayAt (r + 1) = ky) := Lib.hid HK.out.symm
          clear hround gm
          go_wp2
          go_roundw
          case rel => exact ⟨r + 1, by omega, by rw [HRD.out], by rw [HRD.out], by rw [HRD.out], by rw [HRD.out], by rw [HKA.out], num_eq (by omega), Lib.hid (HSW.out.drewN _)⟩
          case measure => simp [intOf]; omega
        · obtain rfl : r = 8 := by omega
          have hpw := HSW.out.slice (by decide) HP3.out
          rcases SliceAt.split hpw with ⟨h00, _⟩ | ⟨pb, po, rfl, -, -, hFp⟩
          · cases h00
          have p0 := words_cells hpw 0 (by omega)
          have p1 := words_cells hpw 1 (by omega)
          have p2 := words_cells hpw 2 (by omega)
          have p3 := words_cells hpw 3 (by omega)
          simp only [S4.get, Nat.add_zero] at p0 p1 p2 p3
          clear hpw hr hm4
          go_wp2_with fail
          go_region_held3 (fun w' => w'.cell? ⟨pb, po, none⟩ = some (.int .u64 xa) ∧ w'.cell? ⟨pb, po + 1, none⟩ = some (.int .u64 xb) ∧ w'.cell? ⟨pb, po + 2, none⟩ = some (.int .u64 xc) ∧ w'.cell? ⟨pb, po + 3, none⟩ = some (.int .u64 xd)) (go_keep) (fail)
          obtain ⟨WE, hWE⟩ : ∃ v, v = (wr.alloc (.cells #[.int .u64 (bits .xor .u64 za xa), .int .u64 (bits .xor .u64 zb xb), .int .u64 (bits .xor .u64 zc xc), .int .u64 (bits .xor .u64 zd xd)] 38)).drew := ⟨_, rfl⟩
          have hXm : (S4.xor ⟨za, zb, zc, zd⟩ ⟨xa, xb, xc, xd⟩) = mixedS ⟨xa, xb, xc, xd⟩ ⟨y0, y1, y2, y3⟩ := by
            unfold mixedS
            rw [← HP0.out, ← HZ.out]
          have HNE : Hid (Below w.heap.size w WE ∧ WE.heap[w.heap.size]? = some (.cells (cellsOf (List.replicate 32 0)) 37 (0, 0)) ∧ BytesAt (fun b => b < w1.heap.size) WE (.slice at1 tn ct1) DD ∧ w1.heap.size ≤ wr.heap.size ∧ St4 WE wr.heap.size 38 (S4.xor ⟨za, zb, zc, zd⟩ ⟨xa, xb, xc, xd⟩) ∧ absorb (S4.xor ⟨za, zb, zc, zd⟩ ⟨xa, xb, xc, xd⟩) (DD.drop (q + 32)) = absorb begunS DD ∧ (S4.xor ⟨za, zb, zc, zd⟩ ⟨xa, xb, xc, xd⟩).ok) := by
            obtain ⟨g1, g2, g3, g4⟩ := HW3A.out
            have hsw := HSW.out.below
            have hb4 : Below W3.heap.size W3 WE := by rw [hWE]; exact (Bel.alloc hsw _).drew
            have hlo := (Array.getElem?_eq_some_iff.1 g2).1
            refine ⟨g1.trans (hb4.mono g1.size), (hb4.block _ hlo).trans g2, BytesAt.below g3 hb4, by rw [HSW.out.heap]; exact g4, ?_, HABS.out _ hXm, by rw [hXm]; exact mixedS_ok _ _⟩
            rw [hWE]
            exact St4.new wr _ (S4.xor ⟨za, zb, zc, zd⟩ ⟨xa, xb, xc, xd⟩) rfl
          have HWE := Lib.hid hWE
          clear hWE hXm p0 p1 p2 p3
          go_wp2_with fail
          rw [← HWE.out]
          go_roundw
          case rel => exact ⟨_, q + 32, _, rfl, num_eq (by omega), by omega, by omega, HNE⟩
          case measure => simp [intOf]; omega
    · obtain rfl : q = tn := by omega
      have hfin : outS X = R := by
        rw [HR.out]
        unfold digestOf
        rw [← HDD.out, ← j6, HTN.out, List.drop_length, absorb_done X [] (by simp)]
      have HFIN := Lib.hid hfin
      have J1 := Lib.hid j1
      have J2 := Lib.hid j2
      have J5 := Lib.hid j5
      have J7 := Lib.hid j7
      have hgw : w.heap.size < g := by omega
      clear hfin j1 j2 j3 j5 j6 j7 HS
      go_wp2_with fail
      obtain ⟨L, hL⟩ : ∃ L, L = outS X := ⟨_, rfl⟩
      have hLl : L.length = 32 := by rw [hL]; exact outS_length _
      obtain ⟨D, hD⟩ : ∃ D, D = wr.heap.size := ⟨_, rfl⟩
      obtain ⟨W9, hW9⟩ : ∃ v, v = wr.alloc (.cells #[.int .u8 0, .int .u8 0, .int .u8 0, .int .u8 0, .int .u8 0, .int .u8 0, .int .u8 0, .int .u8 0, .int .u8 0, .int .u8 0, .int .u8 0, .int .u8 0, .int .u8 0, .int .u8 0, .int .u8 0, .int .u8 0, .int .u8 0, .int .u8 0, .int .u8 0, .int .u8 0, .int .u8 0, .int .u8 0, .int .u8 0, .int .u8 0, .int .u8 0, .int .u8 0, .int .u8 0, .int .u8 0, .int .u8 0, .int .u8 0, .int .u8 0, .int .u8 0] 37) := ⟨_, rfl⟩
      rw [← hW9, ← hD]
      have hgD : g < D := by rw [hD]; exact J5.out.lt
      have HI9 : Hid (Below w.heap.size w W9 ∧ W9.heap[w.heap.size]? = some (.cells (cellsOf (List.replicate 32 0)) 37 (0, 0)) ∧ W9.heap[D]? = some (.cells (cellsOf (filling L 0)) 37 (0, 0)) ∧ St4 W9 g 38 X) := by
        rw [hW9, hD, filling_zero, hLl]
        have hlo := (Array.getElem?_eq_some_iff.1 J2.out).1
        exact ⟨Bel.alloc J1.out _, (Below.heap_alloc _ _ _ hlo).trans J2.out, heap_alloc_new wr _, J5.out.alloc _⟩
      have HL := Lib.hid hL
      have HLL := Lib.hid hLl
      clear hW9 hD hL hLl J1 J2 J5
      go_loopw [17] (fun i wr => ∃ k : Nat, k ≤ 32 ∧ i = .int .i64 k ∧ Hid (Below w.heap.size w wr ∧ wr.heap[w.heap.size]? = some (.cells (cellsOf (List.replicate 32 0)) 37 (0, 0)) ∧ wr.heap[D]? = some (.cells (cellsOf (filling L k)) 37 (0, 0)) ∧ St4 wr g 38 X)) (fun i _ => 32 - (intOf i).toNat)
      case atStart => exact ⟨0, by omega, rfl, HI9⟩
      case round =>
        obtain ⟨k, hk, rfl, HS⟩ := hrel
        by_cases hlt : k < 32
        · obtain ⟨g1, g2, g3, g4⟩ := HS.out
          have hkL : k < L.length := by rw [HLL.out]; exact hlt
          obtain ⟨xk, hxk⟩ : ∃ xk : Nat, X.get (k / 8) = (xk : Int) := ⟨(X.get (k / 8)).toNat, by have := (J7.out (k / 8) (by omega)).1; omega⟩
          have gc := g4.cell (k / 8) (by omega)
          rw [hxk] at gc
          have gd : wr.cell? ⟨D, k, none⟩ = some (.int .u8 (((filling L k)[k]'(by rw [filling_length]; exact hkL)).toNat : Int)) := by
            rw [cell_of_row _ _ _ _ _ _ g3, cellsOf_get]
          have gf := frozen_of_row wr D k _ _ g3
          have hval : (.int .u8 ((xk : Int) / 2 ^ (56 - 8 * (k % 8)) % 256) : Value) = .int .u8 ((L[k]'hkL).toNat : Int) := by
            rw [out_cell X k hlt xk hxk]
            congr 3
            simp only [HL.out]
          have HV := Lib.hid hval
          have hxb : (0 : Int) ≤ (xk : Int) := by omega
          have hk0 : (0 : Int) ≤ (k : Int) := by omega
          have hk1 : (k : Int) < 32 := by omega
          have hk8 : (k : Int) / 8 < 4 := by omega
          have hk80 : (0 : Int) ≤ (k : Int) / 8 := by omega
          have hkm : (k : Int) % 8 < 8 := by omega
          have hkm0 : (0 : Int) ≤ (k : Int) % 8 := by omega
          clear hval hxk g1 g2 g3 g4
          go_wp2_with fail
          go_roundw
          case rel =>
            obtain ⟨g1, g2, g3, g4⟩ := HS.out
            refine ⟨k + 1, by omega, num_eq (by omega), g1.setCell (by show w.heap.size ≤ D; omega) _, ?_, ?_, g4.far (by omega) _⟩
            · rw [Below.heap_setCell _ _ _ _ (by show w.heap.size ≠ D; omega)]; exact g2
            · rw [HV.out, blk_setCell g3, cellsOf_set, filling_step _ _ hkL]
          case measure => simp [intOf]; omega
        · obtain rfl : k = 32 := by omega
          obtain ⟨g1, g2, g3, g4⟩ := HS.out
          have hf := filling_all L
          rw [HLL.out] at hf
          rw [hf] at g3
          have hLs : (cellsOf L).size = 32 := by rw [cellsOf_size, HLL.out]
          have G1 := Lib.hid g1
          have G2 := Lib.hid g2
          have G3 := Lib.hid g3
          have HLS := Lib.hid hLs
          clear g1 g2 g3 g4 hf HS hLs
          go_wp2_with (first
            | (refine wpList_load_row rfl 37 (.tmp 16) rfl D rfl 37 (cellsOf L) (0, 0) (.array 32 5) G3.out underlyingDig rfl (by rw [HLS.out]; exact infoDig) ?_)
            | (refine wpList_store_row rfl 37 (.tmp 2) (.tmp 176) rfl w.heap.size (cellsOf L) rfl rfl 37 (cellsOf (List.replicate 32 0)) G2.out (by rw [HLS.out]; exact infoDig) (by rw [HLS.out]; rfl) (cellsOf_one L) ?_))
          have hr2 : (wr.setRow w.heap.size (cellsOf L)).heap[w.heap.size]? = some (.cells (cellsOf L) 37 (0, 0)) := setRow_heap wr _ _ _ _ _ G2.out
          refine bodyPost_ret (v := .agg (cellsOf L)) (results_cell_row rfl _ _ w.heap.size 37 (cellsOf L) (0, 0) (.array 32 5) rfl hr2 underlyingDig rfl (by rw [HLS.out]; exact infoDig)) rfl ?_
          refine ⟨?_, below_setRow G1.out (Nat.le_refl _) _⟩
          rw [HL.out, HFIN.out]
end Go.Proofs.Ytndkkgkcbbmnpaa
namespace Go.Pg
open Go.RowKit
theorem sz_55 (n : Nat) (h : n ≤ 55) : sz n = n + 1 := by unfold sz; rw [if_pos (by omega)]
theorem text_whole_le (b : List UInt8) (h : b.length ≤ 55) : (It.text b).whole ≤ b.length + 1 := by
  unfold It.whole; rw [sz_55 _ h]; split <;> omega
theorem hdr_wholes (h : Hdr) (ho : h.ok) : It.wholes (hdrI h).items ≤ 159 := by
  have a1 := text_whole_le h.p (by rw [ho.p]; omega)
  have a2 := text_whole_le h.tx (by rw [ho.tx]; omega)
  have a3 := text_whole_le h.st (by rw [ho.st]; omega)
  have a4 := text_whole_le h.rc (by rw [ho.rc]; omega)
  have b1 := wordB_le h.nn ho.nn
  have b2 := wordB_le h.bb ho.bb
  have b3 := wordB_le h.gg ho.gg
  have c1 := text_whole_le (wordB h.nn) (by omega)
  have c2 := text_whole_le (wordB h.bb) (by omega)
  have c3 := text_whole_le (wordB h.gg) (by omega)
  rw [ho.p] at a1; rw [ho.tx] at a2; rw [ho.st] at a3; rw [ho.rc] at a4
  simp only [hdrI, It.items, It.wholes]
  omega
theorem sz_le3 (n : Nat) (h : n ≤ 200) : sz n ≤ n + 3 := by unfold sz; split; · omega
                                                            · have : number n ≤ 1 := number_le 1 n (by omega)
                                                              omega
theorem hdr_whole (h : Hdr) (ho : h.ok) : (hdrI h).whole ≤ 162 := by
  have h1 := hdr_wholes h ho
  have h2 : (hdrI h).whole = sz (It.wholes (hdrI h).items) := by simp [hdrI, It.whole, It.items]
  rw [h2]
  have := sz_le3 _ (show It.wholes (hdrI h).items ≤ 200 by omega)
  omega
theorem hdr_fits (h : Hdr) (ho : h.ok) : It.fits 8 (hdrI h) := by
  have h1 := hdr_wholes h ho
  unfold hdrI at h1 ⊢
  simp only [It.items] at h1
  refine ⟨by omega, fun y hy => ?_⟩
  have h2 := whole_le_wholes _ y hy
  have h3 := It.body_le_whole y
  simp only [List.mem_cons, List.not_mem_nil, or_false] at hy
  rcases hy with rfl | rfl | rfl | rfl | rfl | rfl | rfl <;> (simp only [It.body] at h3; simp only [It.fits]; omega)
theorem hdr_encode (h : Hdr) (ho : h.ok) : (hdrI h).encode = ((hdrI h).enc, 0) := encode_ok _ (hdr_fits h ho)
theorem hdrBytes_eq (h : Hdr) (ho : h.ok) : hdrBytes h = (hdrI h).enc := by unfold hdrBytes; rw [hdr_encode h ho]
theorem hdrBytes_le (h : Hdr) (ho : h.ok) : (hdrBytes h).length ≤ 162 := by
  rw [hdrBytes_eq h ho, It.enc_length]
  exact hdr_whole h ho
theorem hdrCells_size (h : Hdr) (ho : h.ok) : (hdrCells h).size = 131 := by
  have l0 : (cellsL h.p).length = 32 := by rw [cellsL_length, ho.p]
  have l1 : (cellsL h.tx).length = 32 := by rw [cellsL_length, ho.tx]
  have l2 : (cellsL h.st).length = 32 := by rw [cellsL_length, ho.st]
  have l3 : (cellsL h.rc).length = 32 := by rw [cellsL_length, ho.rc]
  unfold hdrCells
  simp [l0, l1, l2, l3]
end Go.Pg
namespace Go.Proofs.Ytndkkgkcbbmnpaa
open Go.RowKit Go.Pg
theorem underlyingHdr : ∃ fs, Try.prog.underlying 47 = some (.struct fs) := ⟨_, Try.underlying47⟩
theorem infoHdr : (Try.prog.info? 47).map (·.size) = some 131 := by kernel_rfl

set_option maxRecDepth 100000 in
set_option maxHeartbeats 2000000 in
theorem bName_any (w : World) (h : Hdr) (ho : h.ok) : Calls Try.prog 29 #[.agg (hdrCells h)] w (DigD w (digestOf (hdrBytes h))) := by
  obtain ⟨BC, hBC⟩ : ∃ BC, BC = hdrCells h := ⟨_, rfl⟩
  have hlen : (hdrBytes h).length ≤ 162 := hdrBytes_le h ho
  have hsz : BC.size = 131 := by rw [hBC]; exact hdrCells_size h ho
  obtain ⟨B, hB⟩ : ∃ B, B = hdrBytes h := ⟨_, rfl⟩
  have hcall := fun W => encHdr_any W h ho (Nat.le_trans (hdr_whole h ho) (by omega))
  obtain ⟨R, hR⟩ : ∃ R, R = digestOf B := ⟨_, rfl⟩
  have hRl : (cellsOf R).size = 32 := by rw [cellsOf_size, hR, digestOf_length]
  rw [← hB] at hlen
  rw [← hB, ← hR, ← hBC]
  rw [← hBC] at hcall
  rw [← hB] at hcall
  obtain ⟨fs, hu⟩ := underlyingHdr
  have HU := Lib.hid hu
  have HC := Lib.hid hcall
  have HSZ := Lib.hid hsz
  have HR := Lib.hid hR
  have HRL := Lib.hid hRl
  have HLEN := Lib.hid hlen
  clear hBC hB hcall hsz hlen hR hRl hu
  go_enter Try.func29, Try.ntmps29
  obtain ⟨Wz, hWz⟩ : ∃ W : World, W = (w.alloc (.cells BC 47)).alloc (.cells #[.int .u8 0, .int .u8 0, .int .u8 0, .int .u8 0, .int .u8 0, .int .u8 0, .int .u8 0, .int .u8 0, .int .u8 0, .int .u8 0, .int .u8 0, .int .u8 0, .int .u8 0, .int .u8 0, .int .u8 0, .int .u8 0, .int .u8 0, .int .u8 0, .int .u8 0, .int .u8 0, .int .u8 0, .int .u8 0, .int .u8 0, .int .u8 0, .int .u8 0, .int .u8 0, .int .u8 0, .int .u8 0, .int .u8 0, .int .u8 0, .int .u8 0, .int .u8 0] 37) := ⟨_, rfl⟩
  have hb0 : Below w.heap.size w Wz := by rw [hWz]; exact Bel.alloc (Bel.alloc (Bel.refl w) _) _
  have hk0 : Wz.heap[w.heap.size]? = some (.cells BC 47 (0, 0)) := by rw [hWz, Below.heap_alloc _ _ _ (by simp)]; exact heap_alloc_new w _
  have hr0 : Wz.heap[w.heap.size + 1]? = some (.cells (cellsOf (List.replicate 32 0)) 37 (0, 0)) := by rw [hWz]; have := heap_alloc_new (w.alloc (.cells BC 47)) (.cells #[.int .u8 0, .int .u8 0, .int .u8 0, .int .u8 0, .int .u8 0, .int .u8 0, .int .u8 0, .int .u8 0, .int .u8 0, .int .u8 0, .int .u8 0, .int .u8 0, .int .u8 0, .int .u8 0, .int .u8 0, .int .u8 0, .int .u8 0, .int .u8 0, .int .u8 0, .int .u8 0, .int .u8 0, .int .u8 0, .int .u8 0, .int .u8 0, .int .u8 0, .int .u8 0, .int .u8 0, .int .u8 0, .int .u8 0, .int .u8 0, .int .u8 0, .int .u8 0] 37); rw [World.size_alloc] at this; exact this
  have hlt := (Array.getElem?_eq_some_iff.1 hr0).1
  have HW := Lib.hid hWz
  have HB0 := Lib.hid hb0
  have HK0 := Lib.hid hk0
  have HR0 := Lib.hid hr0
  clear hb0 hk0 hr0 hWz
  go_wp2_with (refine wpList_load_row rfl 47 (.tmp 1) rfl w.heap.size rfl 47 BC (0, 0) (.struct fs) (HW.out ▸ HK0.out) HU.out rfl (by rw [HSZ.out]; exact infoHdr) ?_)
  rw [← HW.out]
  refine (HC.out Wz).mono ?_
  rintro e w1 ⟨v1, rfl, ho1, hb1⟩
  have hB1 : BytesAt (fun _ => True) w1 v1 B := OwnAt.at ho1 (fun _ _ _ _ => trivial) (by decide)
  obtain ⟨a1, c1, rfl, -⟩ := ho1.len
  have hr1 := (hb1.block _ hlt).trans HR0.out
  have HB1 := Lib.hid hB1
  have HR1 := Lib.hid hr1
  have HBW := Lib.hid (Bel.call HB0.out hb1)
  have hlt1 : w.heap.size + 1 < w1.heap.size := Nat.lt_of_lt_of_le hlt hb1.size
  clear hB1 hr1 hb1 ho1
  go_wp2_with fail
  refine (dof_any _ w1 a1 B.length c1 B HB1.out (by have := HLEN.out; omega)).mono ?_
  rintro e w2 ⟨rfl, hb2⟩
  rw [← HR.out]
  have HR2 := Lib.hid ((hb2.block _ hlt1).trans HR1.out)
  have HB2 := Lib.hid (Bel.call HBW.out hb2)
  clear hb2
  go_wp2_with (refine wpList_store_row rfl 37 (.tmp 2) (.tmp 5) rfl (w.heap.size + 1) (cellsOf R) rfl rfl 37 (cellsOf (List.replicate 32 0)) HR2.out (by rw [HRL.out]; exact infoDig) (by rw [HRL.out]; rfl) (cellsOf_one R) ?_)
  have hr4 : (w2.setRow (w.heap.size + 1) (cellsOf R)).heap[w.heap.size + 1]? = some (.cells (cellsOf R) 37 (0, 0)) := setRow_heap w2 _ _ _ _ _ HR2.out
  refine bodyPost_ret (v := .agg (cellsOf R)) (results_cell_row rfl _ _ (w.heap.size + 1) 37 (cellsOf R) (0, 0) (.array 32 5) rfl hr4 underlyingDig rfl (by rw [HRL.out]; exact infoDig)) rfl ?_
  exact ⟨rfl, below_setRow HB2.out (by omega) _⟩

set_option maxRecDepth 100000 in
set_option maxHeartbeats 2000000 in
theorem rName_any (w : World) (h : Hdr) (ho : h.ok) : Calls Try.prog 30 #[.agg (hdrCells h)] w (DigD w (digestOf (hdrBytes h))) := by
  obtain ⟨BC, hBC⟩ : ∃ BC, BC = hdrCells h := ⟨_, rfl⟩
  have hlen : (hdrBytes h).length ≤ 162 := hdrBytes_le h ho
  have hsz : BC.size = 131 := by rw [hBC]; exact hdrCells_size h ho
  obtain ⟨B, hB⟩ : ∃ B, B = hdrBytes h := ⟨_, rfl⟩
  have hcall := fun W => rencHdr_any W h ho (Nat.le_trans (hdr_whole h ho) (by omega))
  obtain ⟨R, hR⟩ : ∃ R, R = digestOf B := ⟨_, rfl⟩
  have hRl : (cellsOf R).size = 32 := by rw [cellsOf_size, hR, digestOf_length]
  rw [← hB] at hlen
  rw [← hB, ← hR, ← hBC]
  rw [← hBC] at hcall
  rw [← hB] at hcall
  obtain ⟨fs, hu⟩ := underlyingHdr
  have HU := Lib.hid hu
  have HC := Lib.hid hcall
  have HSZ := Lib.hid hsz
  have HR := Lib.hid hR
  have HRL := Lib.hid hRl
  have HLEN := Lib.hid hlen
  clear hBC hB hcall hsz hlen hR hRl hu
  go_enter Try.func30, Try.ntmps30
  obtain ⟨Wz, hWz⟩ : ∃ W : World, W = (w.alloc (.cells BC 47)).alloc (.cells #[.int .u8 0, .int .u8 0, .int .u8 0, .int .u8 0, .int .u8 0, .int .u8 0, .int .u8 0, .int .u8 0, .int .u8 0, .int .u8 0, .int .u8 0, .int .u8 0, .int .u8 0, .int .u8 0, .int .u8 0, .int .u8 0, .int .u8 0, .int .u8 0, .int .u8 0, .int .u8 0, .int .u8 0, .int .u8 0, .int .u8 0, .int .u8 0, .int .u8 0, .int .u8 0, .int .u8 0, .int .u8 0, .int .u8 0, .int .u8 0, .int .u8 0, .int .u8 0] 37) := ⟨_, rfl⟩
  have hb0 : Below w.heap.size w Wz := by rw [hWz]; exact Bel.alloc (Bel.alloc (Bel.refl w) _) _
  have hk0 : Wz.heap[w.heap.size]? = some (.cells BC 47 (0, 0)) := by rw [hWz, Below.heap_alloc _ _ _ (by simp)]; exact heap_alloc_new w _
  have hr0 : Wz.heap[w.heap.size + 1]? = some (.cells (cellsOf (List.replicate 32 0)) 37 (0, 0)) := by rw [hWz]; have := heap_alloc_new (w.alloc (.cells BC 47)) (.cells #[.int .u8 0, .int .u8 0, .int .u8 0, .int .u8 0, .int .u8 0, .int .u8 0, .int .u8 0, .int .u8 0, .int .u8 0, .int .u8 0, .int .u8 0, .int .u8 0, .int .u8 0, .int .u8 0, .int .u8 0, .int .u8 0, .int .u8 0, .int .u8 0, .int .u8 0, .int .u8 0, .int .u8 0, .int .u8 0, .int .u8 0, .int .u8 0, .int .u8 0, .int .u8 0, .int .u8 0, .int .u8 0, .int .u8 0, .int .u8 0, .int .u8 0, .int .u8 0] 37); rw [World.size_alloc] at this; exact this
  have hlt := (Array.getElem?_eq_some_iff.1 hr0).1
  have HW := Lib.hid hWz
  have HB0 := Lib.hid hb0
  have HK0 := Lib.hid hk0
  have HR0 := Lib.hid hr0
  clear hb0 hk0 hr0 hWz
  go_wp2_with (refine wpList_load_row rfl 47 (.tmp 1) rfl w.heap.size rfl 47 BC (0, 0) (.struct fs) (HW.out ▸ HK0.out) HU.out rfl (by rw [HSZ.out]; exact infoHdr) ?_)
  rw [← HW.out]
  refine (HC.out Wz).mono ?_
  rintro e w1 ⟨v1, rfl, ho1, hb1⟩
  have hB1 : BytesAt (fun _ => True) w1 v1 B := OwnAt.at ho1 (fun _ _ _ _ => trivial) (by decide)
  obtain ⟨a1, c1, rfl, -⟩ := ho1.len
  have hr1 := (hb1.block _ hlt).trans HR0.out
  have HB1 := Lib.hid hB1
  have HR1 := Lib.hid hr1
  have HBW := Lib.hid (Bel.call HB0.out hb1)
  have hlt1 : w.heap.size + 1 < w1.heap.size := Nat.lt_of_lt_of_le hlt hb1.size
  clear hB1 hr1 hb1 ho1
  go_wp2_with fail
  refine (rof_any _ w1 a1 B.length c1 B HB1.out (by have := HLEN.out; omega)).mono ?_
  rintro e w2 ⟨rfl, hb2⟩
  rw [← HR.out]
  have HR2 := Lib.hid ((hb2.block _ hlt1).trans HR1.out)
  have HB2 := Lib.hid (Bel.call HBW.out hb2)
  clear hb2
  go_wp2_with (refine wpList_store_row rfl 37 (.tmp 2) (.tmp 5) rfl (w.heap.size + 1) (cellsOf R) rfl rfl 37 (cellsOf (List.replicate 32 0)) HR2.out (by rw [HRL.out]; exact infoDig) (by rw [HRL.out]; rfl) (cellsOf_one R) ?_)
  have hr4 : (w2.setRow (w.heap.size + 1) (cellsOf R)).heap[w.heap.size + 1]? = some (.cells (cellsOf R) 37 (0, 0)) := setRow_heap w2 _ _ _ _ _ HR2.out
  refine bodyPost_ret (v := .agg (cellsOf R)) (results_cell_row rfl _ _ (w.heap.size + 1) 37 (cellsOf R) (0, 0) (.array 32 5) rfl hr4 underlyingDig rfl (by rw [HRL.out]; exact infoDig)) rfl ?_
  exact ⟨rfl, below_setRow HB2.out (by omega) _⟩
end Go.Proofs.Ytndkkgkcbbmnpaa
