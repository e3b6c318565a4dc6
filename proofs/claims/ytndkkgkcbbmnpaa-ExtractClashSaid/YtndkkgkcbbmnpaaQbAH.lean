/-
  What is written of a witness is read as it was, and what is read is written as it was (the statement WitnessBack, where what is read is of bulk at most 1048576).
  Contract of pergolaref02.first, where that of items is known.
  Contract of pergolaref02.first: a short text.
  Contract of pergolaref02.first: a text with a size of its own.
  Contract of pergolaref02.first: a short list.
-/
import Derived.Test.YtndkkgkcbbmnpaaQbAG
namespace Go.Pg
theorem whole_mem (l : List (List UInt8)) (x : List UInt8) (h : x ∈ l) : x.length ≤ It.wholes (l.map .text) := by
  induction l with
  | nil => cases h
  | cons y r ih =>
    simp only [List.map_cons, It.wholes]
    rcases List.mem_cons.1 h with rfl | h
    · have := It.body_le_whole (.text x); simp only [It.body] at this; omega
    · have := ih h; omega
theorem textsI_le (l : List (List UInt8)) : It.wholes (l.map .text) ≤ (textsI l).whole := by
  have := sz_ge (It.wholes (l.map .text))
  unfold textsI; simp only [It.whole]; omega
theorem witI_le (N C : List (List UInt8)) : (textsI N).whole + (textsI C).whole ≤ (witI N C).whole := by
  have := sz_ge (It.wholes [textsI N, textsI C])
  unfold witI; simp only [It.whole]
  have : It.wholes [textsI N, textsI C] = (textsI N).whole + (textsI C).whole := by simp [It.wholes]
  omega
/-- what was read is no more than its bytes -/
theorem witDecode_small (B : List UInt8) (N C : List (List UInt8)) (h : witDecode B = (N, C, 0)) : (witI N C).whole = B.length ∧ N.length ≤ B.length ∧ C.length ≤ B.length ∧ (∀ x ∈ N, x.length ≤ B.length) ∧ (∀ x ∈ C, x.length ≤ B.length) := by
  obtain ⟨-, h2, -⟩ := witDecode_sound B N C h
  obtain ⟨h3, -⟩ := rdWhole_sound B _ h2
  have hw : (witI N C).whole = B.length := by rw [← It.enc_length, ← h3]
  have h4 := witI_le N C
  have h5 := textsI_le N
  have h6 := textsI_le C
  have h7 := It.length_le_wholes (N.map .text)
  have h8 := It.length_le_wholes (C.map .text)
  rw [List.length_map] at h7 h8
  exact ⟨hw, by omega, by omega, fun x hx => by have := whole_mem N x hx; omega, fun x hx => by have := whole_mem C x hx; omega⟩
end Go.Pg
namespace Go.Proofs.Ytndkkgkcbbmnpaa
open Go.ChangeShapes Go.WideShapes Go.ChangeAt Go.RowKit Go.Pg

set_option maxRecDepth 100000 in
set_option maxHeartbeats 2000000 in
theorem back_walk (F G : Nat → Prop) (w : World) (a1 a2 : Option Addr) (n1 c1 n2 c2 : Nat) (N C : List (List UInt8)) (hN : RowsAt F w (.slice a1 n1 c1) N) (hC : RowsAt F w (.slice a2 n2 c2) C) (hs : rowsSum N + rowsSum C ≤ 1048576)
    (ab : Option Addr) (nb cb : Nat) (B : List UInt8) (hB : BytesAt G w (.slice ab nb cb) B) (hBl : B.length ≤ 1048576) :
    Calls Try.prog 5 #[.agg #[.slice a1 n1 c1, .slice a2 n2 c2], .slice ab nb cb] w fun e w' => e = .returned (.bool true) ∧ Below w.heap.size w w' := by
  have hNl := rowsSum_len N
  have hCl := rowsSum_len C
  have hNx := rowsSum_mem N
  have hCx := rowsSum_mem C
  have hw := whole_witI N C hs
  have hnb := (BytesAt.n hB).1
  obtain ⟨bs, code, hE⟩ : ∃ bs code, witEncode N C = (bs, code) := ⟨_, _, rfl⟩
  have hdec : code = 0 → witDecode bs = (N, C, 0) := fun h => witDecode_back bs N C (by rw [hE, h])
  have hbsl : code = 0 → bs.length ≤ 16777215 := fun h => by
    have := (witDecode_small bs N C (hdec h)).1; omega
  obtain ⟨N', C', d', hD⟩ := triple (witDecode B)
  obtain ⟨W0, hW0⟩ : ∃ W0, W0 = w.alloc (.cells #[.slice a1 n1 c1, .slice a2 n2 c2] 24) := ⟨_, rfl⟩
  have hb0 : Below w.heap.size w W0 := by rw [hW0]; exact Bel.alloc (Bel.refl w) _
  have hk0 : W0.heap[w.heap.size]? = some (.cells #[.slice a1 n1 c1, .slice a2 n2 c2] 24 (0, 0)) := by rw [hW0]; exact heap_alloc_new w _
  have hN0 := RowsAt.below hN hb0
  have hC0 := RowsAt.below hC hb0
  have hcall : ∀ w1, Below W0.heap.size W0 w1 → _ := fun w1 hb => wencode_any F w1 a1 a2 n1 c1 n2 c2 N C (RowsAt.below hN0 hb) (RowsAt.below hC0 hb) (by omega) (by omega) (fun x hx => by have := hNx x hx; omega) (fun x hx => by have := hCx x hx; omega) (by omega)
  rw [hE] at hcall
  have hsw := (Array.getElem?_eq_some_iff.1 hk0).1
  have HW0 := Lib.hid hW0
  have HC1 := Lib.hid hcall
  have HB0 := Lib.hid hb0
  have HK0 := Lib.hid hk0
  have HN0 := Lib.hid hN0
  have HC0 := Lib.hid hC0
  have HB := Lib.hid hB
  have HDEC := Lib.hid hdec
  have HBSL := Lib.hid hbsl
  have HD := Lib.hid hD
  have HNB := Lib.hid hnb
  have HNL : Hid (N.length ≤ 1152921504606846976 ∧ C.length ≤ 1152921504606846976) := Lib.hid ⟨by omega, by omega⟩
  have hnbl : nb ≤ 1099511627776 := by omega
  clear hNl hCl hNx hCx hw hE hW0 hb0 hk0 hN0 hC0 hN hC hcall hs hdec hbsl hD hB hnb
  go_enter Try.func5, Try.ntmps5
  go_wp2_with fail
  rw [← HW0.out]
  refine (alive_any W0).mono ?_
  rintro e w1 ⟨rfl, hb1⟩
  have hk1 := (hb1.block _ hsw).trans HK0.out
  obtain ⟨q0, q1⟩ := cells2 hk1
  have hsw1 : w.heap.size < w1.heap.size := Nat.lt_of_lt_of_le hsw hb1.size
  have HB1 := Lib.hid hb1
  have HK1 := Lib.hid hk1
  clear hk1 hb1
  go_wp2_with fail
  refine (HC1.out w1 HB1.out).mono ?_
  rintro e w2 ⟨v1, rfl, ho1, hb2⟩
  obtain ⟨x1, z1, rfl, -, -, -⟩ := ho1.len
  have hat1 := ho1.at (F := fun _ => True) (fun _ _ _ _ => trivial) (by decide)
  have hk2 := (hb2.block _ hsw1).trans HK1.out
  have hsw2 : w.heap.size < w2.heap.size := Nat.lt_of_lt_of_le hsw1 hb2.size
  have HAT1 := Lib.hid hat1
  have HK2 := Lib.hid hk2
  have HB02 := Lib.hid (Bel.call HB1.out hb2)
  clear hk2 ho1 hb2 hat1 q0 q1
  have hpath : (code = 0) ∨ (((code : Nat) : Int) == 0) = false := by
    by_cases h : code = 0
    · exact .inl h
    · exact .inr (by simp; omega)
  rcases hpath with rfl | hcode
  focus
    have hdec := HDEC.out rfl
    have hbsl := HBSL.out rfl
    obtain ⟨m, hm⟩ : ∃ m, m = bs.length := ⟨_, rfl⟩
    rw [← hm] at HAT1 hbsl ⊢
    have HDEC' := Lib.hid hdec
    obtain ⟨q0, q1⟩ := cells2 HK2.out
    clear hdec hm
    go_wp2_with fail
    refine (wdecode_any (fun _ => True) w2 x1 m z1 bs HAT1.out (by omega)).mono ?_
    rintro e w3 ⟨a5, n5, c5, a6, n6, c6, he, g1, g2, hb3⟩
    rw [HDEC'.out] at he g1 g2
    subst he
    have hk3 := (hb3.block _ hsw2).trans HK2.out
    have hsw3 : w.heap.size < w3.heap.size := Nat.lt_of_lt_of_le hsw2 hb3.size
    clear q0 q1
    obtain ⟨q0, q1⟩ := cells2 hk3
    have hb03 := Bel.alloc (Bel.call HB02.out hb3) (.cells #[.slice a5 n5 c5, .slice a6 n6 c6] 24)
    have HB03 := Lib.hid hb03
    have HG1 := Lib.hid (RowsAt.below g1 (Bel.alloc (Bel.refl w3) (.cells #[.slice a5 n5 c5, .slice a6 n6 c6] 24)))
    have HG2 := Lib.hid (RowsAt.below g2 (Bel.alloc (Bel.refl w3) (.cells #[.slice a5 n5 c5, .slice a6 n6 c6] 24)))
    clear hk3 hb3 g1 g2 hb03
    go_wp2_with fail
    refine (same_any _ F _ _ _ _ _ _ _ _ _ _ _ _ _ N C N C HG1.out HG2.out (RowsAt.below HN0.out HB03.out) (RowsAt.below HC0.out HB03.out) HNL.out.1 HNL.out.2).mono ?_
    rintro e w4 ⟨rfl, hb4⟩
    have HBX := Lib.hid (Bel.call HB0.out (Bel.call HB03.out hb4))
    simp only [and_self, decide_true]
    clear hb4 q0 q1
    go_wp2_with fail
  rotate_left
  focus
    have HBX := Lib.hid (Bel.call HB0.out HB02.out)
    go_wp2_with fail
  all_goals
    refine (wdecode_any G _ ab nb cb B (BytesAt.below HB.out HBX.out) (by omega)).mono ?_
    rintro e w5 ⟨a5, n5, c5, a6, n6, c6, he, g1, g2, hb5⟩
    rw [HD.out] at he g1 g2
    subst he
    have HB5 := Lib.hid (Bel.call HBX.out hb5)
    have HG1 := Lib.hid (RowsAt.below g1 (Bel.alloc (Bel.refl w5) (.cells #[.slice a5 n5 c5, .slice a6 n6 c6] 24)))
    have HG2 := Lib.hid (RowsAt.below g2 (Bel.alloc (Bel.refl w5) (.cells #[.slice a5 n5 c5, .slice a6 n6 c6] 24)))
    clear g1 g2 hb5
    have hpath : (d' = 0) ∨ (d' = 210 ∧ N' = [] ∧ C' = []) := by
      rcases witDecode_cases B with ⟨N2, C2, h⟩ | h
      · rw [HD.out] at h; simp at h; exact .inl h.2.2
      · rw [HD.out] at h; simp at h; exact .inr ⟨h.2.2, h.1, h.2.1⟩
    rcases hpath with rfl | ⟨rfl, rfl, rfl⟩
    · obtain ⟨s1, s2, s3, s4, s5⟩ := witDecode_small B N' C' HD.out
      have hen := (witDecode_sound B N' C' HD.out).1
      have hcall := wencode_any _ (w5.alloc (.cells #[.slice a5 n5 c5, .slice a6 n6 c6] 24)) a5 a6 n5 c5 n6 c6 N' C' HG1.out HG2.out (by omega) (by omega) (fun x hx => by have := s4 x hx; omega) (fun x hx => by have := s5 x hx; omega) (by omega)
      rw [hen] at hcall
      have HC2 := Lib.hid hcall
      clear s1 s2 s3 s4 s5 hen hcall
      go_wp2_with fail
      refine HC2.out.mono ?_
      rintro e w6 ⟨v6, rfl, ho6, hb6⟩
      obtain ⟨x6, z6, rfl, -, -, -⟩ := ho6.len
      have hat6 := ho6.at (F := fun _ => True) (fun _ _ _ _ => trivial) (by decide)
      have hb06 := Bel.call (Bel.alloc HB5.out _) hb6
      have s1 := run_string_at (P := Try.prog) hat6 25 5 9 Try.underlying25 Try.underlying5 Try.underlying9
      have s2 := run_string_at (P := Try.prog) (BytesAt.below HB.out hb06) 25 5 9 Try.underlying25 Try.underlying5 Try.underlying9
      have HB6 := Lib.hid hb06
      clear hat6 ho6 hb6 hb06
      go_wp2_with fail
      go_ret
      exact ⟨rfl, HB6.out⟩
    · go_wp2_with fail
      refine (same_any _ (fun _ => True) _ _ _ _ _ _ _ _ _ _ _ _ _ [] [] [] [] HG1.out HG2.out (SliceAt.nil _ _ _ _) (SliceAt.nil _ _ _ _) (by simp) (by simp)).mono ?_
      rintro e w6 ⟨rfl, hb6⟩
      have HB6 := Lib.hid (Bel.call (Bel.alloc HB5.out _) hb6)
      simp only [and_self, decide_true]
      clear hb6
      go_wp2_with fail
      go_ret
      exact ⟨rfl, HB6.out⟩
end Go.Proofs.Ytndkkgkcbbmnpaa
namespace Go.Proofs.Ytndkkgkcbbmnpaa
open Go.RowKit Go.Pg

/-- an item with the place behind it, or a fault -/
def RFirstd (w : World) (D en : Nat) (r : Nat × It × List UInt8) (e : Ending) (w' : World) : Prop :=
  ∃ l a1 n1 c1 a3 n3 c3 m, e = .returned (.tuple #[.agg #[.bool l, .slice a1 n1 c1, .slice a3 n3 c3], .int .i64 ((m : Nat) : Int), .int .i64 r.1]) ∧
    (r.1 = 0 → m + r.2.2.length = en) ∧ (r.1 ≠ 0 → m = 0) ∧ ItemAt (fresh w) w' D [.bool l, .slice a1 n1 c1, .slice a3 n3 c3] r.2.1 ∧ Below w.heap.size w w'
def RFirstC (f : Nat) : Prop := ∀ (F : Nat → Prop) (w : World) (a : Option Addr) (pi ei di : Int) (n c p en deep : Nat) (B : List UInt8), pi = p → ei = en → di = deep → BytesAt F w (.slice a n c) B → p ≤ en → en ≤ n → n ≤ 140737488351232 → deep + f = 8 →
  Calls Try.prog 96 #[.slice a n c, .int .i64 pi, .int .i64 ei, .int .i64 di] w (RFirstd w (f + 1) en (rdItem f (seg B p en)))
/-- a list with its end, or a fault -/
def RItemsd (w : World) (D en : Nat) (r : Nat × List It) (e : Ending) (w' : World) : Prop :=
  ∃ l a1 n1 c1 a3 n3 c3 m, e = .returned (.tuple #[.agg #[.bool l, .slice a1 n1 c1, .slice a3 n3 c3], .int .i64 ((m : Nat) : Int), .int .i64 r.1]) ∧
    (r.1 = 0 → m = en) ∧ (r.1 ≠ 0 → m = 0) ∧ ItemAt (fresh w) w' D [.bool l, .slice a1 n1 c1, .slice a3 n3 c3] (if r.1 = 0 then .list r.2 else .text []) ∧ Below w.heap.size w w'
def RItemsC (f : Nat) : Prop := ∀ (F : Nat → Prop) (w : World) (a : Option Addr) (pi ei di : Int) (n c p en deep : Nat) (B : List UInt8), pi = p → ei = en → di = deep → BytesAt F w (.slice a n c) B → p ≤ en → en ≤ p + 16777215 → en ≤ n → n ≤ 140737488351232 → deep + f = 8 →
  Calls Try.prog 112 #[.slice a n c, .int .i64 pi, .int .i64 ei, .int .i64 di] w (RItemsd w (f + 2) en (rdAll (rdItem f) (en - p) (seg B p en)))

/-- the end at a fault -/
theorem RFirstd.bad {w W : World} {D en k : Nat} {r : Nat × It × List UInt8} {i j : Int} (hr : r = (k, .text [], [])) (hk : k ≠ 0) (hi : i = 0) (hj : j = k) (h1 : Below w.heap.size w W) :
    RFirstd w (D + 1) en r (.returned (.tuple #[.agg #[.bool false, .slice none 0 0, .slice none 0 0], .int .i64 i, .int .i64 j])) W := by
  subst hi hj
  rw [hr]
  exact ⟨false, none, 0, 0, none, 0, 0, 0, rfl, fun h => absurd h hk, fun _ => rfl, ⟨_, _, rfl, BytesAt.nil _ _, SliceAt.nil _ _ _ _⟩, h1⟩

set_option maxRecDepth 100000 in
set_option maxHeartbeats 1000000 in
theorem rfirst_end (f : Nat) (w : World) (a : Option Addr) (n c p deep : Nat) (B : List UInt8) :
    Calls Try.prog 96 #[.slice a n c, .int .i64 p, .int .i64 p, .int .i64 deep] w (RFirstd w (f + 1) p (rdItem f (seg B p p))) := by
  have hr : rdItem f (seg B p p) = (22, .text [], []) := by rw [seg_nil B p p (Nat.le_refl _)]; cases f <;> rfl
  have HR := Lib.hid hr
  have hlt : ((p : Int) ≤ (p : Int)) := Int.le_refl _
  clear hr
  go_enter Try.func96, Try.ntmps96
  go_wp2_with fail
  refine bodyPost_ret (v := .tuple #[.agg #[.bool false, .slice none 0 0, .slice none 0 0], .int .i64 0, .int .i64 22]) (by simp [results, Try.results96, go_sem]) rfl ?_
  rw [HR.out]
  exact RFirstd.bad (k := 22) rfl (by decide) rfl rfl (Bel.alloc (Bel.refl w) _)

set_option maxRecDepth 100000 in
set_option maxHeartbeats 2000000 in
theorem rfirst_plain (f : Nat) (w : World) (n c p en deep : Nat) (B : List UInt8) (b o : Nat) (x : UInt8) (t : List UInt8)
    (HB : Hid (BytesAt (fun b => b < w.heap.size) w (.slice (some ⟨b, o, none⟩) n c) B)) (HNB : Hid (n = B.length)) (HCELL : Hid (∀ (i : Nat), i < B.length → w.cell? ⟨b, o + i, none⟩ = some (.int .u8 ((B.getD i 0).toNat : Int))))
    (hp : p < en) (hen : en ≤ n) (hn : n ≤ 140737488351232) (hd : deep + f = 8) (hnc : n ≤ c) (hcm : c ≤ 2 ^ 63 - 1) (hbw : b < w.heap.size) (hc0 : w.cell? ⟨b, o + p, none⟩ = some (.int .u8 (x.toNat : Int))) (HT : Hid (t = seg B (p + 1) en)) (h128 : (x.toNat : Int) < 128) :
    Calls Try.prog 96 #[.slice (some ⟨b, o, none⟩) n c, .int .i64 p, .int .i64 en, .int .i64 deep] w (RFirstd w (f + 1) en (rdItem f (x :: t))) := by
  have hxl := x.toNat_lt
  have hr1 : x.toNat < 128 := by omega
  have hr : rdItem f (x :: t) = (0, .text [x], t) := by unfold rdItem; rw [if_pos hr1]
  have HR := Lib.hid hr
  clear hr hr1
  go_enter Try.func96, Try.ntmps96
  go_wp2_with fail

  refine bodyPost_ret (v := .tuple #[.agg #[.bool false, .slice (some ⟨w.heap.size + 1, 0, none⟩) 1 1, .slice none 0 0], .int .i64 ((p : Int) + 1), .int .i64 0]) (by simp [results, Try.results96, go_sem]) rfl ?_
  rw [HR.out]
  refine ⟨false, some ⟨w.heap.size + 1, 0, none⟩, 1, 1, none, 0, 0, p + 1, rfl, fun _ => ?_, fun h => absurd rfl h, ⟨_, _, rfl, ?_, SliceAt.nil _ _ _ _⟩, Bel.alloc (Bel.alloc (Bel.refl w) _) _⟩
  · show p + 1 + t.length = en
    rw [HT.out, seg_len _ _ _ (by have := HNB.out; omega)]; omega
  · have := (OwnAt.lit' (w.alloc (.cells #[.bool false, .slice (some ⟨w.heap.size + 1, 0, none⟩) 1 1, .slice none 0 0] 65)) 5 x).at (F := fresh w) (fun g _ hg _ => by simp only [World.size_alloc] at hg; show w.heap.size ≤ g; omega) (by decide)
    simp only [World.size_alloc] at this
    exact this
set_option maxRecDepth 100000 in
set_option maxHeartbeats 2000000 in
theorem rfirst_deep (f : Nat) (w : World) (n c p en deep : Nat) (B : List UInt8) (b o : Nat) (x : UInt8) (t : List UInt8)
    (HB : Hid (BytesAt (fun b => b < w.heap.size) w (.slice (some ⟨b, o, none⟩) n c) B)) (HNB : Hid (n = B.length)) (HCELL : Hid (∀ (i : Nat), i < B.length → w.cell? ⟨b, o + i, none⟩ = some (.int .u8 ((B.getD i 0).toNat : Int))))
    (hp : p < en) (hen : en ≤ n) (hn : n ≤ 140737488351232) (hd : deep + f = 8) (hnc : n ≤ c) (hcm : c ≤ 2 ^ 63 - 1) (hbw : b < w.heap.size) (hc0 : w.cell? ⟨b, o + p, none⟩ = some (.int .u8 (x.toNat : Int))) (HT : Hid (t = seg B (p + 1) en)) (h192 : (192 : Int) ≤ (x.toNat : Int)) (hf : f = 0) :
    Calls Try.prog 96 #[.slice (some ⟨b, o, none⟩) n c, .int .i64 p, .int .i64 en, .int .i64 deep] w (RFirstd w (f + 1) en (rdItem f (x :: t))) := by
  have hxl := x.toNat_lt
  subst hf
  have hr1 : ¬ x.toNat < 128 := by omega
  have hr2 : ¬ x.toNat < 192 := by omega
  have hr : rdItem 0 (x :: t) = (21, .text [], []) := by unfold rdItem; rw [if_neg hr1, if_neg hr2]
  have HR := Lib.hid hr
  have hd8 : (8 : Int) ≤ (deep : Int) := by omega
  have h128 : ¬ (x.toNat : Int) < 128 := by omega
  clear hr hr1 hr2
  go_enter Try.func96, Try.ntmps96
  go_wp2_with fail

  refine bodyPost_ret (v := .tuple #[.agg #[.bool false, .slice none 0 0, .slice none 0 0], .int .i64 0, .int .i64 21]) (by simp [results, Try.results96, go_sem]) rfl ?_
  rw [HR.out]
  exact RFirstd.bad (k := 21) rfl (by decide) rfl rfl (Bel.alloc (Bel.refl w) _)
set_option maxRecDepth 100000 in
set_option maxHeartbeats 2000000 in
theorem rfirst_textB (f : Nat) (w : World) (n c p en deep : Nat) (B : List UInt8) (b o : Nat) (x : UInt8) (t : List UInt8) (m : Nat)
    (HB : Hid (BytesAt (fun b => b < w.heap.size) w (.slice (some ⟨b, o, none⟩) n c) B)) (HNB : Hid (n = B.length)) (HCELL : Hid (∀ (i : Nat), i < B.length → w.cell? ⟨b, o + i, none⟩ = some (.int .u8 ((B.getD i 0).toNat : Int))))
    (hp : p < en) (hen : en ≤ n) (hn : n ≤ 140737488351232) (hd : deep + f = 8) (hnc : n ≤ c) (hcm : c ≤ 2 ^ 63 - 1) (hbw : b < w.heap.size) (hc0 : w.cell? ⟨b, o + p, none⟩ = some (.int .u8 (x.toNat : Int))) (HT : Hid (t = seg B (p + 1) en)) (hm : x.toNat = m + 128) (hm2 : x.toNat < 192) (h58 : 58 < m) :
    Calls Try.prog 96 #[.slice (some ⟨b, o, none⟩) n c, .int .i64 p, .int .i64 en, .int .i64 deep] w (RFirstd w (f + 1) en (rdItem f (x :: t))) := by
  have hxl := x.toNat_lt
  have hmi : (x.toNat : Int) - 128 = (m : Int) := by omega
  have h128 : ¬ (x.toNat : Int) < 128 := by omega
  have h192 : ¬ (192 : Int) ≤ (x.toNat : Int) := by omega

  have hr1 : ¬ x.toNat < 128 := by omega
  have hr2 := hm2
  have hrt : rdItem f (x :: t) = rdText (readSize m t) := by unfold rdItem; rw [if_neg hr1, if_pos hr2, hm, Nat.add_sub_cancel]
  clear hm2
  have HRT := Lib.hid hrt
  have HM := Lib.hid hm
  clear hrt hm hr1 hr2

  have hr : rdItem f (x :: t) = (23, .text [], []) := by
    have h55 : ¬ m ≤ 55 := by omega
    have hs : readSize m t = (23, 0, t) := by unfold readSize; rw [if_neg h55, if_pos h58]
    rw [HRT.out, hs]; unfold rdText; rw [if_pos (by simp)]
  have HR := Lib.hid hr
  clear hr
  go_enter Try.func96, Try.ntmps96
  go_wp2_with fail

  refine bodyPost_ret (v := .tuple #[.agg #[.bool false, .slice none 0 0, .slice none 0 0], .int .i64 0, .int .i64 23]) (by simp [results, Try.results96, go_sem]) rfl ?_
  rw [HR.out]
  exact RFirstd.bad (k := 23) rfl (by decide) rfl rfl (Bel.alloc (Bel.refl w) _)
set_option maxRecDepth 100000 in
set_option maxHeartbeats 2000000 in
theorem rfirst_listB (f : Nat) (w : World) (n c p en deep : Nat) (B : List UInt8) (b o : Nat) (x : UInt8) (t : List UInt8) (m : Nat)
    (HB : Hid (BytesAt (fun b => b < w.heap.size) w (.slice (some ⟨b, o, none⟩) n c) B)) (HNB : Hid (n = B.length)) (HCELL : Hid (∀ (i : Nat), i < B.length → w.cell? ⟨b, o + i, none⟩ = some (.int .u8 ((B.getD i 0).toNat : Int))))
    (hp : p < en) (hen : en ≤ n) (hn : n ≤ 140737488351232) (hd : deep + f = 8) (hnc : n ≤ c) (hcm : c ≤ 2 ^ 63 - 1) (hbw : b < w.heap.size) (hc0 : w.cell? ⟨b, o + p, none⟩ = some (.int .u8 (x.toNat : Int))) (HT : Hid (t = seg B (p + 1) en)) (f' : Nat) (hf : f = f' + 1) (hm : x.toNat = m + 192) (HI : Hid (RItemsC f')) (h58 : 58 < m) :
    Calls Try.prog 96 #[.slice (some ⟨b, o, none⟩) n c, .int .i64 p, .int .i64 en, .int .i64 deep] w (RFirstd w (f + 1) en (rdItem f (x :: t))) := by
  have hxl := x.toNat_lt
  subst hf

  have hmi : (x.toNat : Int) - 192 = (m : Int) := by omega
  have h128 : ¬ (x.toNat : Int) < 128 := by omega
  have h192 : (192 : Int) ≤ (x.toNat : Int) := by omega
  have hd8 : ¬ (8 : Int) ≤ (deep : Int) := by omega
  have hr1 : ¬ x.toNat < 128 := by omega
  have hr2 : ¬ x.toNat < 192 := by omega
  have hrt : rdItem (f' + 1) (x :: t) = rdList (rdItem f') (readSize m t) := by rw [rdItem, if_neg hr1, if_neg hr2, hm, Nat.add_sub_cancel]

  have HRT := Lib.hid hrt
  have HM := Lib.hid hm
  clear hrt hm hr1 hr2

  have hr : rdItem (f' + 1) (x :: t) = (23, .text [], []) := by
    have h55 : ¬ m ≤ 55 := by omega
    have hs : readSize m t = (23, 0, t) := by unfold readSize; rw [if_neg h55, if_pos h58]
    rw [HRT.out, hs]; unfold rdList; rw [if_pos (by simp)]
  have HR := Lib.hid hr
  clear hr
  go_enter Try.func96, Try.ntmps96
  go_wp2_with fail

  refine bodyPost_ret (v := .tuple #[.agg #[.bool false, .slice none 0 0, .slice none 0 0], .int .i64 0, .int .i64 23]) (by simp [results, Try.results96, go_sem]) rfl ?_
  rw [HR.out]
  exact RFirstd.bad (k := 23) rfl (by decide) rfl rfl (Bel.alloc (Bel.refl w) _)
end Go.Proofs.Ytndkkgkcbbmnpaa
namespace Go.Proofs.Ytndkkgkcbbmnpaa
open Go.RowKit Go.Pg

set_option maxRecDepth 100000 in
set_option maxHeartbeats 2000000 in
theorem rfirst_textA (f : Nat) (w : World) (n c p en deep : Nat) (B : List UInt8) (b o : Nat) (x : UInt8) (t : List UInt8) (m : Nat)
    (HB : Hid (BytesAt (fun b => b < w.heap.size) w (.slice (some ⟨b, o, none⟩) n c) B)) (HNB : Hid (n = B.length)) (HCELL : Hid (∀ (i : Nat), i < B.length → w.cell? ⟨b, o + i, none⟩ = some (.int .u8 ((B.getD i 0).toNat : Int))))
    (hp : p < en) (hen : en ≤ n) (hn : n ≤ 140737488351232) (hd : deep + f = 8) (hnc : n ≤ c) (hcm : c ≤ 2 ^ 63 - 1) (hbw : b < w.heap.size) (hc0 : w.cell? ⟨b, o + p, none⟩ = some (.int .u8 (x.toNat : Int))) (HT : Hid (t = seg B (p + 1) en)) (hm : x.toNat = m + 128) (hm2 : x.toNat < 192) (h55 : m ≤ 55) :
    Calls Try.prog 96 #[.slice (some ⟨b, o, none⟩) n c, .int .i64 p, .int .i64 en, .int .i64 deep] w (RFirstd w (f + 1) en (rdItem f (x :: t))) := by
  have hxl := x.toNat_lt
  have hmi : (x.toNat : Int) - 128 = (m : Int) := by omega
  have h128 : ¬ (x.toNat : Int) < 128 := by omega
  have h192 : ¬ (192 : Int) ≤ (x.toNat : Int) := by omega

  have hr1 : ¬ x.toNat < 128 := by omega
  have hr2 := hm2
  have hrt : rdItem f (x :: t) = rdText (readSize m t) := by unfold rdItem; rw [if_neg hr1, if_pos hr2, hm, Nat.add_sub_cancel]
  clear hm2
  have HRT := Lib.hid hrt
  have HM := Lib.hid hm
  clear hrt hm hr1 hr2

  have hs : readSize m t = (0, m, seg B (p + 1) en) := by unfold readSize; rw [if_pos h55, HT.out]
  have HS := Lib.hid hs
  clear hs

  by_cases hsh : en < (p + 1) + m
  · have hr : rdItem f (x :: t) = (22, .text [], []) := by
      rw [HRT.out, HS.out, rdText, if_neg (by simp), if_pos (by simp only; rw [seg_len _ _ _ (by have := HNB.out; omega)]; omega)]
    have HR := Lib.hid hr
    clear hr
    go_enter Try.func96, Try.ntmps96
    go_wp2_with fail
    refine bodyPost_ret (v := .tuple #[.agg #[.bool false, .slice none 0 0, .slice none 0 0], .int .i64 0, .int .i64 22]) (by simp [results, Try.results96, go_sem]) rfl ?_
    rw [HR.out]
    exact RFirstd.bad (k := 22) rfl (by decide) rfl rfl (Bel.alloc (Bel.refl w) _)

  · have hq : (p + 1) + m ≤ n := by omega
    have hone : m = 1 → ∃ y : UInt8, seg B (p + 1) ((p + 1) + m) = [y] ∧ w.cell? ⟨b, o + ((p + 1)), none⟩ = some (.int .u8 (y.toNat : Int)) := fun h1 =>
      ⟨B.getD (p + 1) 0, by rw [seg_getD B (p + 1) ((p + 1) + m) (by omega) (by have := HNB.out; omega), seg_nil _ _ _ (by omega)], HCELL.out ((p + 1)) (by have := HNB.out; omega)⟩
    obtain ⟨L, hL⟩ : ∃ L, L = seg B (p + 1) ((p + 1) + m) := ⟨_, rfl⟩
    have hLl : L.length = m := by rw [hL, seg_len _ _ _ (by have := HNB.out; omega)]; omega
    have hrd : rdItem f (x :: t) = if m = 1 ∧ (L.headD 0).toNat < 128 then (23, .text [], []) else (0, .text L, seg B ((p + 1) + m) en) := by
      rw [HRT.out, HS.out, rdText, if_neg (by simp), if_neg (by simp only; rw [seg_len _ _ _ (by have := HNB.out; omega)]; omega)]
      simp only [seg_drop, seg_take B (p + 1) en m (by omega), ← hL]
      have hh : m = 1 → (seg B (p + 1) en).headD 0 = L.headD 0 := fun h1 => by
        rw [hL, seg_cons B (p + 1) en (by omega) (by have := HNB.out; omega), seg_cons B (p + 1) ((p + 1) + m) (by omega) (by have := HNB.out; omega)]; rfl
      by_cases h1 : m = 1
      · rw [hh h1]
      · rw [if_neg (fun h => h1 h.1), if_neg (fun h => h1 h.1)]
    have hcase : (m = 1 ∧ ∃ y : UInt8, L = [y] ∧ w.cell? ⟨b, o + ((p + 1)), none⟩ = some (.int .u8 (y.toNat : Int))) ∨ ((m : Int) == 1) = false := by
      by_cases h1 : m = 1
      · obtain ⟨y, hy, hc⟩ := hone h1
        exact .inl ⟨h1, y, by rw [hL]; exact hy, hc⟩
      · exact .inr (by simp; omega)
    have HRD := Lib.hid hrd
    have HL := Lib.hid hL
    have HLL := Lib.hid hLl
    clear hrd hL hLl hone
    by_cases hbad : m = 1 ∧ (L.headD 0).toNat < 128
    · rcases hcase with ⟨h1, y, hy, hc⟩ | h1
      · have hr : rdItem f (x :: t) = (23, .text [], []) := by rw [HRD.out, if_pos hbad]
        have HR := Lib.hid hr
        have hb1 : ((m : Int) == 1) = true := by simp; omega
        have hqn : (p + 1) < n := by omega
        have hy8 : (y.toNat : Int) < 128 := by have := hbad.2; rw [hy] at this; simp at this; omega
        clear hr h1 hbad hy
        go_enter Try.func96, Try.ntmps96
        go_wp2_with fail
        refine bodyPost_ret (v := .tuple #[.agg #[.bool false, .slice none 0 0, .slice none 0 0], .int .i64 0, .int .i64 23]) (by simp [results, Try.results96, go_sem]) rfl ?_
        rw [HR.out]
        exact RFirstd.bad (k := 23) rfl (by decide) rfl rfl (Bel.alloc (Bel.refl w) _)
      · have := hbad.1; simp at h1; omega
    · have hr : rdItem f (x :: t) = (0, .text L, seg B ((p + 1) + m) en) := by rw [HRD.out, if_neg hbad]
      have HR := Lib.hid hr
      have hcase2 : (((m : Int) == 1) = true ∧ (p + 1) < n ∧ ¬ c = (p + 1) ∧ ∃ y : UInt8, w.cell? ⟨b, o + ((p + 1)), none⟩ = some (.int .u8 (y.toNat : Int)) ∧ ¬ (y.toNat : Int) < 128) ∨ (((m : Int) == 1) = false ∧ ¬ c = (p + 1)) ∨ (((m : Int) == 1) = false ∧ c = (p + 1)) := by
        rcases hcase with ⟨h1, y, hy, hc⟩ | h1
        · exact .inl ⟨by simp; omega, by omega, by omega, y, hc, fun h => hbad ⟨h1, by rw [hy]; simp; omega⟩⟩
        · by_cases hcq : c = (p + 1)
          · exact .inr (.inr ⟨h1, hcq⟩)
          · exact .inr (.inl ⟨h1, hcq⟩)
      have hargB : c = (p + 1) → m = 0 ∧ L = [] := fun hcq => by
        have h0 : m = 0 := by omega
        exact ⟨h0, List.eq_nil_of_length_eq_zero (by rw [HLL.out]; exact h0)⟩
      have hargA : ¬ c = (p + 1) → BytesAt (fun b => b < w.heap.size) w (.slice (some ⟨b, o + ((p + 1)), none⟩) m (c - ((p + 1)))) L := fun hcq => by
        have := BytesAt.seg HB.out ((p + 1)) ((p + 1) + m) (by omega) hq rfl
        rw [if_neg hcq, show (p + 1) + m - ((p + 1)) = m by omega, ← HL.out, addr_map_add] at this
        exact this
      have HARGA := Lib.hid hargA
      have HARGB := Lib.hid hargB
      have hbox := heap_alloc_new w (.cells #[.bool false, .slice none 0 0, .slice none 0 0] 65)
      have HBOX := Lib.hid hbox
      have hLb : L.length ≤ 140737488351232 := by rw [HLL.out]; omega
      have hsegl : (seg B ((p + 1) + m) en).length = en - ((p + 1) + m) := seg_len _ _ _ (by have := HNB.out; omega)
      have HSL := Lib.hid hsegl
      clear hr hbad hcase hargA hargB hbox hsegl
      rcases hcase2 with ⟨h1, hqn, hcq, y, hc, hy⟩ | ⟨h1, hcq⟩ | ⟨h1, hcq⟩
      all_goals
        go_enter Try.func96, Try.ntmps96
        go_wp2_with fail
        refine (copied_any (fun b => b < w.heap.size) _ _ L ?_ hLb).mono ?_
        · first
            | exact BytesAt.below (HARGA.out hcq) (Bel.alloc (Bel.refl w) _)
            | (obtain ⟨e1, e2⟩ := HARGB.out hcq; rw [e2, e1]; exact SliceAt.empty _ _ _ _ _ _ (by unfold maxLen; omega) (fun h => by cases h))
        rintro e w1 ⟨v4, rfl, ho4, hb4⟩
        obtain ⟨a4, c4, rfl, -, -, -⟩ := ho4.len
        have hs4 := hb4.size
        simp only [World.size_alloc] at hs4
        have hlt4 : w.heap.size < w1.heap.size := by omega
        have hb1 := (hb4.block w.heap.size (by simp)).trans HBOX.out
        have HB1 := Lib.hid hb1
        have HBL1 := Lib.hid (Below.trans (Bel.alloc (Bel.refl w) _) (hb4.mono (by simp)))
        have HAT := Lib.hid (ho4.at (F := fun b => w.heap.size + 1 ≤ b) (fun g _ hg _ => by simpa using hg) (by decide))
        obtain ⟨q0, q1, q2⟩ := cells3 hb1
        have f0 := frozen_of_row w1 w.heap.size 0 _ _ hb1
        have f1 := frozen_of_row w1 w.heap.size 1 _ _ hb1
        have f2 := frozen_of_row w1 w.heap.size 2 _ _ hb1
        obtain ⟨n4, hn4⟩ : ∃ n4, n4 = L.length := ⟨_, rfl⟩
        rw [← hn4] at HAT ⊢
        clear hb1 hb4 ho4 hs4 hn4
        go_wp2_with fail
        have hbx := box3 HB1.out (.bool false) (.slice a4 n4 c4) (.slice none 0 0)
        obtain ⟨W, hW⟩ : ∃ W, W = ((w1.setCell ⟨w.heap.size, 0, none⟩ (.bool false)).setCell ⟨w.heap.size, 1, none⟩ (.slice a4 n4 c4)).setCell ⟨w.heap.size, 2, none⟩ (.slice none 0 0) := ⟨_, rfl⟩
        rw [← hW] at hbx ⊢
        obtain ⟨r0, r1, r2⟩ := cells3 hbx.at_
        refine bodyPost_ret (v := .tuple #[.agg #[.bool false, .slice a4 n4 c4, .slice none 0 0], .int .i64 ((p : Int) + 1 + (m : Int)), .int .i64 0]) (by simp [results, Try.results96, go_sem, r0, r1, r2]) rfl ?_
        rw [HR.out]
        refine ⟨false, a4, n4, c4, none, 0, 0, (p + 1) + m, ?_, fun _ => ?_, fun h => absurd rfl h, ⟨_, _, rfl, ?_, SliceAt.nil _ _ _ _⟩, HBL1.out.trans (hbx.chg.toBelowAt (by omega) (fun k hk e => by omega))⟩
        · rfl
        · show (p + 1) + m + (seg B ((p + 1) + m) en).length = en
          rw [HSL.out]; omega
        · exact BytesAt.carry HAT.out (fun b _ hb => by show w.heap.size ≤ b; have : w.heap.size + 1 ≤ b := hb; omega) (fun b hb _ => hbx.other b (by have : w.heap.size + 1 ≤ b := hb; omega))
end Go.Proofs.Ytndkkgkcbbmnpaa
namespace Go.Proofs.Ytndkkgkcbbmnpaa
open Go.RowKit Go.Pg

set_option maxRecDepth 100000 in
set_option maxHeartbeats 2000000 in
theorem rfirst_textC (f : Nat) (w : World) (n c p en deep : Nat) (B : List UInt8) (b o : Nat) (x : UInt8) (t : List UInt8) (m : Nat)
    (HB : Hid (BytesAt (fun b => b < w.heap.size) w (.slice (some ⟨b, o, none⟩) n c) B)) (HNB : Hid (n = B.length)) (HCELL : Hid (∀ (i : Nat), i < B.length → w.cell? ⟨b, o + i, none⟩ = some (.int .u8 ((B.getD i 0).toNat : Int))))
    (hp : p < en) (hen : en ≤ n) (hn : n ≤ 140737488351232) (hd : deep + f = 8) (hnc : n ≤ c) (hcm : c ≤ 2 ^ 63 - 1) (hbw : b < w.heap.size) (hc0 : w.cell? ⟨b, o + p, none⟩ = some (.int .u8 (x.toNat : Int))) (HT : Hid (t = seg B (p + 1) en)) (hm : x.toNat = m + 128) (hm2 : x.toNat < 192) (h55 : 55 < m) (h58 : m ≤ 58) :
    Calls Try.prog 96 #[.slice (some ⟨b, o, none⟩) n c, .int .i64 p, .int .i64 en, .int .i64 deep] w (RFirstd w (f + 1) en (rdItem f (x :: t))) := by
  have hxl := x.toNat_lt
  have hmi : (x.toNat : Int) - 128 = (m : Int) := by omega
  have h128 : ¬ (x.toNat : Int) < 128 := by omega
  have h192 : ¬ (192 : Int) ≤ (x.toNat : Int) := by omega

  have hr1 : ¬ x.toNat < 128 := by omega
  have hr2 := hm2
  have hrt : rdItem f (x :: t) = rdText (readSize m t) := by unfold rdItem; rw [if_neg hr1, if_pos hr2, hm, Nat.add_sub_cancel]
  clear hm2
  have HRT := Lib.hid hrt
  have HM := Lib.hid hm
  clear hrt hm hr1 hr2

  obtain ⟨k, hk⟩ : ∃ k, k = m - 55 := ⟨_, rfl⟩
  have hkk : (m : Int) - 55 = (k : Int) := by omega
  have hk1 : 1 ≤ k := by omega
  have hk3 : k ≤ 3 := by omega
  have htl : t.length = en - (p + 1) := by rw [HT.out, seg_len _ _ _ (by have := HNB.out; omega)]
  have HTL := Lib.hid htl
  clear htl
  by_cases hks : en < p + 1 + k
  · have hr : rdItem f (x :: t) = (22, .text [], []) := by
      have hs : readSize m t = (22, 0, t) := by unfold readSize; rw [if_neg (by omega), if_neg (by omega), if_pos (by have := HTL.out; omega)]
      rw [HRT.out, hs]; unfold rdText; rw [if_pos (by simp)]
    have HR := Lib.hid hr
    have HK := Lib.hid hk
    clear hr hk
    go_enter Try.func96, Try.ntmps96
    go_wp2_with fail
    refine bodyPost_ret (v := .tuple #[.agg #[.bool false, .slice none 0 0, .slice none 0 0], .int .i64 0, .int .i64 22]) (by simp [results, Try.results96, go_sem]) rfl ?_
    rw [HR.out]
    exact RFirstd.bad (k := 22) rfl (by decide) rfl rfl (Bel.alloc (Bel.refl w) _)
  · obtain ⟨nn, hnn⟩ : ∃ nn, nn = beNum (t.take k) := ⟨_, rfl⟩
    have hrs : readSize m t = if t.headD 0 = 0 ∨ nn ≤ 55 then (23, 0, seg B (p + 1 + k) en) else (0, nn, seg B (p + 1 + k) en) := by
      unfold readSize
      rw [if_neg (by omega), if_neg (by omega), if_neg (by have := HTL.out; omega), ← hk, ← hnn]
      have : t.drop k = seg B (p + 1 + k) en := by rw [HT.out, seg_drop]
      rw [this]
    have hcell := fun (j : Nat) (hj : j < k) => HCELL.out (p + 1 + j) (by have := HNB.out; omega)
    have hstep : ∀ (j : Nat) (hj : j < k), beNum (t.take (j + 1)) = beNum (t.take j) * 256 + (B.getD (p + 1 + j) 0).toNat := fun j hj => by
      rw [List.take_succ_eq_append_getElem (by have := HTL.out; omega), beNum_snoc]
      congr 2
      have h1 : t[j]? = B[p + 1 + j]? := by rw [HT.out, seg_get _ _ _ _ (by omega)]
      rw [List.getElem?_eq_getElem (by have := HTL.out; omega)] at h1
      rw [List.getD_eq_getElem?_getD, ← h1]; rfl
    have hbd : ∀ j, j ≤ k → beNum (t.take j) < 256 ^ j := fun j hj => by
      have h1 := beNum_lt (t.take j)
      rwa [List.length_take, Nat.min_eq_left (by have := HTL.out; omega)] at h1
    have hhead : t.headD 0 = B.getD (p + 1) 0 := by
      rw [HT.out, seg_getD _ _ _ (by omega) (by have := HNB.out; omega)]; rfl
    have hc1 : w.cell? ⟨b, o + (p + 1), none⟩ = some (.int .u8 ((B.getD (p + 1) 0).toNat : Int)) := HCELL.out (p + 1) (by have := HNB.out; omega)
    obtain ⟨z, hz⟩ : ∃ z, z = B.getD (p + 1) 0 := ⟨_, rfl⟩
    rw [← hz] at hhead hc1
    rw [hhead] at hrs
    have HK := Lib.hid hk
    have HNN := Lib.hid hnn
    have HRS := Lib.hid hrs
    have HC := Lib.hid hcell
    have HST := Lib.hid hstep
    have HBD := Lib.hid hbd
    clear hk hnn hrs hcell hstep hbd hhead hz
    go_enter Try.func96, Try.ntmps96
    go_wp2_with fail
    go_loop [13, 15] (fun q i => ∃ j v : Nat, j ≤ k ∧ i = .int .i64 j ∧ q = .int .i64 v ∧ v ≤ 16777215 ∧ Hid (v = beNum (t.take j))) (fun _ i => k - (intOf i).toNat)
    case atStart => exact ⟨0, 0, Nat.zero_le _, rfl, rfl, by omega, by show _ = _; simp [beNum]⟩
    case round =>
      obtain ⟨j, v, hj, rfl, rfl, hv, HV⟩ := hrel
      by_cases hlt : j < k
      · have hc2 := HC.out j hlt
        have hs2 := HST.out j hlt
        have hb2 := HBD.out j (by omega)
        obtain ⟨y, hy⟩ : ∃ y, y = B.getD (p + 1 + j) 0 := ⟨_, rfl⟩
        rw [← hy] at hc2 hs2
        rw [← HV.out] at hs2 hb2
        have hyl := y.toNat_lt
        have hvy : v ≤ 65535 := by
          have h3 : 256 ^ j ≤ 256 ^ 2 := Nat.pow_le_pow_right (by omega) (by omega)
          omega
        have HS2 := Lib.hid hs2
        have hjn : p + 1 + j < n := by omega
        clear hs2 hb2 hy
        go_wp2
        go_round
        case rel => exact ⟨j + 1, v * 256 + y.toNat, by omega, num_eq (by omega), num_eq (by omega), by omega, by show _ = _; rw [HS2.out]⟩
        case measure => simp [intOf]; omega
      · obtain rfl : j = k := by omega
        obtain rfl : v = nn := by rw [HV.out, HNN.out]
        have hpn : p + 1 < n := by omega
        by_cases hz0 : z.toNat = 0 ∨ v ≤ 55
        · have hr : rdItem f (x :: t) = (23, .text [], []) := by
            have hs : readSize m t = (23, 0, seg B (p + 1 + j) en) := by
              rw [HRS.out, if_pos]
              rcases hz0 with h | h
              · exact .inl (UInt8.toNat_inj.1 (by simpa using h))
              · exact .inr h
            rw [HRT.out, hs]; unfold rdText; rw [if_pos (by simp)]
          have HR := Lib.hid hr
          have hcase : ((z.toNat : Int) == 0) = true ∨ (((z.toNat : Int) == 0) = false ∧ (v : Int) < 56) := by
            by_cases h : z.toNat = 0
            · exact .inl (by simp; omega)
            · exact .inr ⟨by simp; omega, by omega⟩
          clear hr hz0
          rcases hcase with h | ⟨h, h2⟩
          all_goals
            go_wp2_with fail
            refine bodyPost_ret (v := .tuple #[.agg #[.bool false, .slice none 0 0, .slice none 0 0], .int .i64 0, .int .i64 23]) (by simp [results, Try.results96, go_sem]) rfl ?_
            rw [HR.out]
            exact RFirstd.bad (k := 23) rfl (by decide) rfl rfl (Bel.alloc (Bel.refl w) _)
        · have hs : readSize m t = (0, v, seg B (p + 1 + j) en) := by
            rw [HRS.out, if_neg]
            rintro (h | h)
            · exact hz0 (.inl (by rw [h]; rfl))
            · exact hz0 (.inr h)
          have HS := Lib.hid hs
          have hzb : ((z.toNat : Int) == 0) = false := by simp; omega
          have hv56 : ¬ (v : Int) < 56 := by omega
          clear hs hz0 HC HST HBD
          by_cases hsh : en < (p + 1 + j) + v
          · have hr : rdItem f (x :: t) = (22, .text [], []) := by
              rw [HRT.out, HS.out, rdText, if_neg (by simp), if_pos (by simp only; rw [seg_len _ _ _ (by have := HNB.out; omega)]; omega)]
            have HR := Lib.hid hr
            clear hr
            go_wp2_with fail
            refine bodyPost_ret (v := .tuple #[.agg #[.bool false, .slice none 0 0, .slice none 0 0], .int .i64 0, .int .i64 22]) (by simp [results, Try.results96, go_sem]) rfl ?_
            rw [HR.out]
            exact RFirstd.bad (k := 22) rfl (by decide) rfl rfl (Bel.alloc (Bel.refl w) _)

          · have hq : (p + 1 + j) + v ≤ n := by omega
            have hone : v = 1 → ∃ y : UInt8, seg B (p + 1 + j) ((p + 1 + j) + v) = [y] ∧ w.cell? ⟨b, o + ((p + 1 + j)), none⟩ = some (.int .u8 (y.toNat : Int)) := fun h1 =>
              ⟨B.getD (p + 1 + j) 0, by rw [seg_getD B (p + 1 + j) ((p + 1 + j) + v) (by omega) (by have := HNB.out; omega), seg_nil _ _ _ (by omega)], HCELL.out ((p + 1 + j)) (by have := HNB.out; omega)⟩
            obtain ⟨L, hL⟩ : ∃ L, L = seg B (p + 1 + j) ((p + 1 + j) + v) := ⟨_, rfl⟩
            have hLl : L.length = v := by rw [hL, seg_len _ _ _ (by have := HNB.out; omega)]; omega
            have hrd : rdItem f (x :: t) = if v = 1 ∧ (L.headD 0).toNat < 128 then (23, .text [], []) else (0, .text L, seg B ((p + 1 + j) + v) en) := by
              rw [HRT.out, HS.out, rdText, if_neg (by simp), if_neg (by simp only; rw [seg_len _ _ _ (by have := HNB.out; omega)]; omega)]
              simp only [seg_drop, seg_take B (p + 1 + j) en v (by omega), ← hL]
              have hh : v = 1 → (seg B (p + 1 + j) en).headD 0 = L.headD 0 := fun h1 => by
                rw [hL, seg_cons B (p + 1 + j) en (by omega) (by have := HNB.out; omega), seg_cons B (p + 1 + j) ((p + 1 + j) + v) (by omega) (by have := HNB.out; omega)]; rfl
              by_cases h1 : v = 1
              · rw [hh h1]
              · rw [if_neg (fun h => h1 h.1), if_neg (fun h => h1 h.1)]
            have hcase : (v = 1 ∧ ∃ y : UInt8, L = [y] ∧ w.cell? ⟨b, o + ((p + 1 + j)), none⟩ = some (.int .u8 (y.toNat : Int))) ∨ ((v : Int) == 1) = false := by
              by_cases h1 : v = 1
              · obtain ⟨y, hy, hc⟩ := hone h1
                exact .inl ⟨h1, y, by rw [hL]; exact hy, hc⟩
              · exact .inr (by simp; omega)
            have HRD := Lib.hid hrd
            have HL := Lib.hid hL
            have HLL := Lib.hid hLl
            clear hrd hL hLl hone
            by_cases hbad : v = 1 ∧ (L.headD 0).toNat < 128
            · rcases hcase with ⟨h1, y, hy, hc⟩ | h1
              · have hr : rdItem f (x :: t) = (23, .text [], []) := by rw [HRD.out, if_pos hbad]
                have HR := Lib.hid hr
                have hb1 : ((v : Int) == 1) = true := by simp; omega
                have hqn : (p + 1 + j) < n := by omega
                have hy8 : (y.toNat : Int) < 128 := by have := hbad.2; rw [hy] at this; simp at this; omega
                clear hr h1 hbad hy
                go_wp2_with fail
                refine bodyPost_ret (v := .tuple #[.agg #[.bool false, .slice none 0 0, .slice none 0 0], .int .i64 0, .int .i64 23]) (by simp [results, Try.results96, go_sem]) rfl ?_
                rw [HR.out]
                exact RFirstd.bad (k := 23) rfl (by decide) rfl rfl (Bel.alloc (Bel.refl w) _)
              · have := hbad.1; simp at h1; omega
            · have hr : rdItem f (x :: t) = (0, .text L, seg B ((p + 1 + j) + v) en) := by rw [HRD.out, if_neg hbad]
              have HR := Lib.hid hr
              have hcase2 : (((v : Int) == 1) = true ∧ (p + 1 + j) < n ∧ ¬ c = (p + 1 + j) ∧ ∃ y : UInt8, w.cell? ⟨b, o + ((p + 1 + j)), none⟩ = some (.int .u8 (y.toNat : Int)) ∧ ¬ (y.toNat : Int) < 128) ∨ (((v : Int) == 1) = false ∧ ¬ c = (p + 1 + j)) ∨ (((v : Int) == 1) = false ∧ c = (p + 1 + j)) := by
                rcases hcase with ⟨h1, y, hy, hc⟩ | h1
                · exact .inl ⟨by simp; omega, by omega, by omega, y, hc, fun h => hbad ⟨h1, by rw [hy]; simp; omega⟩⟩
                · by_cases hcq : c = (p + 1 + j)
                  · exact .inr (.inr ⟨h1, hcq⟩)
                  · exact .inr (.inl ⟨h1, hcq⟩)
              have hargB : c = (p + 1 + j) → v = 0 ∧ L = [] := fun hcq => by
                have h0 : v = 0 := by omega
                exact ⟨h0, List.eq_nil_of_length_eq_zero (by rw [HLL.out]; exact h0)⟩
              have hargA : ¬ c = (p + 1 + j) → BytesAt (fun b => b < w.heap.size) w (.slice (some ⟨b, o + ((p + 1 + j)), none⟩) v (c - ((p + 1 + j)))) L := fun hcq => by
                have := BytesAt.seg HB.out ((p + 1 + j)) ((p + 1 + j) + v) (by omega) hq rfl
                rw [if_neg hcq, show (p + 1 + j) + v - ((p + 1 + j)) = v by omega, ← HL.out, addr_map_add] at this
                exact this
              have HARGA := Lib.hid hargA
              have HARGB := Lib.hid hargB
              have hbox := heap_alloc_new w (.cells #[.bool false, .slice none 0 0, .slice none 0 0] 65)
              have HBOX := Lib.hid hbox
              have hLb : L.length ≤ 140737488351232 := by rw [HLL.out]; omega
              have hsegl : (seg B ((p + 1 + j) + v) en).length = en - ((p + 1 + j) + v) := seg_len _ _ _ (by have := HNB.out; omega)
              have HSL := Lib.hid hsegl
              clear hr hbad hcase hargA hargB hbox hsegl
              have hcq : ¬ c = (p + 1 + j) := by omega
              have h1 : ((v : Int) == 1) = false := by simp; omega
              clear hcase2
              all_goals
                go_wp2_with fail
                refine (copied_any (fun b => b < w.heap.size) _ _ L ?_ hLb).mono ?_
                · first
                    | exact BytesAt.below (HARGA.out hcq) (Bel.alloc (Bel.refl w) _)
                    | (obtain ⟨e1, e2⟩ := HARGB.out hcq; rw [e2, e1]; exact SliceAt.empty _ _ _ _ _ _ (by unfold maxLen; omega) (fun h => by cases h))
                rintro e w1 ⟨v4, rfl, ho4, hb4⟩
                obtain ⟨a4, c4, rfl, -, -, -⟩ := ho4.len
                have hs4 := hb4.size
                simp only [World.size_alloc] at hs4
                have hlt4 : w.heap.size < w1.heap.size := by omega
                have hb1 := (hb4.block w.heap.size (by simp)).trans HBOX.out
                have HB1 := Lib.hid hb1
                have HBL1 := Lib.hid (Below.trans (Bel.alloc (Bel.refl w) _) (hb4.mono (by simp)))
                have HAT := Lib.hid (ho4.at (F := fun b => w.heap.size + 1 ≤ b) (fun g _ hg _ => by simpa using hg) (by decide))
                obtain ⟨q0, q1, q2⟩ := cells3 hb1
                have f0 := frozen_of_row w1 w.heap.size 0 _ _ hb1
                have f1 := frozen_of_row w1 w.heap.size 1 _ _ hb1
                have f2 := frozen_of_row w1 w.heap.size 2 _ _ hb1
                obtain ⟨n4, hn4⟩ : ∃ n4, n4 = L.length := ⟨_, rfl⟩
                rw [← hn4] at HAT ⊢
                clear hb1 hb4 ho4 hs4 hn4
                go_wp2_with fail
                have hbx := box3 HB1.out (.bool false) (.slice a4 n4 c4) (.slice none 0 0)
                obtain ⟨W, hW⟩ : ∃ W, W = ((w1.setCell ⟨w.heap.size, 0, none⟩ (.bool false)).setCell ⟨w.heap.size, 1, none⟩ (.slice a4 n4 c4)).setCell ⟨w.heap.size, 2, none⟩ (.slice none 0 0) := ⟨_, rfl⟩
                rw [← hW] at hbx ⊢
                obtain ⟨r0, r1, r2⟩ := cells3 hbx.at_
                refine bodyPost_ret (v := .tuple #[.agg #[.bool false, .slice a4 n4 c4, .slice none 0 0], .int .i64 ((p : Int) + 1 + (j : Int) + (v : Int)), .int .i64 0]) (by simp [results, Try.results96, go_sem, r0, r1, r2]) rfl ?_
                rw [HR.out]
                refine ⟨false, a4, n4, c4, none, 0, 0, (p + 1 + j) + v, ?_, fun _ => ?_, fun h => absurd rfl h, ⟨_, _, rfl, ?_, SliceAt.nil _ _ _ _⟩, HBL1.out.trans (hbx.chg.toBelowAt (by omega) (fun k hk e => by omega))⟩
                · rfl
                · show (p + 1 + j) + v + (seg B ((p + 1 + j) + v) en).length = en
                  rw [HSL.out]; omega
                · exact BytesAt.carry HAT.out (fun b _ hb => by show w.heap.size ≤ b; have : w.heap.size + 1 ≤ b := hb; omega) (fun b hb _ => hbx.other b (by have : w.heap.size + 1 ≤ b := hb; omega))
end Go.Proofs.Ytndkkgkcbbmnpaa
namespace Go.Proofs.Ytndkkgkcbbmnpaa
open Go.RowKit Go.Pg

set_option maxRecDepth 100000 in
set_option maxHeartbeats 2000000 in
theorem rfirst_listA (f : Nat) (w : World) (n c p en deep : Nat) (B : List UInt8) (b o : Nat) (x : UInt8) (t : List UInt8) (m : Nat)
    (HB : Hid (BytesAt (fun b => b < w.heap.size) w (.slice (some ⟨b, o, none⟩) n c) B)) (HNB : Hid (n = B.length)) (HCELL : Hid (∀ (i : Nat), i < B.length → w.cell? ⟨b, o + i, none⟩ = some (.int .u8 ((B.getD i 0).toNat : Int))))
    (hp : p < en) (hen : en ≤ n) (hn : n ≤ 140737488351232) (hd : deep + f = 8) (hnc : n ≤ c) (hcm : c ≤ 2 ^ 63 - 1) (hbw : b < w.heap.size) (hc0 : w.cell? ⟨b, o + p, none⟩ = some (.int .u8 (x.toNat : Int))) (HT : Hid (t = seg B (p + 1) en)) (f' : Nat) (hf : f = f' + 1) (hm : x.toNat = m + 192) (HI : Hid (RItemsC f')) (h55 : m ≤ 55) :
    Calls Try.prog 96 #[.slice (some ⟨b, o, none⟩) n c, .int .i64 p, .int .i64 en, .int .i64 deep] w (RFirstd w (f + 1) en (rdItem f (x :: t))) := by
  have hxl := x.toNat_lt
  subst hf

  have hmi : (x.toNat : Int) - 192 = (m : Int) := by omega
  have h128 : ¬ (x.toNat : Int) < 128 := by omega
  have h192 : (192 : Int) ≤ (x.toNat : Int) := by omega
  have hd8 : ¬ (8 : Int) ≤ (deep : Int) := by omega
  have hr1 : ¬ x.toNat < 128 := by omega
  have hr2 : ¬ x.toNat < 192 := by omega
  have hrt : rdItem (f' + 1) (x :: t) = rdList (rdItem f') (readSize m t) := by rw [rdItem, if_neg hr1, if_neg hr2, hm, Nat.add_sub_cancel]

  have HRT := Lib.hid hrt
  have HM := Lib.hid hm
  clear hrt hm hr1 hr2

  have hs : readSize m t = (0, m, seg B (p + 1) en) := by unfold readSize; rw [if_pos h55, HT.out]
  have HS := Lib.hid hs
  clear hs

  by_cases hsh : en < (p + 1) + m
  · have hr : rdItem (f' + 1) (x :: t) = (22, .text [], []) := by
      rw [HRT.out, HS.out, rdList, if_neg (by simp), if_pos (by simp only; rw [seg_len _ _ _ (by have := HNB.out; omega)]; omega)]
    have HR := Lib.hid hr
    clear hr
    go_enter Try.func96, Try.ntmps96
    go_wp2_with fail
    refine bodyPost_ret (v := .tuple #[.agg #[.bool false, .slice none 0 0, .slice none 0 0], .int .i64 0, .int .i64 22]) (by simp [results, Try.results96, go_sem]) rfl ?_
    rw [HR.out]
    exact RFirstd.bad (k := 22) rfl (by decide) rfl rfl (Bel.alloc (Bel.refl w) _)

  · have hq : (p + 1) + m ≤ n := by omega
    obtain ⟨L, hL⟩ : ∃ L, L = seg B (p + 1) ((p + 1) + m) := ⟨_, rfl⟩
    obtain ⟨e2, l, hal⟩ : ∃ e2 l, rdAll (rdItem f') m L = (e2, l) := ⟨_, _, rfl⟩
    obtain ⟨r, hrr⟩ : ∃ r : Nat × It × List UInt8, r = if e2 ≠ 0 then (e2, .text [], []) else (0, .list l, seg B ((p + 1) + m) en) := ⟨_, rfl⟩
    have HRR := Lib.hid hrr
    have hr : rdItem (f' + 1) (x :: t) = r := by
      rw [hrr]
      rw [HRT.out, HS.out, rdList, if_neg (by simp), if_neg (by simp only; rw [seg_len _ _ _ (by have := HNB.out; omega)]; omega)]
      simp only [seg_drop, seg_take B (p + 1) en m (by omega), ← hL, hal]
    have HR := Lib.hid hr
    have hcall := HI.out (fun b => b < w.heap.size) (w.alloc (.cells #[.bool false, .slice none 0 0, .slice none 0 0] 65)) (some ⟨b, o, none⟩) ((p : Int) + 1) ((p : Int) + 1 + (m : Int)) ((deep : Int) + 1) n c (p + 1) ((p + 1) + m) (deep + 1) B (by omega) (by omega) (by omega) (BytesAt.below HB.out (Bel.alloc (Bel.refl w) _)) (by omega) (by omega) (by omega) hn (by omega)
    rw [show (p + 1) + m - (p + 1) = m by omega, ← hL, hal] at hcall
    have HC := Lib.hid hcall
    have hbox := heap_alloc_new w (.cells #[.bool false, .slice none 0 0, .slice none 0 0] 65)
    have HBOX := Lib.hid hbox
    have hsegl : (seg B ((p + 1) + m) en).length = en - ((p + 1) + m) := seg_len _ _ _ (by have := HNB.out; omega)
    have HSL := Lib.hid hsegl
    clear hr hL hal hcall hbox hsegl hrr
    go_enter Try.func96, Try.ntmps96
    go_wp2_with fail
    refine HC.out.mono ?_
    rintro e5 w1 ⟨l5, i1, y1, z1, i3, y3, z3, mm, rfl, k1, k2, k3, hb4⟩
    have hs4 := hb4.size
    simp only [World.size_alloc] at hs4
    have hlt4 : w.heap.size < w1.heap.size := by omega
    have hb1 := (hb4.block w.heap.size (by simp)).trans HBOX.out
    have HB1 := Lib.hid hb1
    have HBL1 := Lib.hid (Below.trans (Bel.alloc (Bel.refl w) _) (hb4.mono (by simp)))
    have K1 := Lib.hid k1
    have K2 := Lib.hid k2
    have K3 := Lib.hid k3
    obtain ⟨q0, q1, q2⟩ := cells3 hb1
    have f0 := frozen_of_row w1 w.heap.size 0 _ _ hb1
    have f1 := frozen_of_row w1 w.heap.size 1 _ _ hb1
    have f2 := frozen_of_row w1 w.heap.size 2 _ _ hb1
    clear hb1 hb4 hs4 k1 k2 k3
    go_wp2_with fail
    have hbx := box3 HB1.out (.bool l5) (.slice i1 y1 z1) (.slice i3 y3 z3)
    obtain ⟨W, hW⟩ : ∃ W, W = ((w1.setCell ⟨w.heap.size, 0, none⟩ (.bool l5)).setCell ⟨w.heap.size, 1, none⟩ (.slice i1 y1 z1)).setCell ⟨w.heap.size, 2, none⟩ (.slice i3 y3 z3) := ⟨_, rfl⟩
    rw [← hW] at hbx ⊢
    obtain ⟨r0, r1, r2⟩ := cells3 hbx.at_
    refine bodyPost_ret (v := .tuple #[.agg #[.bool l5, .slice i1 y1 z1, .slice i3 y3 z3], .int .i64 (mm : Int), .int .i64 (e2 : Int)]) (by simp [results, Try.results96, go_sem, r0, r1, r2]) rfl ?_
    have hfar : ∀ x, ItemAt (fresh (w.alloc (.cells #[.bool false, .slice none 0 0, .slice none 0 0] 65))) w1 (f' + 2) [.bool l5, .slice i1 y1 z1, .slice i3 y3 z3] x → ItemAt (fresh w) W (f' + 2) [.bool l5, .slice i1 y1 z1, .slice i3 y3 z3] x := fun x hx => by
      refine hx.carry (fun b _ hb => Nat.le_trans (by simp) hb) (fun b hb _ => hbx.other b ?_)
      have hb' : w.heap.size + 1 ≤ b := Nat.le_trans (by simp) hb
      omega
    have hbel := HBL1.out.trans (hbx.chg.toBelowAt (by omega) (fun k hk e => by omega))
    by_cases he : e2 = 0
    · subst he
      have K3' := K3.out
      rw [if_pos rfl] at K3'
      rw [HR.out, HRR.out, if_neg (by simp)]
      refine ⟨l5, i1, y1, z1, i3, y3, z3, mm, rfl, fun _ => ?_, fun h => absurd rfl h, hfar _ K3', hbel⟩
      have := K1.out (by trivial)
      show mm + (seg B ((p + 1) + m) en).length = en
      rw [HSL.out]; omega
    · have K3' := K3.out
      rw [if_neg he] at K3'
      rw [HR.out, HRR.out, if_pos he]
      exact ⟨l5, i1, y1, z1, i3, y3, z3, mm, rfl, fun h => absurd h he, fun _ => K2.out he, hfar _ K3', hbel⟩
end Go.Proofs.Ytndkkgkcbbmnpaa
