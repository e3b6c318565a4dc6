/-
  Contract of (*nest.looker).look: what is amiss with an item.
  Contract of nest.Encode.
  Contracts of words.Key, words.number, words.Bytes, words.Read.
  Digests as plain functions: words as whole numbers from 0 to below 2^64, states of four words, texts mixed in 32 bytes at a time.
  Contracts of pergolaref02.head, body, Bytes.
-/
import Derived.Test.YtndkkgkcbbmnpaaEtAD
import Derived.BigRegion
namespace Go.Pg
theorem Chg.at1 {lb i : Nat} {a w : World} (h : Chg (fun k => k = lb) a w) (u : Value) : Chg (fun k => k = lb) a (w.setCell ⟨lb, i, none⟩ u) := h.setCell (.inr rfl) u
mutual
/-- what an item weighs behind what was weighed, and what is amiss -/
def It.look : It → Nat → Nat → Nat × Nat
  | .text b, _, wt => if 16777215 < wt + max b.length 1 then (wt + max b.length 1, 20) else (wt + max b.length 1, 0)
  | .list l, deep, wt => if deep = 8 then (wt, 21) else if deep = 0 then (if 16777215 < wt then (wt, 20) else It.looks l 1 wt) else
      (if 16777215 < wt + 1 then (wt + 1, 20) else It.looks l (deep + 1) (wt + 1))
def It.looks : List It → Nat → Nat → Nat × Nat
  | [], _, wt => (wt, 0)
  | x :: r, deep, wt => if (It.look x deep wt).2 = 0 then It.looks r deep (It.look x deep wt).1 else It.look x deep wt
end
mutual
theorem It.look_le : ∀ (x : It) (deep wt : Nat), (x.look deep wt).1 ≤ wt + x.whole
  | .text b, deep, wt => by
    have h1 := It.body_le_whole (.text b)
    have h2 := It.whole_pos (.text b)
    simp only [It.body] at h1
    simp only [It.look]; split <;> simp <;> omega
  | .list l, deep, wt => by
    have h1 := It.body_le_whole (.list l)
    have h2 := It.whole_pos (.list l)
    have h3 : It.wholes l + 1 ≤ (It.list l).whole := by
      simp only [It.whole]; exact sz_ge _
    simp only [It.look]
    split
    · simp
    · split
      · split
        · simp
        · have := It.looks_le l 1 wt; omega
      · split
        · simp; omega
        · have := It.looks_le l (deep + 1) (wt + 1); omega
theorem It.looks_le : ∀ (l : List It) (deep wt : Nat), (It.looks l deep wt).1 ≤ wt + It.wholes l
  | [], deep, wt => by simp [It.looks, It.wholes]
  | x :: r, deep, wt => by
    have h1 := It.look_le x deep wt
    have h2 := It.looks_le r deep (x.look deep wt).1
    simp only [It.looks, It.wholes]
    split <;> omega
end
/-- what is done first at a list -/
def lookHead (deep wt : Nat) : Nat × Nat :=
  if deep = 8 then (wt, 21) else if deep = 0 then (if 16777215 < wt then (wt, 20) else (wt, 0)) else if 16777215 < wt + 1 then (wt + 1, 20) else (wt + 1, 0)
def lookOn (l : List It) (deep : Nat) (r : Nat × Nat) : Nat × Nat := if r.2 = 0 then It.looks l deep r.1 else r
theorem look_list_eq (l : List It) (deep wt : Nat) : (It.list l).look deep wt = lookOn l (deep + 1) (lookHead deep wt) := by
  simp only [It.look, lookHead, lookOn]
  by_cases h8 : deep = 8
  · simp [h8]
  · by_cases h0 : deep = 0
    · subst h0; by_cases hb : 16777215 < wt <;> simp [hb]
    · by_cases hb : 16777215 < wt + 1 <;> simp [h8, h0, hb]
theorem lookOn_nil (deep : Nat) (r : Nat × Nat) : lookOn [] deep r = r := by
  obtain ⟨m, e⟩ := r
  simp only [lookOn, It.looks]
  split
  · rename_i h; subst h; rfl
  · rfl
theorem lookOn_cons (x : It) (l : List It) (deep m : Nat) : lookOn (x :: l) deep (m, 0) = lookOn l deep (x.look deep m) := by
  simp only [lookOn, It.looks, if_true]
theorem lookOn_bad (l : List It) (deep m e : Nat) (h : e ≠ 0) : lookOn l deep (m, e) = (m, e) := by
  unfold lookOn; rw [if_neg h]
end Go.Pg
namespace Go.Proofs.Ytndkkgkcbbmnpaa
open Go.RowKit Go.Pg

/-- behind a look: the looker's two cells; nothing else of what was there has turned -/
def Looked (w : World) (lb : Nat) (r : Nat × Nat) (e : Ending) (w' : World) : Prop :=
  e = .returned (.tuple #[]) ∧ w'.heap[lb]? = some (.cells #[.int .i64 r.1, .int .i64 r.2] 93 (0, 0)) ∧ Chg (fun k => k = lb) w w'
def LookC (d : Nat) : Prop := ∀ (F : Nat → Prop) (w : World) (lb : Nat) (x : It) (l : Bool) (v1 v2 : Value) (deep wt : Nat),
  ItemAt F w d [.bool l, v1, v2] x → w.heap[lb]? = some (.cells #[.int .i64 wt, .int .i64 0] 93 (0, 0)) → ¬ F lb → deep ≤ 8 → wt + x.whole ≤ 1125899906842624 →
  Calls Try.prog 69 #[.pointer (some ⟨lb, 0, none⟩), .agg #[.bool l, v1, v2], .int .i64 deep] w (Looked w lb (x.look deep wt))

set_option maxRecDepth 100000 in
set_option maxHeartbeats 400000 in
theorem look_text (_F : Nat → Prop) (w : World) (lb : Nat) (b : List UInt8) (a a2 : Option Addr) (c c2 : Nat) (deep wt : Nat)
    (hk : w.heap[lb]? = some (.cells #[.int .i64 wt, .int .i64 0] 93 (0, 0))) (_hd : deep ≤ 8) (hw : wt + (It.text b).whole ≤ 1125899906842624) :
    Calls Try.prog 69 #[.pointer (some ⟨lb, 0, none⟩), .agg #[.bool false, .slice a b.length c, .slice a2 0 c2], .int .i64 deep] w (Looked w lb ((It.text b).look deep wt)) := by
  have hlt := (Array.getElem?_eq_some_iff.1 hk).1
  obtain ⟨n, hn⟩ : ∃ n, n = b.length := ⟨_, rfl⟩
  rw [← hn]
  have hnw : n ≤ (It.text b).whole := by rw [hn]; exact It.body_le_whole (.text b)
  have hpos := It.whole_pos (.text b)
  have HN := Lib.hid hn
  clear hn
  obtain ⟨q0, q1⟩ := cells2 hk
  have f0 := frozen_of_row w lb 0 _ _ hk
  have f1 := frozen_of_row w lb 1 _ _ hk
  have hne : lb ≠ w.heap.size := by omega
  have hend : ∀ (W : World) (m e : Nat), W.heap[lb]? = some (.cells #[.int .i64 m, .int .i64 e] 93 (0, 0)) → (It.text b).look deep wt = (m, e) → Chg (fun k => k = lb) w W → Looked w lb ((It.text b).look deep wt) (.returned (.tuple #[])) W :=
    fun W m e h1 h2 h3 => ⟨rfl, by rw [h2]; exact h1, h3⟩
  have HE := Lib.hid hend
  clear hend
  have hk1 : ∀ (m : Int) (o : Obj), ((w.setCell ⟨lb, 0, none⟩ (.int .i64 m)).alloc o).drew.heap[lb]? = some (.cells #[.int .i64 m, .int .i64 0] 93 (0, 0)) ∧ Chg (fun k => k = lb) w ((w.setCell ⟨lb, 0, none⟩ (.int .i64 m)).alloc o).drew := fun m o =>
    ⟨(Below.heap_alloc _ _ _ (by simpa using hlt)).trans (heap_setCell_same _ _ _ _ _ _ hk), (((Chg.refl (fun k => k = lb) w).at1 (i := 0) _).alloc o).drew⟩
  have hk2 : ∀ (m e : Int) (o : Obj), (((w.setCell ⟨lb, 0, none⟩ (.int .i64 m)).setCell ⟨lb, 1, none⟩ (.int .i64 e)).alloc o).drew.heap[lb]? = some (.cells #[.int .i64 m, .int .i64 e] 93 (0, 0)) ∧ Chg (fun k => k = lb) w (((w.setCell ⟨lb, 0, none⟩ (.int .i64 m)).setCell ⟨lb, 1, none⟩ (.int .i64 e)).alloc o).drew := fun m e o =>
    ⟨(Below.heap_alloc _ _ _ (by simpa using hlt)).trans (heap_setCell_same _ _ _ _ _ _ (heap_setCell_same _ _ _ _ _ _ hk)), ((((Chg.refl (fun k => k = lb) w).at1 (i := 0) _).at1 (i := 1) _).alloc o).drew⟩
  have HK1 := Lib.hid hk1
  have HK2 := Lib.hid hk2
  clear hk1 hk2 hk
  obtain ⟨m, hm1⟩ : ∃ m : Nat, m = max n 1 := ⟨_, rfl⟩
  have hmx : (if (n : Int) < 1 then (1 : Int) else (n : Int)) = (m : Int) := by split <;> omega
  have hmb : wt + m ≤ 1125899906842624 := by omega
  have HM := Lib.hid hm1
  clear hm1 hnw hpos hw
  by_cases hm : 16777215 < wt + m
  all_goals
    go_enter Try.func69, Try.ntmps69
    go_wp2
    go_region
    go_wp2
    go_rounds 1
    go_end0
    have hl := HE.out
    first
      | (have hq := HK1.out (wt + m) (.cells #[.bool false, .slice a n c, .slice a2 0 c2] 65); exact hl _ (wt + m) 0 hq.1 (by simp only [It.look, ← HN.out, ← HM.out]; rw [if_neg (by omega)]) hq.2)
      | (have hq := HK2.out (wt + m) 20 (.cells #[.bool false, .slice a n c, .slice a2 0 c2] 65); exact hl _ (wt + m) 20 hq.1 (by simp only [It.look, ← HN.out, ← HM.out]; rw [if_pos (by omega)]) hq.2)

/-- a list's look on its way: the looker's cells, the item's box, and what has turned -/
structure LSt (w : World) (lb : Nat) (cs : Array Value) (W : World) (m e : Nat) : Prop where
  at_ : W.heap[lb]? = some (.cells #[.int .i64 m, .int .i64 e] 93 (0, 0))
  box : W.heap[w.heap.size]? = some (.cells cs 65 (0, 0))
  chg : Chg (fun k => k = lb) w W
set_option maxRecDepth 100000 in
set_option maxHeartbeats 1000000 in
theorem look_list {d : Nat} (hd0 : LookC d) (F : Nat → Prop) (w : World) (lb : Nat) (l : List It) (a a2 : Option Addr) (c n2 c2 : Nat) (deep wt : Nat)
    (his : ItemsAt F w d (.slice a2 n2 c2) l)
    (hk : w.heap[lb]? = some (.cells #[.int .i64 wt, .int .i64 0] 93 (0, 0))) (hF : ¬ F lb) (hd : deep ≤ 8) (hw : wt + (It.list l).whole ≤ 1125899906842624) :
    Calls Try.prog 69 #[.pointer (some ⟨lb, 0, none⟩), .agg #[.bool true, .slice a 0 c, .slice a2 n2 c2], .int .i64 deep] w (Looked w lb ((It.list l).look deep wt)) := by
  have hlt := (Array.getElem?_eq_some_iff.1 hk).1
  obtain ⟨q0, q1⟩ := cells2 hk
  have f0 := frozen_of_row w lb 0 _ _ hk
  have f1 := frozen_of_row w lb 1 _ _ hk
  have hne : lb ≠ w.heap.size := by omega
  have HD := Lib.hid hd0
  have hm1 : ∃ m : Nat, m = wt + 1 := ⟨_, rfl⟩
  obtain ⟨m, hm⟩ := hm1
  have hmx : (wt : Int) + 1 = (m : Int) := by omega
  have HM := Lib.hid hm
  have hwb : It.wholes l + 1 ≤ (It.list l).whole := by simp only [It.whole]; exact sz_ge _
  have hmb : m + It.wholes l ≤ 1125899906842624 := by omega
  have HIS := Lib.hid his
  have HK := Lib.hid hk
  clear hm hd0 his hk hwb hw
  have hX : ∀ (X : World) (m0 e0 : Nat), Chg (fun k => k = lb) w X → X.heap.size = w.heap.size → X.heap[lb]? = some (.cells #[.int .i64 m0, .int .i64 e0] 93 (0, 0)) →
      LSt w lb #[.bool true, .slice a 0 c, .slice a2 n2 c2] (X.alloc (.cells #[.bool true, .slice a 0 c, .slice a2 n2 c2] 65)) m0 e0 := fun X m0 e0 h1 h2 h3 =>
    ⟨by rw [Below.heap_alloc _ _ _ (by omega)]; exact h3, by rw [← h2]; exact heap_alloc_new X _, h1.alloc _⟩
  have HX := Lib.hid hX
  clear hX
  have hcases : (((deep : Int) == 8) = true ∧ Hid (lookHead deep wt = (wt, 21))) ∨
      (((deep : Int) == 8) = false ∧ ((deep : Int) == 0) = true ∧ 16777215 < wt ∧ Hid (lookHead deep wt = (wt, 20))) ∨
      (((deep : Int) == 8) = false ∧ ((deep : Int) == 0) = true ∧ ¬ 16777215 < wt ∧ Hid (lookHead deep wt = (wt, 0) ∧ deep < 8)) ∨
      (((deep : Int) == 8) = false ∧ ((deep : Int) == 0) = false ∧ 16777215 < m ∧ Hid (lookHead deep wt = (m, 20))) ∨
      (((deep : Int) == 8) = false ∧ ((deep : Int) == 0) = false ∧ ¬ 16777215 < m ∧ Hid (lookHead deep wt = (m, 0) ∧ deep < 8)) := by
    have hmm := HM.out
    unfold lookHead Hid
    rw [← hmm]
    by_cases h8 : deep = 8
    · exact .inl ⟨by simp; omega, by rw [if_pos h8]⟩
    · have e8 : ((deep : Int) == 8) = false := by simp; omega
      rw [if_neg h8]
      by_cases h0 : deep = 0
      · have e0 : ((deep : Int) == 0) = true := by simp; omega
        rw [if_pos h0]
        by_cases hb : 16777215 < wt
        · exact .inr (.inl ⟨e8, e0, hb, by rw [if_pos hb]⟩)
        · exact .inr (.inr (.inl ⟨e8, e0, hb, by rw [if_neg hb], by omega⟩))
      · have e0 : ((deep : Int) == 0) = false := by simp; omega
        rw [if_neg h0]
        by_cases hb : 16777215 < m
        · exact .inr (.inr (.inr (.inl ⟨e8, e0, hb, by rw [if_pos hb]⟩)))
        · exact .inr (.inr (.inr (.inr ⟨e8, e0, hb, by rw [if_neg hb], by omega⟩)))
  have hwm : wt + It.wholes l ≤ 1125899906842624 := by have := HM.out; omega
  have hn63 : n2 ≤ 1125899906842624 := by
    have h1 := It.length_le_wholes l
    rcases SliceAt.split HIS.out with ⟨_, h2⟩ | ⟨_, _, _, h2, _⟩ <;> omega
  rcases hcases with ⟨e8, HH⟩ | ⟨e8, e0, hb, HH⟩ | ⟨e8, e0, hb, HH⟩ | ⟨e8, e0, hb, HH⟩ | ⟨e8, e0, hb, HH⟩
  all_goals
    try (have hbz : decide ((16777215 : Int) < (wt : Int)) = true := by simp; omega)
    try (have hbz : decide ((16777215 : Int) < (wt : Int)) = false := by simp; omega)
    try (have hbz : decide ((16777215 : Int) < (m : Int)) = true := by simp; omega)
    try (have hbz : decide ((16777215 : Int) < (m : Int)) = false := by simp; omega)
    go_enter Try.func69, Try.ntmps69
    go_wp2
    go_loopw [6] (fun i wr => ∃ k m0 e0 : Nat, i = .int .i64 k ∧ k ≤ n2 ∧ Hid (LSt w lb #[.bool true, .slice a 0 c, .slice a2 n2 c2] wr m0 e0) ∧ m0 + It.wholes (l.drop k) ≤ 1125899906842624 ∧ Hid (e0 = 0 → deep < 8) ∧ Hid (lookOn (l.drop k) (deep + 1) (m0, e0) = (It.list l).look deep wt)) (fun i _ => n2 - (intOf i).toNat)
    case atStart =>
      have hk := HK.out
      first
        | exact ⟨0, wt, 21, rfl, Nat.zero_le _, HX.out _ wt 21 ((Chg.refl (fun k => k = lb) w).at1 (i := 1) _) (by simp) (heap_setCell_same _ _ _ _ _ _ hk), hwm, fun h => by omega, by show _ = _; rw [look_list_eq, HH.out]; rfl⟩
        | exact ⟨0, wt, 20, rfl, Nat.zero_le _, HX.out _ wt 20 ((Chg.refl (fun k => k = lb) w).at1 (i := 1) _) (by simp) (heap_setCell_same _ _ _ _ _ _ hk), hwm, fun h => by omega, by show _ = _; rw [look_list_eq, HH.out]; rfl⟩
        | exact ⟨0, wt, 0, rfl, Nat.zero_le _, HX.out _ wt 0 (Chg.refl (fun k => k = lb) w) rfl hk, hwm, fun _ => HH.out.2, by show _ = _; rw [look_list_eq, HH.out.1]; rfl⟩
        | exact ⟨0, m, 20, rfl, Nat.zero_le _, HX.out _ m 20 (((Chg.refl (fun k => k = lb) w).at1 (i := 0) _).at1 (i := 1) _) (by simp) (heap_setCell_same _ _ _ _ _ _ (heap_setCell_same _ _ _ _ _ _ hk)), hmb, fun h => by omega, by show _ = _; rw [look_list_eq, HH.out]; rfl⟩
        | exact ⟨0, m, 0, rfl, Nat.zero_le _, HX.out _ m 0 ((Chg.refl (fun k => k = lb) w).at1 (i := 0) _) (by simp) (heap_setCell_same _ _ _ _ _ _ hk), hmb, fun _ => HH.out.2, by show _ = _; rw [look_list_eq, HH.out.1]; rfl⟩
    case round =>
      obtain ⟨k, m1, e1, rfl, hk, HL, hb1, HD8, HO⟩ := hrel
      have hL := HL.out
      obtain ⟨b0, b1, b2⟩ := cells3 hL.box
      obtain ⟨p0, p1⟩ := cells2 hL.at_
      have hfr := frozen_of_row wr lb 0 _ _ hL.at_
      have hlr : lb < wr.heap.size := (Array.getElem?_eq_some_iff.1 hL.at_).1
      have hsz : w.heap.size < wr.heap.size := (Array.getElem?_eq_some_iff.1 hL.box).1
      have hn2 : n2 = l.length := by
        rcases SliceAt.split HIS.out with ⟨h1, h2⟩ | ⟨_, _, _, h2, _⟩
        · rw [h1, h2]; rfl
        · exact h2
      clear hL
      by_cases hlt : k < n2
      · by_cases he : e1 = 0
        · subst he
          have hki : k < l.length := by omega
          rcases SliceAt.split HIS.out with ⟨h1, h2⟩ | ⟨b, o, rfl, -, -, hFb⟩
          · omega
          have HN2 := Lib.hid hn2
          clear hn2
          have his' : ItemsAt F wr d (.slice (some ⟨b, o, none⟩) n2 c2) l := ItemsAt.carry HIS.out (fun _ _ x => x) (fun g hg hlt' => (HL.out).chg.block g hlt' (fun e => hF (e ▸ hg)))
          obtain ⟨y1, z1, t1, y2, z2, t2, c0, c1, c2', hit⟩ := ItemsAt.cell his' k hki
          obtain ⟨y, hy⟩ : ∃ y, y = l[k] := ⟨_, rfl⟩
          rw [← hy] at c0 hit
          have hdrop : l.drop k = y :: l.drop (k + 1) := by rw [hy]; exact List.drop_eq_getElem_cons hki
          have hbw : m1 + y.whole + It.wholes (l.drop (k + 1)) ≤ 1125899906842624 := by
            rw [hdrop] at hb1; simp only [It.wholes] at hb1; omega
          have HO2 : Hid (lookOn (l.drop (k + 1)) (deep + 1) (y.look (deep + 1) m1) = (It.list l).look deep wt) := by
            have := HO.out
            rwa [hdrop, lookOn_cons] at this
          have hd8 := HD8.out rfl
          clear hy hdrop his' HO hb1
          go_wp2_with fail
          rw [show ((deep : Int) + 1) = ((deep + 1 : Nat) : Int) from rfl]
          refine (HD.out F _ lb y _ _ _ (deep + 1) m1 hit (HL.out).at_ hF (by omega) (by omega)).mono ?_
          rintro e w5 ⟨rfl, hat, hch⟩
          have hle := It.look_le y (deep + 1) m1
          have HL5 : Hid (LSt w lb #[.bool true, .slice a 0 c, .slice (some ⟨b, o, none⟩) n2 c2] w5 (y.look (deep + 1) m1).1 (y.look (deep + 1) m1).2) :=
            ⟨hat, by rw [hch.block _ hsz (fun e => hne e.symm)]; exact (HL.out).box, (HL.out).chg.trans hch (fun _ _ x => x)⟩
          clear hat hch
          go_wp2_with fail
          go_roundw
          case rel =>
            first
              | exact ⟨k + 1, _, _, num_eq (by omega), by omega, HL5, by omega, fun _ => hd8, HO2⟩
              | ((repeat apply Exists.intro); exact ⟨⟨k + 1, _, _, num_eq (by omega), by omega, HL5, by omega, fun _ => hd8, HO2⟩, rfl⟩)
          case measure => simp [intOf]; omega
        · have he' : ((e1 : Int) == 0) = false := by simp; omega
          go_wp2
          go_end0
          have := HO.out
          rw [lookOn_bad _ _ _ _ he] at this
          exact ⟨rfl, by rw [← this]; exact (HL.out).at_, (HL.out).chg⟩
      · go_wp2
        go_end0
        have := HO.out
        rw [List.drop_eq_nil_of_le (by omega), lookOn_nil] at this
        exact ⟨rfl, by rw [← this]; exact (HL.out).at_, (HL.out).chg⟩

end Go.Proofs.Ytndkkgkcbbmnpaa
namespace Go.Pg
/-- nest's encoding, or what is amiss -/
def It.encode (x : It) : List UInt8 × Nat :=
  if (x.look 0 0).2 ≠ 0 then ([], (x.look 0 0).2) else if 16777215 < x.body then ([], 20) else (x.enc, 0)
end Go.Pg
namespace Go.Proofs.Ytndkkgkcbbmnpaa
open Go.RowKit Go.Pg

theorem look_step {d : Nat} (h : LookC d) : LookC (d + 1) := by
  intro F w lb x l v1 v2 deep wt hit hk hF hd hw
  obtain ⟨u1, u2, h1, h2, h3⟩ := hit
  simp only [List.cons.injEq, Value.bool.injEq, and_true] at h1
  obtain ⟨rfl, rfl, rfl⟩ := h1
  obtain ⟨a, c, rfl, -, -, -⟩ := SliceAt.len h2
  cases x with
  | text b =>
    obtain ⟨a2, c2, rfl, -, -, -⟩ := SliceAt.len h3
    exact look_text F w lb b a a2 c c2 deep wt hk hd hw
  | list l =>
    obtain ⟨a2, c2, rfl, -, -, -⟩ := SliceAt.len h3
    exact look_list h F w lb l a a2 c _ c2 deep wt h3 hk hF hd hw
theorem look_any (d : Nat) : LookC d := by
  induction d with
  | zero => intro F w lb x l v1 v2 deep wt h; exact h.elim
  | succ d ih => exact look_step ih

/-- bytes in new memory, and an error's number -/
def Encd (w : World) (r : List UInt8 × Nat) (e : Ending) (w' : World) : Prop :=
  ∃ v', e = .returned (.tuple #[v', .int .i64 r.2]) ∧ OwnAt w' w.heap.size 5 1 byteR v' r.1 ∧ Below w.heap.size w w'

set_option maxRecDepth 100000 in
set_option maxHeartbeats 1000000 in
theorem encode_any (F : Nat → Prop) (w : World) (d : Nat) (x : It) (l : Bool) (v1 v2 : Value) (h : ItemAt F w d [.bool l, v1, v2] x) (hw : x.whole ≤ 70368744177664) :
    Calls Try.prog 41 #[.agg #[.bool l, v1, v2]] w (Encd w x.encode) := by
  obtain ⟨hl, a1, n1, c1, a2, n2, c2, rfl, rfl, -, -⟩ := ItemAt.form h
  have HL := Lib.hid hl
  clear hl
  have h' : ItemAt (fun b => F b ∧ b < w.heap.size) w d [.bool l, .slice a1 n1 c1, .slice a2 n2 c2] x := h.carry (fun b hb hF => ⟨hF, hb⟩) (fun _ _ _ => rfl)
  clear h
  have hbw := It.body_le_whole x
  obtain ⟨W0, hW0⟩ : ∃ W0, W0 = (w.alloc (.cells #[.bool l, .slice a1 n1 c1, .slice a2 n2 c2] 65)).alloc (.cells #[.int .i64 0, .int .i64 0] 93) := ⟨_, rfl⟩
  have hbel0 : Below w.heap.size w W0 := by rw [hW0]; exact Bel.alloc (Bel.alloc (Bel.refl w) _) _
  have hk0 : W0.heap[w.heap.size + 1]? = some (.cells #[.int .i64 0, .int .i64 0] 93 (0, 0)) := by
    rw [hW0]
    have := heap_alloc_new (w.alloc (.cells #[.bool l, .slice a1 n1 c1, .slice a2 n2 c2] 65)) (.cells #[.int .i64 0, .int .i64 0] 93)
    simpa using this
  have hbx0 : W0.heap[w.heap.size]? = some (.cells #[.bool l, .slice a1 n1 c1, .slice a2 n2 c2] 65 (0, 0)) := by
    rw [hW0, Below.heap_alloc _ _ _ (by simp)]; exact heap_alloc_new w _
  have hs0 : W0.heap.size = w.heap.size + 2 := by rw [hW0]; simp
  have HW0 := Lib.hid hW0
  have HK0 := Lib.hid hk0
  have HBX := Lib.hid hbx0
  have HS0 := Lib.hid hs0
  clear hk0 hbx0 hs0 hW0
  go_enter Try.func41, Try.ntmps41
  go_wp2_with fail
  rw [← HW0.out]
  refine (look_any d (fun b => F b ∧ b < w.heap.size) _ (w.heap.size + 1) x _ _ _ 0 0 ?_ HK0.out (by omega) (by omega) (by omega)).mono ?_
  · exact h'.below hbel0
  rintro e w1 ⟨rfl, hat, hch⟩
  have hs1 := hch.size
  have hs0 := HS0.out
  have hbx1 : w1.heap[w.heap.size]? = some (.cells #[.bool l, .slice a1 n1 c1, .slice a2 n2 c2] 65 (0, 0)) := by
    rw [hch.block _ (by omega) (by omega)]; exact HBX.out
  have hbel1 : Below w.heap.size w w1 := hbel0.trans (hch.toBelowAt (by omega) (fun k hk => by omega))
  obtain ⟨m, e0, hr⟩ : ∃ m e0, x.look 0 0 = (m, e0) := ⟨_, _, rfl⟩
  rw [hr] at hat
  have HR := Lib.hid hr
  clear hr hch hs1 hs0 hbel0
  obtain ⟨b0, b1, b2⟩ := cells3 hbx1
  obtain ⟨p0, p1⟩ := cells2 hat
  have HB1 := Lib.hid hbel1
  have HX1 := Lib.hid hbx1
  clear hbel1 hbx1 hat
  by_cases he : e0 = 0
  · subst he
    go_wp2_with fail
    refine (body_any d (fun b => F b ∧ b < w.heap.size) _ x _ _ _ (h'.carry (fun _ _ x => x) (fun b hb _ => (HB1.out).block b hb.2)) (by omega)).mono ?_
    rintro e w2 ⟨rfl, hb2⟩
    obtain ⟨n, hn⟩ : ∃ n, n = x.body := ⟨_, rfl⟩
    rw [← hn] at hbw ⊢
    have HN := Lib.hid hn
    clear hn
    by_cases hbig : 16777215 < n
    · go_wp2
      go_ret2
      exact ⟨.slice none 0 0, by unfold It.encode; rw [HR.out, ← HN.out]; simp [hbig], by unfold It.encode; rw [HR.out, ← HN.out]; simp [hbig]; exact OwnAt.nil _ _ _ _ _, Bel.call HB1.out hb2⟩
    · have hbx2 : w2.heap[w.heap.size]? = some (.cells #[.bool l, .slice a1 n1 c1, .slice a2 n2 c2] 65 (0, 0)) := by
        rw [hb2.block _ (Array.getElem?_eq_some_iff.1 HX1.out).1]; exact HX1.out
      obtain ⟨g0, g1, g2⟩ := cells3 hbx2
      have HB2 := Lib.hid (Bel.call HB1.out hb2)
      have hsz2 := (HB2.out).size
      clear hb2 hbx2
      go_wp2_with fail
      refine (write_any d (fun b => F b ∧ b < w.heap.size) w2 w.heap.size x _ _ _ (.slice none 0 0) [] hsz2 (fun b hb => hb.2) (h'.carry (fun _ _ x => x) (fun b hb _ => (HB2.out).block b hb.2)) (OwnAt.nil _ _ _ _ _) (by simpa using hw)).mono ?_
      rintro e w3 ⟨v', rfl, ho, hg, hm⟩
      go_wp2
      go_ret2
      refine ⟨v', by unfold It.encode; rw [HR.out, ← HN.out]; simp [hbig], by unfold It.encode; rw [HR.out, ← HN.out]; simp [hbig]; simpa using ho, (HB2.out).grown hg hsz2 (fun k hk => by simp [Value.ownBlock] at hk)⟩
  · have he' : ((e0 : Int) == 0) = false := by simp; omega
    have he2 : ((e0 : Int) != 0) = true := by simp; omega
    go_wp2
    go_region
    go_wp2
    go_ret2
    exact ⟨.slice none 0 0, by unfold It.encode; rw [HR.out]; simp [he], by unfold It.encode; rw [HR.out]; simp [he]; exact OwnAt.nil _ _ _ _ _, (HB1.out).drew⟩

end Go.Proofs.Ytndkkgkcbbmnpaa
namespace Go.Pg
open Go.RowKit
/-- the cells of bytes -/
def cellsOf (l : List UInt8) : Array Value := (l.map fun x => Value.int .u8 (x.toNat : Int)).toArray
theorem cellsOf_size (l : List UInt8) : (cellsOf l).size = l.length := by simp [cellsOf]
theorem cellsOf_get (l : List UInt8) (i : Nat) (h : i < l.length) : (cellsOf l)[i]? = some (.int .u8 ((l[i]).toNat : Int)) := by simp [cellsOf, h]
theorem cellsOf_set (l : List UInt8) (i : Nat) (x : UInt8) : (cellsOf l).setIfInBounds i (.int .u8 (x.toNat : Int)) = cellsOf (l.set i x) := by
  apply Array.ext'
  simp [cellsOf, List.map_set]
/-- a row of bytes that is filled from its head on -/
def filling (l : List UInt8) (k : Nat) : List UInt8 := l.take k ++ List.replicate (l.length - k) 0
theorem filling_length (l : List UInt8) (k : Nat) : (filling l k).length = l.length := by simp [filling]; omega
theorem filling_zero (l : List UInt8) : filling l 0 = List.replicate l.length 0 := by simp [filling]
theorem filling_all (l : List UInt8) : filling l l.length = l := by simp [filling]
theorem filling_step (l : List UInt8) (k : Nat) (h : k < l.length) : (filling l k).set k l[k] = filling l (k + 1) := by
  unfold filling
  rw [List.set_append_right _ _ (by simp; omega), List.length_take, Nat.min_eq_left (by omega), Nat.sub_self]
  rw [show l.length - k = (l.length - (k + 1)) + 1 by omega, List.replicate_succ, List.set_cons_zero, List.take_succ_eq_append_getElem h, List.append_assoc]
  rfl
/-- a block of bytes reads as bytes -/
theorem OwnAt.ofBlk {w : World} {base g : Nat} {e : TypeId} {l : List UInt8} (hg : base ≤ g) (h : w.heap[g]? = some (.cells (cellsOf l) e (0, 0))) (hm : l.length ≤ maxLen) : OwnAt w base e 1 byteR (.slice (some ⟨g, 0, none⟩) l.length l.length) l := by
  refine ⟨(cellsOf l).toList, ⟨by simp [cellsOf], .inr ⟨g, l.length, cellsOf l, rfl, hg, h, Nat.le_refl _, hm, by simp [cellsOf], by rw [Nat.mul_one, List.take_of_length_le (by simp [cellsOf])]⟩⟩, by simp [cellsOf], fun i x hx => ?_⟩
  refine ⟨[.int .u8 (x.toNat : Int)], rfl, rfl, fun j u hu => ?_⟩
  match j, hu with
  | 0, hu => simp at hu; subst hu; simp [cellsOf, hx]
theorem beBytes8_get (n k : Nat) (h : k < 8) : (beBytes 8 n)[k]'(by rw [beBytes_length]; exact h) = UInt8.ofNat (n / 256 ^ (7 - k) % 256) := by
  have := beBytes_get 8 n k h
  rw [List.getElem?_eq_getElem (by rw [beBytes_length]; exact h)] at this
  exact Option.some.inj this
theorem key_cell (n k : Nat) (h : k < 8) : (.int .u8 ((n : Int) / 2 ^ (56 - 8 * k) % 256) : Value) = .int .u8 (((beBytes 8 n)[k]'(by rw [beBytes_length]; exact h)).toNat : Int) := by
  rw [beBytes8_get n k h, show 56 - 8 * k = 8 * (7 - k) by omega, shift_byte, UInt8.toNat_ofNat', Nat.mod_eq_of_lt (Nat.mod_lt _ (by omega))]
theorem beBytes_zero (k : Nat) : beBytes k 0 = List.replicate k 0 := by
  induction k with
  | zero => rfl
  | succ k ih => simp only [beBytes, Nat.zero_div, ih, Nat.zero_mod]; rw [List.replicate_succ']; rfl
/-- a word in as few bytes as may be -/
def wordB (n : Nat) : List UInt8 := beBytes (number n) n
theorem strip_be (k : Nat) : ∀ n, n < 256 ^ k → (beBytes k n).dropWhile (· == 0) = wordB n := by
  unfold wordB
  induction k with
  | zero => intro n h; have : n = 0 := by simpa using h
            subst this; rw [number_zero]; rfl
  | succ k ih =>
    intro n h
    have hd : n / 256 < 256 ^ k := by rw [Nat.pow_succ] at h; exact Nat.div_lt_of_lt_mul (by omega)
    by_cases h0 : n = 0
    · subst h0; rw [beBytes_zero, number_zero]; simp [beBytes]
    · simp only [beBytes]
      rw [List.dropWhile_append, ih _ hd, number_pos (n := n) (by omega)]
      by_cases h1 : n / 256 = 0
      · rw [h1, number_zero]
        have h2 : (UInt8.ofNat (n % 256) == 0) = false := by
          have h3 : UInt8.ofNat (n % 256) ≠ 0 := fun e => by
            have := congrArg UInt8.toNat e
            rw [UInt8.toNat_ofNat'] at this
            simp at this; omega
          simpa using h3
        simp [beBytes, h2]
      · have h2 : (beBytes (number (n / 256)) (n / 256)).isEmpty = false := by
          rw [List.isEmpty_eq_false_iff]
          intro e
          have := congrArg List.length e
          rw [beBytes_length, number_pos (n := n / 256) (by omega)] at this
          simp at this
        rw [h2]
        simp [beBytes]
theorem wordB_strip (n : Nat) (h : (n : Int) < 18446744073709551616) : (beBytes 8 n).dropWhile (· == 0) = wordB n := strip_be 8 n (by omega)
theorem wordB_length (n : Nat) : (wordB n).length = number n := beBytes_length _ _
theorem wordB_le (n : Nat) (h : (n : Int) < 18446744073709551616) : (wordB n).length ≤ 8 := by rw [wordB_length]; exact number_le 8 n (by omega)
theorem number_snoc (bs : List UInt8) (k : Nat) (h : k < bs.length) : beNum (bs.take (k + 1)) = beNum (bs.take k) * 256 + (bs[k]).toNat := by rw [List.take_succ_eq_append_getElem h, beNum_snoc]
theorem beNum_small (bs : List UInt8) (k : Nat) (h : k ≤ 7) : beNum (bs.take k) < 256 ^ 7 :=
  Nat.lt_of_lt_of_le (beNum_lt _) (Nat.pow_le_pow_right (by omega) (by simp; omega))
theorem or_u64 (p : Nat) (x : UInt8) (hp : p < 256 ^ 7) : bits .or .u64 (IntKind.u64.wrap ((p : Int) * 256)) (IntKind.u64.wrap (x.toNat : Int)) = ((p * 256 + x.toNat : Nat) : Int) := by
  have hx := x.toNat_lt
  rw [IntWalk.u64_in _ (by omega), IntWalk.u64_in _ (by omega), show ((p : Int) * 256) = ((p * 256 : Nat) : Int) by omega, bits_or_u64_nat _ _ (by omega) (by omega)]
  have := Nat.two_pow_add_eq_or_of_lt (i := 8) (b := x.toNat) (by omega) p
  rw [show p * 256 = 2 ^ 8 * p by omega, ← this]
end Go.Pg
namespace Go.Proofs.Ytndkkgkcbbmnpaa
open Go.RowKit Go.Pg

theorem makeBytes (n : Nat) (h : n ≤ 70368744177664) (w : World) : (Instr.makeSlice 25 (.int .i64 n) (.int .i64 n)).run Try.prog w = .ok (.slice (some ⟨w.heap.size, 0, none⟩) n n) (w.alloc (.cells (cellsOf (List.replicate n 0)) 5)) := by
  obtain ⟨i0, hi, hz0, hz1, hz2⟩ := info_parts infoU8
  have := run_make (P := Try.prog) w 25 5 i0 (.int .u8 0) underlying25 hi hz0 .i64 .i64 n n (by omega) (by omega) (by rw [hz2]; omega) (by omega)
  rw [this, hz1, Int.toNat_natCast, Nat.mul_one]
  have e : madeCells (Value.int IntKind.u8 0).cells n = cellsOf (List.replicate n 0) := by
    apply Array.ext'
    simp only [madeCells, cellsOf, Value.cells, Array.toList_map, Array.toList_range, List.map_replicate]
    apply List.ext_getElem (by simp)
    intro i h1 h2
    simp [Nat.mod_one]
  rw [e]
theorem makeBytes8 (w : World) : (Instr.makeSlice 25 (.int .i64 8) (.int .i64 8)).run Try.prog w = .ok (.slice (some ⟨w.heap.size, 0, none⟩) 8 8) (w.alloc (.cells (cellsOf (List.replicate 8 0)) 5)) := makeBytes 8 (by omega) w
set_option maxRecDepth 100000 in
set_option maxHeartbeats 1000000 in
theorem key_any (n : Nat) (w : World) (hn : (n : Int) < 18446744073709551616) :
    Calls Try.prog 97 #[.int .u64 n] w (Fresh w 5 1 byteR (beBytes 8 n)) := by
  have hmk := makeBytes8
  have hn0 : (0 : Int) ≤ (n : Int) := by omega
  go_enter Try.func97, Try.ntmps97
  go_wp2
  go_loopw [6] (fun i wr => ∃ k : Nat, k ≤ 8 ∧ i = .int .i64 k ∧ Hid (Below w.heap.size w wr) ∧ wr.heap[w.heap.size]? = some (.cells (cellsOf (filling (beBytes 8 n) k)) 5 (0, 0))) (fun i _ => 8 - (intOf i).toNat)
  case atStart => exact ⟨0, by omega, rfl, Bel.alloc (Bel.refl w) _, by rw [filling_zero, beBytes_length]; exact heap_alloc_new w _⟩
  case round =>
    obtain ⟨k, hk, rfl, HB, hblk⟩ := hrel
    by_cases hlt : k < 8
    · have hc : wr.cell? ⟨w.heap.size, k, none⟩ = some (.int .u8 (((filling (beBytes 8 n) k)[k]'(by rw [filling_length, beBytes_length]; exact hlt)).toNat : Int)) := by
        rw [cell_of_row _ _ _ _ _ _ hblk, cellsOf_get]
      have hf := frozen_of_row wr w.heap.size k _ _ hblk
      have HK := Lib.hid hblk
      have hk0 : (0 : Int) ≤ (k : Int) := by omega
      have hk1 : (k : Int) < 8 := by omega
      clear hblk
      go_wp2
      go_roundw
      case rel => exact ⟨k + 1, by omega, num_eq (by omega), HB.out.setCell (Nat.le_refl _) _, by rw [key_cell n k hlt, blk_setCell HK.out, cellsOf_set, filling_step _ _ (by rw [beBytes_length]; exact hlt)]⟩
      case measure => simp [intOf]; omega
    · obtain rfl : k = 8 := by omega
      have hb8 := filling_all (beBytes 8 n)
      rw [beBytes_length] at hb8
      rw [hb8] at hblk
      clear hb8
      go_wp2
      go_ret
      have := OwnAt.ofBlk (Nat.le_refl _) hblk (by rw [beBytes_length]; decide)
      rw [beBytes_length] at this
      exact ⟨_, rfl, this, HB⟩

set_option maxRecDepth 100000 in
set_option maxHeartbeats 1000000 in
theorem number_u64 (F : Nat → Prop) (w : World) (a : Option Addr) (n c : Nat) (bs : List UInt8) (h : BytesAt F w (.slice a n c) bs) (hn : n ≤ 8) :
    Calls Try.prog 98 #[.slice a n c] w fun e w' => e = .returned (.int .u64 (beNum bs)) ∧ w' = w := by
  have hnb := (SliceAt.len h)
  obtain ⟨a', c', hv, hnc, hcm, -⟩ := hnb
  simp only [Value.slice.injEq] at hv
  obtain ⟨rfl, hnl, rfl⟩ := hv
  have HN := Lib.hid hnl
  have H := Lib.hid h
  have hnc' : n ≤ c := by omega
  unfold maxLen at hcm
  clear hnl h hnc
  go_enter Try.func98, Try.ntmps98
  go_wp2
  go_loop [3, 7] (fun s i => ∃ k : Nat, k ≤ n ∧ i = .int .i64 k ∧ s = .int .u64 (beNum (bs.take k))) (fun _ i => n - (intOf i).toNat)
  case atStart => exact ⟨0, by omega, rfl, rfl⟩
  case round =>
    obtain ⟨k, hk, rfl, rfl⟩ := hrel
    by_cases hlt : k < n
    · rcases SliceAt.split H.out with ⟨_, h0⟩ | ⟨b, o, rfl, -, -, -⟩
      · omega
      have hc := BytesAt.cell H.out k (by have := HN.out; omega)
      obtain ⟨p, hp⟩ : ∃ p, p = beNum (bs.take k) := ⟨_, rfl⟩
      obtain ⟨x, hx⟩ : ∃ x, x = bs[k]'(by have := HN.out; omega) := ⟨_, rfl⟩
      rw [← hx] at hc
      rw [← hp]
      have HP := Lib.hid hp
      have HX := Lib.hid hx
      have hk0 : (0 : Int) ≤ (k : Int) := by omega
      have hk1 : (k : Int) < (n : Int) := by omega
      clear hp hx
      go_wp2
      go_round
      case rel => exact ⟨k + 1, by omega, num_eq (by omega), num_eq (by rw [number_snoc bs k (by have := HN.out; omega), ← HP.out, ← HX.out]; exact or_u64 p x (by rw [HP.out]; exact beNum_small bs k (by omega)))⟩
      case measure => simp [intOf]; omega
    · obtain rfl : n = k := by omega
      go_wp2
      go_ret
      exact ⟨ret_int (by rw [List.take_of_length_le (by have := HN.out; omega)]), rfl⟩

/-- bytes out of new memory -/
theorem lit_own (w : World) (e : TypeId) : OwnAt w w.heap.size e 1 byteR (.slice none 0 0) ([] : List UInt8) := OwnAt.nil _ _ _ _ _

set_option maxRecDepth 100000 in
set_option maxHeartbeats 1000000 in
theorem wbytes_any (n : Nat) (w : World) (hn : (n : Int) < 18446744073709551616) :
    Calls Try.prog 80 #[.int .u64 n] w (Fresh w 5 1 byteR (wordB n)) := by
  obtain ⟨i0, hi, hz0, hz1, hz2⟩ := info_parts infoU8
  have hst := wordB_strip n hn
  have HST := Lib.hid hst
  clear hst
  go_enter Try.func80, Try.ntmps80
  go_wp2_with fail
  refine (key_any n w hn).mono ?_
  rintro e w1 ⟨v1, rfl, ho, hb⟩
  have hat := ho.at (F := fun _ => True) (fun _ _ _ _ => trivial) (by decide)
  obtain ⟨a1, c1, rfl, h1, h2, -⟩ := ho.len
  rw [beBytes_length] at h1 hat ⊢
  have HB := Lib.hid hb
  have HA := Lib.hid hat
  clear hb hat ho
  go_wp2
  go_loop [3] (fun v => ∃ l a m c, v = .slice a m c ∧ m ≤ 8 ∧ c ≤ 2 ^ 63 - 1 ∧ m ≤ c ∧ Hid (m = l.length ∧ BytesAt (fun _ => True) w1 (.slice a m c) l ∧ l.dropWhile (· == 0) = wordB n)) (fun v => match v with | .slice _ m _ => m | _ => 0)
  case atStart => exact ⟨beBytes 8 n, a1, 8, c1, rfl, by omega, by unfold maxLen at h2; omega, by omega, by rw [beBytes_length], HA.out, HST.out⟩
  case round =>
    obtain ⟨l, a, m, c, rfl, hl8, hcm, hlc, H⟩ := hrel
    obtain ⟨hm, h3, h4⟩ := H.out
    by_cases hz : ∃ t, l = 0 :: t
    · obtain ⟨t, rfl⟩ := hz
      obtain ⟨k, rfl⟩ : ∃ k, m = k + 1 := ⟨t.length, by simpa using hm⟩
      have hk : k = t.length := by simpa using hm
      rcases SliceAt.split h3 with ⟨h0, _⟩ | ⟨b, o, rfl, -, -, -⟩
      · cases h0
      have hc := BytesAt.cell h3 0 (by simp)
      simp only [Nat.add_zero, List.getElem_cons_zero] at hc
      have hs := BytesAt.since h3 1 (by omega) (a2 := if c = 1 then some ⟨b, o, none⟩ else some ⟨b, o + 1, none⟩) (by simp [Addr.add])
      simp only [List.drop_succ_cons, List.drop_zero, Nat.add_sub_cancel] at hs
      have h5 : t.dropWhile (· == 0) = wordB n := by rw [← h4]; simp
      have HS : Hid (k = t.length ∧ BytesAt (fun _ => True) w1 (.slice (if c = 1 then some ⟨b, o, none⟩ else some ⟨b, o + 1, none⟩) k (c - 1)) t ∧ t.dropWhile (· == 0) = wordB n) := Lib.hid ⟨hk, hs, h5⟩
      clear h3 h4 H hs h5 hm hk
      go_wp2
      go_round
      case rel => exact ⟨t, _, _, _, rfl, by omega, by omega, by omega, HS⟩
      case measure => simp
    · have h5 : l = wordB n := by
        rw [← h4]
        cases l with
        | nil => rfl
        | cons x t =>
          have : (x == 0) = false := by simpa using fun e => hz ⟨t, by rw [e]⟩
          simp [this]
      have hpath : m = 0 ∨ (0 < m ∧ ∃ b o x, a = some ⟨b, o, none⟩ ∧ w1.cell? ⟨b, o, none⟩ = some (.int .u8 ((x : Nat) : Int)) ∧ 0 < x) := by
        rcases SliceAt.split h3 with ⟨h0, h1⟩ | ⟨b, o, rfl, -, hp, -⟩
        · exact .inl h1
        · cases l with
          | nil => simp at hm; exact .inl hm
          | cons x t =>
            have hc := BytesAt.cell h3 0 (by simp)
            simp only [Nat.add_zero, List.getElem_cons_zero] at hc
            refine .inr ⟨hp, b, o, x.toNat, rfl, hc, ?_⟩
            rcases Nat.eq_zero_or_pos x.toNat with h | h
            · exact absurd ⟨t, by rw [UInt8.toNat_inj.1 (show x.toNat = (0 : UInt8).toNat from h)]⟩ hz
            · exact h
      have hbase := HB.out.size
      have hle : (([] : List UInt8).length + l.length) * 1 ≤ 140737488355328 := by simp; omega
      subst h5
      have H3 := Lib.hid h3
      have HLE := Lib.hid hle
      clear h3 h4 H hz hm hle
      rcases hpath with rfl | ⟨hp, b, o, x, rfl, hc, hx⟩
      rotate_left
      have hx0 : ((x : Int) == 0) = false := by simp; omega
      all_goals
        go_wp2_with (at_builtin; refine wpList_append_at rfl (.const (.slice none 0 0)) (.tmp 17) 25 rfl w.heap.size 5 i0 (.int .u8 0) 1 1 underlying25 hi hz0 hz1 hz2 rfl (by decide) (by decide) byteR.one (.slice none 0 0) [] rfl (OwnAt.nil _ _ _ _ _) _ (wordB n) (fun _ => True) rfl H3.out HLE.out hbase ?_; intro v2 w2 ho hg hm)
        go_ret
        exact ⟨_, rfl, by simpa using ho, HB.out.grown hg hbase (fun k hk => by cases hk)⟩
end Go.Proofs.Ytndkkgkcbbmnpaa
namespace Go.Pg
open Go.RowKit
def addW (a b : Int) : Int := IntKind.u64.wrap (a + b)
def xorW (a b : Int) : Int := bits .xor .u64 a b
def rotW (x : Int) (n : Nat) : Int := bits .or .u64 (IntKind.u64.wrap (x * 2 ^ n)) (x / 2 ^ (64 - n))
structure S4 where
  a : Int
  b : Int
  c : Int
  d : Int
def S4.get (s : S4) : Nat → Int | 0 => s.a | 1 => s.b | 2 => s.c | _ => s.d
def S4.set (s : S4) : Nat → Int → S4
  | 0, v => { s with a := v } | 1, v => { s with b := v } | 2, v => { s with c := v } | _, v => { s with d := v }
def S4.cells (s : S4) : Array Value := #[.int .u64 s.a, .int .u64 s.b, .int .u64 s.c, .int .u64 s.d]
def S4.xor (s m : S4) : S4 := ⟨xorW s.a m.a, xorW s.b m.b, xorW s.c m.c, xorW s.d m.d⟩
/-- the first k words are those of t, the others those of s -/
def S4.part (k : Nat) (t s : S4) : S4 := ⟨if 0 < k then t.a else s.a, if 1 < k then t.b else s.b, if 2 < k then t.c else s.c, if 3 < k then t.d else s.d⟩
theorem S4.part_zero (t s : S4) : S4.part 0 t s = s := by simp [S4.part]
theorem S4.part_four (t s : S4) : S4.part 4 t s = t := by simp [S4.part]
theorem S4.part_get (t s : S4) (k : Nat) (h : k < 4) : (S4.part k t s).get k = s.get k := by
  rcases k with _ | _ | _ | _ | k
  all_goals first | rfl | omega
theorem S4.part_set (t s : S4) (k : Nat) (h : k < 4) : (S4.part k t s).set k (t.get k) = S4.part (k + 1) t s := by
  rcases k with _ | _ | _ | _ | k
  all_goals first | rfl | omega
theorem S4.xor_get (s m : S4) (k : Nat) (h : k < 4) : (s.xor m).get k = xorW (s.get k) (m.get k) := by
  rcases k with _ | _ | _ | _ | k
  all_goals first | rfl | omega
theorem S4.cells_get (s : S4) (k : Nat) (h : k < 4) : s.cells[k]? = some (.int .u64 (s.get k)) := by
  rcases k with _ | _ | _ | _ | k
  all_goals first | rfl | omega
theorem S4.cells_set (s : S4) (k : Nat) (h : k < 4) (v : Int) : s.cells.setIfInBounds k (.int .u64 v) = (s.set k v).cells := by
  rcases k with _ | _ | _ | _ | k
  all_goals first | rfl | omega
theorem S4.ext' {s t : S4} (h : ∀ k, k < 4 → s.get k = t.get k) : s = t := by
  have h0 := h 0 (by omega)
  have h1 := h 1 (by omega)
  have h2 := h 2 (by omega)
  have h3 := h 3 (by omega)
  obtain ⟨a, b, c, d⟩ := s
  obtain ⟨a', b', c', d'⟩ := t
  simp only [S4.get] at h0 h1 h2 h3
  subst h0 h1 h2 h3
  rfl
def S4.ok (s : S4) : Prop := ∀ k, k < 4 → 0 ≤ s.get k ∧ s.get k ≤ 18446744073709551615
def golden : Int := 11400714819323198485
/-- what is added in a round -/
def kay (r : Nat) : Int := (golden * (r + 1 : Nat)) % 18446744073709551616
theorem kay_zero : kay 0 = 11400714819323198485 := by decide
theorem kay_step (r : Nat) : IntKind.u64.wrap (kay r + 11400714819323198485) = kay (r + 1) := by
  rw [IntKind.wrap_u64]; unfold kay golden; omega
def round (m : S4) (r : Nat) (s : S4) : S4 :=
  let a1 := addW s.a (addW (addW s.b (m.get (r % 4))) (kay r))
  let d1 := rotW (xorW s.d a1) 32
  let c1 := addW s.c d1
  let b1 := rotW (xorW s.b c1) 24
  let a2 := addW a1 b1
  let d2 := rotW (xorW d1 a2) 16
  let c2 := addW c1 d2
  let b2 := rotW (xorW b1 c2) 63
  ⟨b2, c2, d2, a2⟩
def rounds (m s : S4) : Nat → S4
  | 0 => s
  | r + 1 => round m r (rounds m s r)
/-- a state behind four more words -/
def mixedS (s m : S4) : S4 := (rounds m (s.xor m) 8).xor s
/-- the four words of 32 bytes -/
def wordAt (l : List UInt8) (at_ : Nat) : Int := (beNum ((l.drop at_).take 8) : Nat)
def wordsOf (l : List UInt8) : S4 := ⟨wordAt l 0, wordAt l 8, wordAt l 16, wordAt l 24⟩
def begunS : S4 := ⟨kay 0, kay 1, kay 2, kay 3⟩
def absorb (s : S4) (l : List UInt8) : S4 := if 32 ≤ l.length then absorb (mixedS s (wordsOf l)) (l.drop 32) else s
termination_by l.length
decreasing_by simp; omega
/-- how many zeros -/
def zeros (n : Nat) : Nat := (55 + 32 - n % 32) % 32
def padOf (l : List UInt8) (n : Nat) : List UInt8 := l ++ [128] ++ List.replicate (zeros l.length) 0 ++ beBytes 8 n
def outS (s : S4) : List UInt8 := beBytes 8 s.a.toNat ++ beBytes 8 s.b.toNat ++ beBytes 8 s.c.toNat ++ beBytes 8 s.d.toNat
/-- the digest of a text -/
def digestOf (l : List UInt8) : List UInt8 := outS (absorb begunS (padOf l l.length))
theorem outS_length (s : S4) : (outS s).length = 32 := by simp [outS, beBytes_length]
theorem digestOf_length (l : List UInt8) : (digestOf l).length = 32 := outS_length _
theorem padOf_length (l : List UInt8) (n : Nat) : (padOf l n).length % 32 = 0 := by
  simp only [padOf, List.length_append, List.length_cons, List.length_nil, List.length_replicate, beBytes_length, zeros]; omega
theorem absorb_step (s : S4) (l : List UInt8) (h : 32 ≤ l.length) : absorb s l = absorb (mixedS s (wordsOf l)) (l.drop 32) := by rw [absorb, if_pos h]
theorem absorb_done (s : S4) (l : List UInt8) (h : l.length < 32) : absorb s l = s := by rw [absorb, if_neg (by omega)]
theorem wordsOf_append (l m : List UInt8) (h : 32 ≤ l.length) : wordsOf (l ++ m) = wordsOf l := by
  have : ∀ k, k + 8 ≤ 32 → wordAt (l ++ m) k = wordAt l k := fun k hk => by
    unfold wordAt
    rw [List.drop_append_of_le_length (by omega), List.take_append_of_le_length (by rw [List.length_drop]; omega)]
  unfold wordsOf
  rw [this 0 (by omega), this 8 (by omega), this 16 (by omega), this 24 (by omega)]
theorem wordsOf_take (l : List UInt8) : wordsOf (l.take 32) = wordsOf l := by
  have : ∀ k, k + 8 ≤ 32 → wordAt (l.take 32) k = wordAt l k := fun k hk => by
    unfold wordAt
    rw [List.drop_take, List.take_take, Nat.min_eq_left (by omega)]
  unfold wordsOf
  rw [this 0 (by omega), this 8 (by omega), this 16 (by omega), this 24 (by omega)]
/-- whole pieces ahead of more -/
theorem absorb_append (k : Nat) : ∀ (s : S4) (l m : List UInt8), l.length = 32 * k → absorb s (l ++ m) = absorb (absorb s l) m := by
  induction k with
  | zero => intro s l m h; have : l = [] := List.eq_nil_of_length_eq_zero (by omega)
            subst this; rw [absorb_done s [] (by simp)]; rfl
  | succ k ih =>
    intro s l m h
    rw [absorb_step s (l ++ m) (by simp; omega), absorb_step s l (by omega), wordsOf_append l m (by omega), List.drop_append_of_le_length (by omega)]
    exact ih _ _ _ (by rw [List.length_drop]; omega)
/-- the bytes that are left when whole pieces are mixed in -/
def restOf (l : List UInt8) : List UInt8 := l.drop (32 * (l.length / 32))
theorem absorb_rest (s : S4) (l : List UInt8) (n : Nat) : absorb s (padOf l n) = absorb (absorb s l) (padOf (restOf l) n) := by
  have h1 : padOf l n = l.take (32 * (l.length / 32)) ++ padOf (restOf l) n := by
    have hz : zeros l.length = zeros (restOf l).length := by
      unfold restOf zeros; rw [List.length_drop]; omega
    unfold padOf
    rw [hz]
    generalize zeros (restOf l).length = z
    conv => lhs; rw [← List.take_append_drop (32 * (l.length / 32)) l]
    unfold restOf
    simp only [List.append_assoc]
  have hl : (l.take (32 * (l.length / 32))).length = 32 * (l.length / 32) := by rw [List.length_take]; omega
  have h2 : absorb s l = absorb s (l.take (32 * (l.length / 32))) := by
    conv => lhs; rw [← List.take_append_drop (32 * (l.length / 32)) l]
    rw [absorb_append _ _ _ _ hl, absorb_done _ _ (by rw [List.length_drop]; omega)]
  rw [h1, absorb_append _ _ _ _ hl, h2]
end Go.Pg
namespace Go.Pg
open Go.RowKit
/-- bytes that have just been laid -/
theorem OwnAt.lit (w : World) (e : TypeId) (cs : Array Value) (bs : List UInt8) (h : cs.toList = bs.map fun x => .int .u8 (x.toNat : Int)) (hl : bs.length ≤ maxLen) :
    OwnAt (w.alloc (.cells cs e)) w.heap.size e 1 byteR (.slice (some ⟨w.heap.size, 0, none⟩) bs.length bs.length) bs := by
  refine ⟨cs.toList, World.ownsRow_lit w cs bs.length (Nat.le_refl _) hl (by rw [← Array.length_toList, h]; simp), by rw [h]; simp, fun i x hx => ?_⟩
  refine ⟨[.int .u8 (x.toNat : Int)], rfl, rfl, fun j u hu => ?_⟩
  match j, hu with
  | 0, hu =>
    simp at hu; subst hu
    rw [h]; simp [hx]
theorem toNat_ofNat_lt (n : Nat) (h : n < 256) : (((UInt8.ofNat n).toNat : Nat) : Int) = (n : Int) := by
  rw [UInt8.toNat_ofNat', Nat.mod_eq_of_lt (by omega)]
theorem headB_1 (base n : Nat) (h : n ≤ 55) : headB base n = [UInt8.ofNat (base + n)] := by unfold headB; rw [if_pos h]
theorem number_1 (n : Nat) (h0 : 0 < n) (h : n < 256) : number n = 1 := by
  rw [number_pos h0, show n / 256 = 0 by omega, number_zero]
theorem number_2 (n : Nat) (h0 : 256 ≤ n) (h : n < 65536) : number n = 2 := by
  rw [number_pos (by omega), number_1 _ (by omega) (by omega)]
theorem number_3 (n : Nat) (h0 : 65536 ≤ n) (h : n < 16777216) : number n = 3 := by
  rw [number_pos (by omega), number_2 _ (by omega) (by omega)]
theorem headB_2 (base n : Nat) (h0 : 55 < n) (h : n < 256) : headB base n = [UInt8.ofNat (base + 56), UInt8.ofNat n] := by
  unfold headB; rw [if_neg (by omega), number_1 n (by omega) h]
  simp only [beBytes, List.nil_append]
  rw [show n % 256 = n by omega]
theorem headB_3 (base n : Nat) (h0 : 256 ≤ n) (h : n < 65536) : headB base n = [UInt8.ofNat (base + 57), UInt8.ofNat (n / 256), UInt8.ofNat (n % 256)] := by
  unfold headB; rw [if_neg (by omega), number_2 n (by omega) h]
  simp only [beBytes, List.nil_append, List.cons_append]
  rw [show n / 256 % 256 = n / 256 by omega]
theorem headB_4 (base n : Nat) (h0 : 65536 ≤ n) (h : n < 16777216) : headB base n = [UInt8.ofNat (base + 58), UInt8.ofNat (n / 65536), UInt8.ofNat (n / 256 % 256), UInt8.ofNat (n % 256)] := by
  unfold headB; rw [if_neg (by omega), number_3 n (by omega) h]
  simp only [beBytes, List.nil_append, List.cons_append]
  rw [show n / 256 / 256 = n / 65536 by omega, show n / 65536 % 256 = n / 65536 by omega]
end Go.Pg
namespace Go.Proofs.Ytndkkgkcbbmnpaa
open Go.RowKit Go.Pg

set_option maxRecDepth 100000 in
set_option maxHeartbeats 1000000 in
theorem head_any (base n : Nat) (w : World) (hb : base ≤ 192) (hn : n < 16777216) :
    Calls Try.prog 93 #[.int .i64 base, .int .i64 n] w (Fresh w 5 1 byteR (headB base n)) := by
  by_cases h1 : n ≤ 55
  · have e := headB_1 base n h1
    rw [e]
    go_enter Try.func93, Try.ntmps93
    go_wp2
    go_ret
    exact ⟨_, rfl, OwnAt.lit w _ _ [UInt8.ofNat (base + n)] (by simp only [List.map_cons, List.map_nil]; rw [toNat_ofNat_lt _ (by omega)]; rfl) (show 1 ≤ maxLen by decide), Bel.alloc (Bel.refl w) _⟩
  · by_cases h2 : n < 256
    · have e := headB_2 base n (by omega) h2
      rw [e]
      go_enter Try.func93, Try.ntmps93
      go_wp2
      go_ret
      exact ⟨_, rfl, OwnAt.lit w _ _ [UInt8.ofNat (base + 56), UInt8.ofNat n] (by simp only [List.map_cons, List.map_nil]; rw [toNat_ofNat_lt _ (by omega), toNat_ofNat_lt _ (by omega)]; rfl) (show 2 ≤ maxLen by decide), Bel.alloc (Bel.refl w) _⟩
    · by_cases h3 : n < 65536
      · have e := headB_3 base n (by omega) h3
        have HE := Lib.hid e
        have H2 := Lib.hid h2
        have H3 := Lib.hid h3
        have HN := Lib.hid hn
        have z1 : ¬ (n : Int) ≤ 55 := by omega
        have z2 : ¬ (n : Int) < 256 := by omega
        have z3 : (0 : Int) ≤ n := by omega
        have z4 : (n : Int) < 65536 := by omega
        clear h1 h2 h3 hn e
        go_enter Try.func93, Try.ntmps93
        go_wp2
        go_ret
        have h2 := H2.out
        have h3 := H3.out
        have hn := HN.out
        have hq := OwnAt.lit w 5 #[.int .u8 ((base : Int) + 57), .int .u8 ((n : Int) / 256), .int .u8 ((n : Int) % 256)] [UInt8.ofNat (base + 57), UInt8.ofNat (n / 256), UInt8.ofNat (n % 256)] (by simp only [List.map_cons, List.map_nil]; rw [toNat_ofNat_lt _ (by omega), toNat_ofNat_lt _ (by omega), toNat_ofNat_lt _ (by omega)]; rfl) (show 3 ≤ maxLen by decide)
        rw [HE.out]
        exact ⟨.slice (some ⟨w.heap.size, 0, none⟩) 3 3, rfl, hq, Bel.alloc (Bel.refl w) _⟩
      · have e := headB_4 base n (by omega) hn
        have HE := Lib.hid e
        have H2 := Lib.hid h2
        have H3 := Lib.hid h3
        have HN := Lib.hid hn
        have z1 : ¬ (n : Int) ≤ 55 := by omega
        have z2 : ¬ (n : Int) < 256 := by omega
        have z3 : ¬ (n : Int) < 65536 := by omega
        have z4 : (n : Int) < 16777216 := by omega
        clear h1 h2 h3 hn e
        go_enter Try.func93, Try.ntmps93
        go_wp2
        go_ret
        have h2 := H2.out
        have h3 := H3.out
        have hn := HN.out
        have hq := OwnAt.lit w 5 #[.int .u8 ((base : Int) + 58), .int .u8 ((n : Int) / 65536), .int .u8 ((n : Int) / 256 % 256), .int .u8 ((n : Int) % 256)] [UInt8.ofNat (base + 58), UInt8.ofNat (n / 65536), UInt8.ofNat (n / 256 % 256), UInt8.ofNat (n % 256)] (by simp only [List.map_cons, List.map_nil]; rw [toNat_ofNat_lt _ (by omega), toNat_ofNat_lt _ (by omega), toNat_ofNat_lt _ (by omega), toNat_ofNat_lt _ (by omega)]; rfl) (show 4 ≤ maxLen by decide)
        rw [HE.out]
        exact ⟨.slice (some ⟨w.heap.size, 0, none⟩) 4 4, rfl, hq, Bel.alloc (Bel.refl w) _⟩

end Go.Proofs.Ytndkkgkcbbmnpaa
