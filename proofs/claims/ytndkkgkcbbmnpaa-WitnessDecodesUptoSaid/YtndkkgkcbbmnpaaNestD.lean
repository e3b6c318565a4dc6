/-
  Contract of (*nest.looker).look: what is amiss with an item.
-/
import Derived.Test.YtndkkgkcbbmnpaaNestC
import Derived.BigRegion
namespace Go.Pg
theorem Chg.at1 {lb i : Nat} {a w : World} (h : Chg (fun k => k = lb) a w) (u : Value) : Chg (fun k => k = lb) a (w.setCell ⟨lb, i, none⟩ u) := h.setCell (.inr rfl) u
mutual
/-- what an item weighs behind what was weighed, and what is amiss -/
def It.look : It → Nat → Nat → Nat × Nat
  | .text b, _, wt => if 16777215 < wt + max b.length 1 then (wt + max b.length 1, 20) else (wt + max b.length 1, 0)
  | .list l, deep, wt => if deep = 8 then (wt, 21) else if deep = 0 then (if 16777215 < wt then (wt, 20) else It.looks l 1 wt) else
      (if 16777215 < wt + 1 then (wt + 1, 20) else It.looks l (deep + 1) (wt + 1))
def It.looks : List It → Nat → Nat → Nat × Nat
  | [], _, wt => (wt, 0)
  | x :: r, deep, wt => if (It.look x deep wt).2 = 0 then It.looks r deep (It.look x deep wt).1 else It.look x deep wt
end
mutual
theorem It.look_le : ∀ (x : It) (deep wt : Nat), (x.look deep wt).1 ≤ wt + x.whole
  | .text b, deep, wt => by
    have h1 := It.body_le_whole (.text b)
    have h2 := It.whole_pos (.text b)
    simp only [It.body] at h1
    simp only [It.look]; split <;> simp <;> omega
  | .list l, deep, wt => by
    have h1 := It.body_le_whole (.list l)
    have h2 := It.whole_pos (.list l)
    have h3 : It.wholes l + 1 ≤ (It.list l).whole := by
      simp only [It.whole]; exact sz_ge _
    simp only [It.look]
    split
    · simp
    · split
      · split
        · simp
        · have := It.looks_le l 1 wt; omega
      · split
        · simp; omega
        · have := It.looks_le l (deep + 1) (wt + 1); omega
theorem It.looks_le : ∀ (l : List It) (deep wt : Nat), (It.looks l deep wt).1 ≤ wt + It.wholes l
  | [], deep, wt => by simp [It.looks, It.wholes]
  | x :: r, deep, wt => by
    have h1 := It.look_le x deep wt
    have h2 := It.looks_le r deep (x.look deep wt).1
    simp only [It.looks, It.wholes]
    split <;> omega
end
/-- what is done first at a list -/
def lookHead (deep wt : Nat) : Nat × Nat :=
  if deep = 8 then (wt, 21) else if deep = 0 then (if 16777215 < wt then (wt, 20) else (wt, 0)) else if 16777215 < wt + 1 then (wt + 1, 20) else (wt + 1, 0)
def lookOn (l : List It) (deep : Nat) (r : Nat × Nat) : Nat × Nat := if r.2 = 0 then It.looks l deep r.1 else r
theorem look_list_eq (l : List It) (deep wt : Nat) : (It.list l).look deep wt = lookOn l (deep + 1) (lookHead deep wt) := by
  simp only [It.look, lookHead, lookOn]
  by_cases h8 : deep = 8
  · simp [h8]
  · by_cases h0 : deep = 0
    · subst h0; by_cases hb : 16777215 < wt <;> simp [hb]
    · by_cases hb : 16777215 < wt + 1 <;> simp [h8, h0, hb]
theorem lookOn_nil (deep : Nat) (r : Nat × Nat) : lookOn [] deep r = r := by
  obtain ⟨m, e⟩ := r
  simp only [lookOn, It.looks]
  split
  · rename_i h; subst h; rfl
  · rfl
theorem lookOn_cons (x : It) (l : List It) (deep m : Nat) : lookOn (x :: l) deep (m, 0) = lookOn l deep (x.look deep m) := by
  simp only [lookOn, It.looks, if_true]
theorem lookOn_bad (l : List It) (deep m e : Nat) (h : e ≠ 0) : lookOn l deep (m, e) = (m, e) := by
  unfold lookOn; rw [if_neg h]
end Go.Pg
namespace Go.Proofs.Ytndkkgkcbbmnpaa
open Go.RowKit Go.Pg

/-- behind a look: the looker's two cells; nothing else of what was there has turned -/
def Looked (w : World) (lb : Nat) (r : Nat × Nat) (e : Ending) (w' : World) : Prop :=
  e = .returned (.tuple #[]) ∧ w'.heap[lb]? = some (.cells #[.int .i64 r.1, .int .i64 r.2] 93 (0, 0)) ∧ Chg (fun k => k = lb) w w'
def LookC (d : Nat) : Prop := ∀ (F : Nat → Prop) (w : World) (lb : Nat) (x : It) (l : Bool) (v1 v2 : Value) (deep wt : Nat),
  ItemAt F w d [.bool l, v1, v2] x → w.heap[lb]? = some (.cells #[.int .i64 wt, .int .i64 0] 93 (0, 0)) → ¬ F lb → deep ≤ 8 → wt + x.whole ≤ 1125899906842624 →
  Calls Try.prog 69 #[.pointer (some ⟨lb, 0, none⟩), .agg #[.bool l, v1, v2], .int .i64 deep] w (Looked w lb (x.look deep wt))

set_option maxRecDepth 100000 in
set_option maxHeartbeats 400000 in
theorem look_text (_F : Nat → Prop) (w : World) (lb : Nat) (b : List UInt8) (a a2 : Option Addr) (c c2 : Nat) (deep wt : Nat)
    (hk : w.heap[lb]? = some (.cells #[.int .i64 wt, .int .i64 0] 93 (0, 0))) (_hd : deep ≤ 8) (hw : wt + (It.text b).whole ≤ 1125899906842624) :
    Calls Try.prog 69 #[.pointer (some ⟨lb, 0, none⟩), .agg #[.bool false, .slice a b.length c, .slice a2 0 c2], .int .i64 deep] w (Looked w lb ((It.text b).look deep wt)) := by
  have hlt := (Array.getElem?_eq_some_iff.1 hk).1
  obtain ⟨n, hn⟩ : ∃ n, n = b.length := ⟨_, rfl⟩
  rw [← hn]
  have hnw : n ≤ (It.text b).whole := by rw [hn]; exact It.body_le_whole (.text b)
  have hpos := It.whole_pos (.text b)
  have HN := Lib.hid hn
  clear hn
  obtain ⟨q0, q1⟩ := cells2 hk
  have f0 := frozen_of_row w lb 0 _ _ hk
  have f1 := frozen_of_row w lb 1 _ _ hk
  have hne : lb ≠ w.heap.size := by omega
  have hend : ∀ (W : World) (m e : Nat), W.heap[lb]? = some (.cells #[.int .i64 m, .int .i64 e] 93 (0, 0)) → (It.text b).look deep wt = (m, e) → Chg (fun k => k = lb) w W → Looked w lb ((It.text b).look deep wt) (.returned (.tuple #[])) W :=
    fun W m e h1 h2 h3 => ⟨rfl, by rw [h2]; exact h1, h3⟩
  have HE := Lib.hid hend
  clear hend
  have hk1 : ∀ (m : Int) (o : Obj), ((w.setCell ⟨lb, 0, none⟩ (.int .i64 m)).alloc o).drew.heap[lb]? = some (.cells #[.int .i64 m, .int .i64 0] 93 (0, 0)) ∧ Chg (fun k => k = lb) w ((w.setCell ⟨lb, 0, none⟩ (.int .i64 m)).alloc o).drew := fun m o =>
    ⟨(Below.heap_alloc _ _ _ (by simpa using hlt)).trans (heap_setCell_same _ _ _ _ _ _ hk), (((Chg.refl (fun k => k = lb) w).at1 (i := 0) _).alloc o).drew⟩
  have hk2 : ∀ (m e : Int) (o : Obj), (((w.setCell ⟨lb, 0, none⟩ (.int .i64 m)).setCell ⟨lb, 1, none⟩ (.int .i64 e)).alloc o).drew.heap[lb]? = some (.cells #[.int .i64 m, .int .i64 e] 93 (0, 0)) ∧ Chg (fun k => k = lb) w (((w.setCell ⟨lb, 0, none⟩ (.int .i64 m)).setCell ⟨lb, 1, none⟩ (.int .i64 e)).alloc o).drew := fun m e o =>
    ⟨(Below.heap_alloc _ _ _ (by simpa using hlt)).trans (heap_setCell_same _ _ _ _ _ _ (heap_setCell_same _ _ _ _ _ _ hk)), ((((Chg.refl (fun k => k = lb) w).at1 (i := 0) _).at1 (i := 1) _).alloc o).drew⟩
  have HK1 := Lib.hid hk1
  have HK2 := Lib.hid hk2
  clear hk1 hk2 hk
  obtain ⟨m, hm1⟩ : ∃ m : Nat, m = max n 1 := ⟨_, rfl⟩
  have hmx : (if (n : Int) < 1 then (1 : Int) else (n : Int)) = (m : Int) := by split <;> omega
  have hmb : wt + m ≤ 1125899906842624 := by omega
  have HM := Lib.hid hm1
  clear hm1 hnw hpos hw
  by_cases hm : 16777215 < wt + m
  all_goals
    go_enter Try.func69, Try.ntmps69
    go_wp2
    go_region
    go_wp2
    go_rounds 1
    go_end0
    have hl := HE.out
    first
      | (have hq := HK1.out (wt + m) (.cells #[.bool false, .slice a n c, .slice a2 0 c2] 65); exact hl _ (wt + m) 0 hq.1 (by simp only [It.look, ← HN.out, ← HM.out]; rw [if_neg (by omega)]) hq.2)
      | (have hq := HK2.out (wt + m) 20 (.cells #[.bool false, .slice a n c, .slice a2 0 c2] 65); exact hl _ (wt + m) 20 hq.1 (by simp only [It.look, ← HN.out, ← HM.out]; rw [if_pos (by omega)]) hq.2)

/-- a list's look on its way: the looker's cells, the item's box, and what has turned -/
structure LSt (w : World) (lb : Nat) (cs : Array Value) (W : World) (m e : Nat) : Prop where
  at_ : W.heap[lb]? = some (.cells #[.int .i64 m, .int .i64 e] 93 (0, 0))
  box : W.heap[w.heap.size]? = some (.cells cs 65 (0, 0))
  chg : Chg (fun k => k = lb) w W
set_option maxRecDepth 100000 in
set_option maxHeartbeats 1000000 in
theorem look_list {d : Nat} (hd0 : LookC d) (F : Nat → Prop) (w : World) (lb : Nat) (l : List It) (a a2 : Option Addr) (c n2 c2 : Nat) (deep wt : Nat)
    (his : ItemsAt F w d (.slice a2 n2 c2) l)
    (hk : w.heap[lb]? = some (.cells #[.int .i64 wt, .int .i64 0] 93 (0, 0))) (hF : ¬ F lb) (hd : deep ≤ 8) (hw : wt + (It.list l).whole ≤ 1125899906842624) :
    Calls Try.prog 69 #[.pointer (some ⟨lb, 0, none⟩), .agg #[.bool true, .slice a 0 c, .slice a2 n2 c2], .int .i64 deep] w (Looked w lb ((It.list l).look deep wt)) := by
  have hlt := (Array.getElem?_eq_some_iff.1 hk).1
  obtain ⟨q0, q1⟩ := cells2 hk
  have f0 := frozen_of_row w lb 0 _ _ hk
  have f1 := frozen_of_row w lb 1 _ _ hk
  have hne : lb ≠ w.heap.size := by omega
  have HD := Lib.hid hd0
  have hm1 : ∃ m : Nat, m = wt + 1 := ⟨_, rfl⟩
  obtain ⟨m, hm⟩ := hm1
  have hmx : (wt : Int) + 1 = (m : Int) := by omega
  have HM := Lib.hid hm
  have hwb : It.wholes l + 1 ≤ (It.list l).whole := by simp only [It.whole]; exact sz_ge _
  have hmb : m + It.wholes l ≤ 1125899906842624 := by omega
  have HIS := Lib.hid his
  have HK := Lib.hid hk
  clear hm hd0 his hk hwb hw
  have hX : ∀ (X : World) (m0 e0 : Nat), Chg (fun k => k = lb) w X → X.heap.size = w.heap.size → X.heap[lb]? = some (.cells #[.int .i64 m0, .int .i64 e0] 93 (0, 0)) →
      LSt w lb #[.bool true, .slice a 0 c, .slice a2 n2 c2] (X.alloc (.cells #[.bool true, .slice a 0 c, .slice a2 n2 c2] 65)) m0 e0 := fun X m0 e0 h1 h2 h3 =>
    ⟨by rw [Below.heap_alloc _ _ _ (by omega)]; exact h3, by rw [← h2]; exact heap_alloc_new X _, h1.alloc _⟩
  have HX := Lib.hid hX
  clear hX
  have hcases : (((deep : Int) == 8) = true ∧ Hid (lookHead deep wt = (wt, 21))) ∨
      (((deep : Int) == 8) = false ∧ ((deep : Int) == 0) = true ∧ 16777215 < wt ∧ Hid (lookHead deep wt = (wt, 20))) ∨
      (((deep : Int) == 8) = false ∧ ((deep : Int) == 0) = true ∧ ¬ 16777215 < wt ∧ Hid (lookHead deep wt = (wt, 0) ∧ deep < 8)) ∨
      (((deep : Int) == 8) = false ∧ ((deep : Int) == 0) = false ∧ 16777215 < m ∧ Hid (lookHead deep wt = (m, 20))) ∨
      (((deep : Int) == 8) = false ∧ ((deep : Int) == 0) = false ∧ ¬ 16777215 < m ∧ Hid (lookHead deep wt = (m, 0) ∧ deep < 8)) := by
    have hmm := HM.out
    unfold lookHead Hid
    rw [← hmm]
    by_cases h8 : deep = 8
    · exact .inl ⟨by simp; omega, by rw [if_pos h8]⟩
    · have e8 : ((deep : Int) == 8) = false := by simp; omega
      rw [if_neg h8]
      by_cases h0 : deep = 0
      · have e0 : ((deep : Int) == 0) = true := by simp; omega
        rw [if_pos h0]
        by_cases hb : 16777215 < wt
        · exact .inr (.inl ⟨e8, e0, hb, by rw [if_pos hb]⟩)
        · exact .inr (.inr (.inl ⟨e8, e0, hb, by rw [if_neg hb], by omega⟩))
      · have e0 : ((deep : Int) == 0) = false := by simp; omega
        rw [if_neg h0]
        by_cases hb : 16777215 < m
        · exact .inr (.inr (.inr (.inl ⟨e8, e0, hb, by rw [if_pos hb]⟩)))
        · exact .inr (.inr (.inr (.inr ⟨e8, e0, hb, by rw [if_neg hb], by omega⟩)))
  have hwm : wt + It.wholes l ≤ 1125899906842624 := by have := HM.out; omega
  have hn63 : n2 ≤ 1125899906842624 := by
    have h1 := It.length_le_wholes l
    rcases SliceAt.split HIS.out with ⟨_, h2⟩ | ⟨_, _, _, h2, _⟩ <;> omega
  rcases hcases with ⟨e8, HH⟩ | ⟨e8, e0, hb, HH⟩ | ⟨e8, e0, hb, HH⟩ | ⟨e8, e0, hb, HH⟩ | ⟨e8, e0, hb, HH⟩
  all_goals
    try (have hbz : decide ((16777215 : Int) < (wt : Int)) = true := by simp; omega)
    try (have hbz : decide ((16777215 : Int) < (wt : Int)) = false := by simp; omega)
    try (have hbz : decide ((16777215 : Int) < (m : Int)) = true := by simp; omega)
    try (have hbz : decide ((16777215 : Int) < (m : Int)) = false := by simp; omega)
    go_enter Try.func69, Try.ntmps69
    go_wp2
    go_loopw [6] (fun i wr => ∃ k m0 e0 : Nat, i = .int .i64 k ∧ k ≤ n2 ∧ Hid (LSt w lb #[.bool true, .slice a 0 c, .slice a2 n2 c2] wr m0 e0) ∧ m0 + It.wholes (l.drop k) ≤ 1125899906842624 ∧ Hid (e0 = 0 → deep < 8) ∧ Hid (lookOn (l.drop k) (deep + 1) (m0, e0) = (It.list l).look deep wt)) (fun i _ => n2 - (intOf i).toNat)
    case atStart =>
      have hk := HK.out
      first
        | exact ⟨0, wt, 21, rfl, Nat.zero_le _, HX.out _ wt 21 ((Chg.refl (fun k => k = lb) w).at1 (i := 1) _) (by simp) (heap_setCell_same _ _ _ _ _ _ hk), hwm, fun h => by omega, by show _ = _; rw [look_list_eq, HH.out]; rfl⟩
        | exact ⟨0, wt, 20, rfl, Nat.zero_le _, HX.out _ wt 20 ((Chg.refl (fun k => k = lb) w).at1 (i := 1) _) (by simp) (heap_setCell_same _ _ _ _ _ _ hk), hwm, fun h => by omega, by show _ = _; rw [look_list_eq, HH.out]; rfl⟩
        | exact ⟨0, wt, 0, rfl, Nat.zero_le _, HX.out _ wt 0 (Chg.refl (fun k => k = lb) w) rfl hk, hwm, fun _ => HH.out.2, by show _ = _; rw [look_list_eq, HH.out.1]; rfl⟩
        | exact ⟨0, m, 20, rfl, Nat.zero_le _, HX.out _ m 20 (((Chg.refl (fun k => k = lb) w).at1 (i := 0) _).at1 (i := 1) _) (by simp) (heap_setCell_same _ _ _ _ _ _ (heap_setCell_same _ _ _ _ _ _ hk)), hmb, fun h => by omega, by show _ = _; rw [look_list_eq, HH.out]; rfl⟩
        | exact ⟨0, m, 0, rfl, Nat.zero_le _, HX.out _ m 0 ((Chg.refl (fun k => k = lb) w).at1 (i := 0) _) (by simp) (heap_setCell_same _ _ _ _ _ _ hk), hmb, fun _ => HH.out.2, by show _ = _; rw [look_list_eq, HH.out.1]; rfl⟩
    case round =>
      obtain ⟨k, m1, e1, rfl, hk, HL, hb1, HD8, HO⟩ := hrel
      have hL := HL.out
      obtain ⟨b0, b1, b2⟩ := cells3 hL.box
      obtain ⟨p0, p1⟩ := cells2 hL.at_
      have hfr := frozen_of_row wr lb 0 _ _ hL.at_
      have hlr : lb < wr.heap.size := (Array.getElem?_eq_some_iff.1 hL.at_).1
      have hsz : w.heap.size < wr.heap.size := (Array.getElem?_eq_some_iff.1 hL.box).1
      have hn2 : n2 = l.length := by
        rcases SliceAt.split HIS.out with ⟨h1, h2⟩ | ⟨_, _, _, h2, _⟩
        · rw [h1, h2]; rfl
        · exact h2
      clear hL
      by_cases hlt : k < n2
      · by_cases he : e1 = 0
        · subst he
          have hki : k < l.length := by omega
          rcases SliceAt.split HIS.out with ⟨h1, h2⟩ | ⟨b, o, rfl, -, -, hFb⟩
          · omega
          have HN2 := Lib.hid hn2
          clear hn2
          have his' : ItemsAt F wr d (.slice (some ⟨b, o, none⟩) n2 c2) l := ItemsAt.carry HIS.out (fun _ _ x => x) (fun g hg hlt' => (HL.out).chg.block g hlt' (fun e => hF (e ▸ hg)))
          obtain ⟨y1, z1, t1, y2, z2, t2, c0, c1, c2', hit⟩ := ItemsAt.cell his' k hki
          obtain ⟨y, hy⟩ : ∃ y, y = l[k] := ⟨_, rfl⟩
          rw [← hy] at c0 hit
          have hdrop : l.drop k = y :: l.drop (k + 1) := by rw [hy]; exact List.drop_eq_getElem_cons hki
          have hbw : m1 + y.whole + It.wholes (l.drop (k + 1)) ≤ 1125899906842624 := by
            rw [hdrop] at hb1; simp only [It.wholes] at hb1; omega
          have HO2 : Hid (lookOn (l.drop (k + 1)) (deep + 1) (y.look (deep + 1) m1) = (It.list l).look deep wt) := by
            have := HO.out
            rwa [hdrop, lookOn_cons] at this
          have hd8 := HD8.out rfl
          clear hy hdrop his' HO hb1
          go_wp2_with fail
          rw [show ((deep : Int) + 1) = ((deep + 1 : Nat) : Int) from rfl]
          refine (HD.out F _ lb y _ _ _ (deep + 1) m1 hit (HL.out).at_ hF (by omega) (by omega)).mono ?_
          rintro e w5 ⟨rfl, hat, hch⟩
          have hle := It.look_le y (deep + 1) m1
          have HL5 : Hid (LSt w lb #[.bool true, .slice a 0 c, .slice (some ⟨b, o, none⟩) n2 c2] w5 (y.look (deep + 1) m1).1 (y.look (deep + 1) m1).2) :=
            ⟨hat, by rw [hch.block _ hsz (fun e => hne e.symm)]; exact (HL.out).box, (HL.out).chg.trans hch (fun _ _ x => x)⟩
          clear hat hch
          go_wp2_with fail
          go_roundw
          case rel =>
            first
              | exact ⟨k + 1, _, _, num_eq (by omega), by omega, HL5, by omega, fun _ => hd8, HO2⟩
              | ((repeat apply Exists.intro); exact ⟨⟨k + 1, _, _, num_eq (by omega), by omega, HL5, by omega, fun _ => hd8, HO2⟩, rfl⟩)
          case measure => simp [intOf]; omega
        · have he' : ((e1 : Int) == 0) = false := by simp; omega
          go_wp2
          go_end0
          have := HO.out
          rw [lookOn_bad _ _ _ _ he] at this
          exact ⟨rfl, by rw [← this]; exact (HL.out).at_, (HL.out).chg⟩
      · go_wp2
        go_end0
        have := HO.out
        rw [List.drop_eq_nil_of_le (by omega), lookOn_nil] at this
        exact ⟨rfl, by rw [← this]; exact (HL.out).at_, (HL.out).chg⟩

end Go.Proofs.Ytndkkgkcbbmnpaa
