/-
  Contract of pergolaref02.walk.
-/
import Derived.Test.YtndkkgkcbbmnpaaRefD
import Derived.Test.YtndkkgkcbbmnpaaNestD
namespace Go.Proofs.Ytndkkgkcbbmnpaa
open Go.RowKit Go.Pg

def Walked (w : World) (r : Nat × Nat) (e : Ending) (w' : World) : Prop :=
  e = .returned (.tuple #[.int .i64 r.1, .int .i64 r.2]) ∧ Below w.heap.size w w'
def RWalkC (d : Nat) : Prop := ∀ (F : Nat → Prop) (w : World) (x : It) (l : Bool) (v1 v2 : Value) (deep wt : Nat), ItemAt F w d [.bool l, v1, v2] x → deep ≤ 8 → wt + x.whole ≤ 1125899906842624 →
  Calls Try.prog 74 #[.agg #[.bool l, v1, v2], .int .i64 deep, .int .i64 wt] w (Walked w (x.look deep wt))

set_option maxRecDepth 100000 in
set_option maxHeartbeats 1000000 in
theorem rwalk_text (w : World) (b : List UInt8) (a a2 : Option Addr) (c c2 : Nat) (deep wt : Nat) (hw : wt + (It.text b).whole ≤ 1125899906842624) :
    Calls Try.prog 74 #[.agg #[.bool false, .slice a b.length c, .slice a2 0 c2], .int .i64 deep, .int .i64 wt] w (Walked w ((It.text b).look deep wt)) := by
  obtain ⟨n, hn⟩ : ∃ n, n = b.length := ⟨_, rfl⟩
  rw [← hn]
  have hnw : n ≤ (It.text b).whole := by rw [hn]; exact It.body_le_whole (.text b)
  have hpos := It.whole_pos (.text b)
  have HN := Lib.hid hn
  obtain ⟨m, hm⟩ : ∃ m : Nat, m = wt + max n 1 := ⟨_, rfl⟩
  have hmb : m ≤ 1125899906842624 := by omega
  have hlk : (It.text b).look deep wt = (m, if 16777215 < m then 20 else 0) := by
    simp only [It.look, ← hn, ← hm]; split <;> rfl
  have HL := Lib.hid hlk
  have hcase : ((1 : Int) < (n : Int) ∧ (wt : Int) + (n : Int) = (m : Int)) ∨ (¬ (1 : Int) < (n : Int) ∧ (wt : Int) + 1 = (m : Int)) := by omega
  clear hm hn hnw hpos hw hlk
  rcases hcase with ⟨h1, h2⟩ | ⟨h1, h2⟩
  all_goals
    by_cases hbig : (16777215 : Int) < (m : Int)
    all_goals
      go_enter Try.func74, Try.ntmps74
      go_wp2
      first
        | (go_ret2; exact ⟨by rw [HL.out, if_pos (by omega)]; rfl, Bel.alloc (Bel.refl w) _⟩)
        | (go_rounds 1; go_ret2; exact ⟨by rw [HL.out, if_neg (by omega)]; rfl, Bel.alloc (Bel.refl w) _⟩)

set_option maxRecDepth 100000 in
set_option maxHeartbeats 1000000 in
theorem rwalk_list {d : Nat} (hd0 : RWalkC d) (F : Nat → Prop) (w : World) (l : List It) (a a2 : Option Addr) (c n2 c2 : Nat) (deep wt : Nat)
    (his : ItemsAt F w d (.slice a2 n2 c2) l) (hd : deep ≤ 8) (hw : wt + (It.list l).whole ≤ 1125899906842624) :
    Calls Try.prog 74 #[.agg #[.bool true, .slice a 0 c, .slice a2 n2 c2], .int .i64 deep, .int .i64 wt] w (Walked w ((It.list l).look deep wt)) := by
  have HD := Lib.hid hd0
  obtain ⟨m, hm⟩ : ∃ m : Nat, m = wt + 1 := ⟨_, rfl⟩
  have hmx : (wt : Int) + 1 = (m : Int) := by omega
  have HM := Lib.hid hm
  have hwb : It.wholes l + 1 ≤ (It.list l).whole := by simp only [It.whole]; exact sz_ge _
  have hmb : m + It.wholes l ≤ 1125899906842624 := by omega
  have hwm : wt + It.wholes l ≤ 1125899906842624 := by omega
  have hn2 : n2 = l.length := by
    rcases SliceAt.split his with ⟨h1, h2⟩ | ⟨_, _, _, h2, _⟩
    · rw [h1, h2]; rfl
    · exact h2
  have hn63 : n2 ≤ 1125899906842624 := by have := It.length_le_wholes l; omega
  have HN2 := Lib.hid hn2
  have HIS := Lib.hid his
  clear hm hd0 his hwb hw hn2
  have hcases : (((8 : Int) ≤ (deep : Int)) ∧ Hid ((It.list l).look deep wt = (wt, 21))) ∨
      (¬ ((8 : Int) ≤ (deep : Int)) ∧ ¬ (0 : Int) < (deep : Int) ∧ (16777215 : Int) < (wt : Int) ∧ Hid ((It.list l).look deep wt = (wt, 20))) ∨
      (¬ ((8 : Int) ≤ (deep : Int)) ∧ ¬ (0 : Int) < (deep : Int) ∧ ¬ (16777215 : Int) < (wt : Int) ∧ Hid (lookHead deep wt = (wt, 0))) ∨
      (¬ ((8 : Int) ≤ (deep : Int)) ∧ (0 : Int) < (deep : Int) ∧ (16777215 : Int) < (m : Int) ∧ Hid ((It.list l).look deep wt = (m, 20))) ∨
      (¬ ((8 : Int) ≤ (deep : Int)) ∧ (0 : Int) < (deep : Int) ∧ ¬ (16777215 : Int) < (m : Int) ∧ Hid (lookHead deep wt = (m, 0))) := by
    have hmm := HM.out
    rw [look_list_eq]
    unfold lookHead Hid
    rw [← hmm]
    by_cases h8 : deep = 8
    · exact .inl ⟨by omega, by rw [if_pos h8]; rfl⟩
    · rw [if_neg h8]
      by_cases h0 : deep = 0
      · rw [if_pos h0]
        by_cases hb : 16777215 < wt
        · exact .inr (.inl ⟨by omega, by omega, by omega, by rw [if_pos hb]; rfl⟩)
        · exact .inr (.inr (.inl ⟨by omega, by omega, by omega, by rw [if_neg hb]⟩))
      · rw [if_neg h0]
        by_cases hb : 16777215 < m
        · exact .inr (.inr (.inr (.inl ⟨by omega, by omega, by omega, by rw [if_pos hb]; rfl⟩)))
        · exact .inr (.inr (.inr (.inr ⟨by omega, by omega, by omega, by rw [if_neg hb]⟩)))
  rcases hcases with ⟨e8, HH⟩ | ⟨e8, e0, hb, HH⟩ | ⟨e8, e0, hb, HH⟩ | ⟨e8, e0, hb, HH⟩ | ⟨e8, e0, hb, HH⟩
  case' inl =>
    go_enter Try.func74, Try.ntmps74
    go_wp2
    go_ret2
    exact ⟨by rw [HH.out]; rfl, Bel.alloc (Bel.refl w) _⟩
  case' inr.inl =>
    go_enter Try.func74, Try.ntmps74
    go_wp2
    go_ret2
    exact ⟨by rw [HH.out]; rfl, Bel.alloc (Bel.refl w) _⟩
  case' inr.inr.inr.inl =>
    go_enter Try.func74, Try.ntmps74
    go_wp2
    go_ret2
    exact ⟨by rw [HH.out]; rfl, Bel.alloc (Bel.refl w) _⟩
  all_goals
    try (have hzd : decide (0 < deep) = false := by simp; omega)
    try (have hzd : decide (0 < deep) = true := by simp; omega)
    try (have hbz : decide ((16777215 : Int) < (wt : Int)) = false := by simp; omega)
    try (have hbz : decide ((16777215 : Int) < (m : Int)) = false := by simp; omega)
    go_enter Try.func74, Try.ntmps74
    go_wp2
    go_loopw [2, 8] (fun s i wr => ∃ k m0 : Nat, i = .int .i64 k ∧ k ≤ n2 ∧ s = .int .i64 m0 ∧ m0 + It.wholes (l.drop k) ≤ 1125899906842624 ∧ Hid (lookOn (l.drop k) (deep + 1) (m0, 0) = (It.list l).look deep wt) ∧
      Hid (Below w.heap.size w wr ∧ wr.heap[w.heap.size]? = some (.cells #[.bool true, .slice a 0 c, .slice a2 n2 c2] 65 (0, 0)))) (fun _ i _ => n2 - (intOf i).toNat)
    case atStart =>
      first
        | exact ⟨0, wt, rfl, Nat.zero_le _, rfl, hwm, by show _ = _; rw [look_list_eq, HH.out]; rfl, Bel.alloc (Bel.refl w) _, heap_alloc_new w _⟩
        | exact ⟨0, m, rfl, Nat.zero_le _, rfl, hmb, by show _ = _; rw [look_list_eq, HH.out]; rfl, Bel.alloc (Bel.refl w) _, heap_alloc_new w _⟩
    case round =>
      obtain ⟨k, m1, rfl, hk, rfl, hb1, HO, HB⟩ := hrel
      obtain ⟨q0, q1, q2⟩ := cells3 HB.out.2
      have hsr := (Array.getElem?_eq_some_iff.1 HB.out.2).1
      have hN := HN2.out
      by_cases hlt : k < n2
      · have hki : k < l.length := by omega
        rcases SliceAt.split HIS.out with ⟨h1, h2⟩ | ⟨b, o, rfl, -, -, hFb⟩
        · omega
        have his' := ItemsAt.below HIS.out HB.out.1
        obtain ⟨y1, z1, t1, y2, z2, t2, g0, g1, g2, hit⟩ := ItemsAt.cell his' k hki
        obtain ⟨y, hy⟩ : ∃ y, y = l[k] := ⟨_, rfl⟩
        rw [← hy] at g0 hit
        have hdrop : l.drop k = y :: l.drop (k + 1) := by rw [hy]; exact List.drop_eq_getElem_cons hki
        have hbw : m1 + y.whole + It.wholes (l.drop (k + 1)) ≤ 1125899906842624 := by
          rw [hdrop] at hb1; simp only [It.wholes] at hb1; omega
        have HO2 : Hid (lookOn (l.drop (k + 1)) (deep + 1) (y.look (deep + 1) m1) = (It.list l).look deep wt) := by
          have := HO.out
          rwa [hdrop, lookOn_cons] at this
        have hle := It.look_le y (deep + 1) m1
        clear hy hdrop his' HO hb1 hN
        go_wp2_with fail
        rw [show ((deep : Int) + 1) = ((deep + 1 : Nat) : Int) from rfl]
        refine (HD.out F wr y _ _ _ (deep + 1) m1 hit (by omega) (by omega)).mono ?_
        rintro e w5 ⟨rfl, hb5⟩
        obtain ⟨m2, e2, hr⟩ : ∃ m2 e2, y.look (deep + 1) m1 = (m2, e2) := ⟨_, _, rfl⟩
        rw [hr] at hle HO2 ⊢
        have hle' : m2 ≤ m1 + y.whole := hle
        clear hle
        have hB5 : Below w.heap.size w w5 ∧ w5.heap[w.heap.size]? = some (.cells #[.bool true, .slice a 0 c, .slice (some ⟨b, o, none⟩) n2 c2] 65 (0, 0)) :=
          ⟨Bel.call HB.out.1 hb5, by rw [hb5.block _ hsr]; exact HB.out.2⟩
        have HB5 := Lib.hid hB5
        clear hb5 hB5 hr hit
        by_cases he : e2 = 0
        · subst he
          go_wp2_with fail
          go_roundw
          case rel =>
            first
              | exact ⟨k + 1, m2, num_eq (by omega), by omega, rfl, by omega, HO2, HB5.out⟩
              | ((repeat apply Exists.intro); exact ⟨⟨k + 1, m2, num_eq (by omega), by omega, rfl, by omega, HO2, HB5.out⟩, rfl⟩)
          case measure => simp [intOf]; omega
        · have he' : (((e2 : Nat) : Int) != 0) = true := by simp; omega
          go_wp2_with fail
          go_ret2
          have := HO2.out
          rw [lookOn_bad _ _ _ _ he] at this
          exact ⟨by rw [← this]; rfl, HB5.out.1⟩
      · go_wp2
        go_ret2
        have := HO.out
        rw [List.drop_eq_nil_of_le (by omega), lookOn_nil] at this
        exact ⟨by rw [← this]; rfl, HB.out.1⟩

theorem rwalk_any (d : Nat) : RWalkC d := by
  induction d with
  | zero => intro F w x l v1 v2 deep wt h; exact h.elim
  | succ d ih =>
    intro F w x l v1 v2 deep wt h hd hx
    obtain ⟨u1, u2, h1, h2, h3⟩ := h
    simp only [List.cons.injEq, Value.bool.injEq, and_true] at h1
    obtain ⟨rfl, rfl, rfl⟩ := h1
    obtain ⟨a, c, rfl, -, -, -⟩ := SliceAt.len h2
    obtain ⟨a2, c2, rfl, -, -, -⟩ := SliceAt.len h3
    cases x with
    | list l => exact rwalk_list ih F w l a a2 c _ c2 deep wt h3 hd hx
    | text b => exact rwalk_text w b a a2 c c2 deep wt hx
end Go.Proofs.Ytndkkgkcbbmnpaa
