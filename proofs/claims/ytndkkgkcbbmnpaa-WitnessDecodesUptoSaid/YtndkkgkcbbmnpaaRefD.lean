/-
  Contract of pergolaref02.size.
-/
import Derived.Test.YtndkkgkcbbmnpaaRefC
namespace Go.Pg
def capSz (n : Nat) : Nat := if 16777215 < n then n else sz n
mutual
/-- how many bytes an encoding has; where a body has too many, just that -/
def It.rsize : It → Nat
  | .text b => if plainB b then 1 else capSz b.length
  | .list l => capSz (It.rsizes l)
def It.rsizes : List It → Nat
  | [] => 0
  | x :: r => It.rsize x + It.rsizes r
end
theorem capSz_le (n : Nat) : n ≤ capSz n ∧ capSz n ≤ sz n := by
  unfold capSz; split
  · have := sz_ge n; omega
  · have := sz_ge n; omega
theorem sz_mono_le (n m : Nat) (h : n ≤ m) (hm : m < 256 ^ 8) : sz n ≤ m + 9 := by
  unfold sz; split
  · omega
  · have := number_le 8 n (by omega); omega
theorem It.rsizes_append (l m : List It) : It.rsizes (l ++ m) = It.rsizes l + It.rsizes m := by
  induction l with
  | nil => simp [It.rsizes]
  | cons x r ih => simp only [List.cons_append, It.rsizes, ih]; omega
theorem It.rsizes_take_succ (l : List It) (k : Nat) (h : k < l.length) : It.rsizes (l.take (k + 1)) = It.rsizes (l.take k) + l[k].rsize := by
  rw [List.take_succ_eq_append_getElem h, It.rsizes_append]; simp [It.rsizes]
mutual
/-- small: exact; else too many either way -/
theorem It.rsize_or : ∀ x : It, (x.body ≤ 16777215 ∧ x.rsize = x.whole) ∨ (16777215 < x.body ∧ 16777215 < x.rsize)
  | .text b => by
    simp only [It.body, It.rsize, It.whole]
    by_cases hp : plainB b = true
    · rw [if_pos hp, if_pos hp]
      have : b.length = 1 := by simp [plainB] at hp; exact hp.1
      exact .inl ⟨by omega, rfl⟩
    · rw [if_neg hp, if_neg hp]
      unfold capSz
      by_cases hb : 16777215 < b.length
      · rw [if_pos hb]; exact .inr ⟨hb, hb⟩
      · rw [if_neg hb]; exact .inl ⟨by omega, rfl⟩
  | .list l => by
    simp only [It.body, It.rsize, It.whole]
    rcases It.rsizes_or l with ⟨h1, h2⟩ | ⟨h1, h2⟩
    · rw [h2]; unfold capSz; rw [if_neg (by omega)]; exact .inl ⟨h1, rfl⟩
    · have := (capSz_le (It.rsizes l)).1; exact .inr ⟨h1, by omega⟩
theorem It.rsizes_or : ∀ l : List It, (It.wholes l ≤ 16777215 ∧ It.rsizes l = It.wholes l) ∨ (16777215 < It.wholes l ∧ 16777215 < It.rsizes l)
  | [] => .inl ⟨by simp [It.wholes], rfl⟩
  | x :: r => by
    simp only [It.wholes, It.rsizes]
    have hw := It.body_le_whole x
    rcases It.rsize_or x with ⟨h1, h2⟩ | ⟨h1, h2⟩
    · rcases It.rsizes_or r with ⟨h3, h4⟩ | ⟨h3, h4⟩
      · rw [h2, h4]; omega
      · right; omega
    · right; omega
end
mutual
theorem It.rsize_le : ∀ x : It, x.rsize ≤ x.whole
  | .text b => by
    simp only [It.rsize, It.whole]
    split
    · omega
    · exact (capSz_le _).2
  | .list l => by
    simp only [It.rsize, It.whole]
    rcases It.rsizes_or l with ⟨h1, h2⟩ | ⟨h1, h2⟩
    · rw [h2]; exact (capSz_le _).2
    · have := It.rsizes_le l
      unfold capSz; rw [if_pos h2]
      have := sz_ge (It.wholes l); omega
theorem It.rsizes_le : ∀ l : List It, It.rsizes l ≤ It.wholes l
  | [] => Nat.le_refl _
  | x :: r => by simp only [It.rsizes, It.wholes]; have := It.rsize_le x; have := It.rsizes_le r; omega
end
end Go.Pg
namespace Go.Proofs.Ytndkkgkcbbmnpaa
open Go.RowKit Go.Pg

def RSizeC (d : Nat) : Prop := ∀ (F : Nat → Prop) (w : World) (x : It) (l : Bool) (v1 v2 : Value), ItemAt F w d [.bool l, v1, v2] x → x.whole ≤ 70368744177664 →
  Calls Try.prog 75 #[.agg #[.bool l, v1, v2]] w fun e w' => e = .returned (.int .i64 x.rsize) ∧ Below w.heap.size w w'

set_option maxRecDepth 100000 in
set_option maxHeartbeats 1000000 in
theorem rsize_plain (w : World) (g o c : Nat) (x : UInt8) (v2 : Value) (hc : w.cell? ⟨g, o, none⟩ = some (.int .u8 (x.toNat : Int))) (hx : x.toNat < 128) :
    Calls Try.prog 75 #[.agg #[.bool false, .slice (some ⟨g, o, none⟩) 1 c, v2]] w fun e w' => e = .returned (.int .i64 1) ∧ Below w.heap.size w w' := by
  have hg := cell_lt hc
  have hx' : (x.toNat : Int) < 128 := by omega
  go_enter Try.func75, Try.ntmps75
  go_wp2
  go_ret
  exact ⟨rfl, Bel.alloc (Bel.refl w) _⟩

set_option maxRecDepth 100000 in
set_option maxHeartbeats 1000000 in
theorem rsize_text (w : World) (a a2 : Option Addr) (n c c2 : Nat) (hn : n ≤ 70368744177664) (ht : n = 1 → ∃ g o x, a = some ⟨g, o, none⟩ ∧ w.cell? ⟨g, o, none⟩ = some (.int .u8 ((x : UInt8).toNat : Int)) ∧ 128 ≤ x.toNat) :
    Calls Try.prog 75 #[.agg #[.bool false, .slice a n c, .slice a2 0 c2]] w fun e w' => e = .returned (.int .i64 (capSz n)) ∧ Below w.heap.size w w' := by
  have hcase : (∃ g o x, n = 1 ∧ a = some ⟨g, o, none⟩ ∧ w.cell? ⟨g, o, none⟩ = some (.int .u8 ((x : UInt8).toNat : Int)) ∧ g < w.heap.size ∧ ¬ (x.toNat : Int) < 128) ∨ ((n : Int) == 1) = false := by
    by_cases h1 : n = 1
    · obtain ⟨g, o, x, h2, hc, hx⟩ := ht h1
      exact .inl ⟨g, o, x, h1, h2, hc, cell_lt hc, by omega⟩
    · exact .inr (by simp; omega)
  clear ht
  obtain ⟨hd, hhd⟩ : ∃ hd, hd = headB 0 n := ⟨_, rfl⟩
  have hcs : capSz n = if 16777215 < n then n else n + hd.length := by
    unfold capSz; split
    · rfl
    · have := headB_length 0 n; rw [hhd]; omega
  have hdl : hd.length ≤ 16 := by
    have h1 := headB_length 0 n
    have h2 : sz n ≤ n + 9 := sz_mono_le n n (Nat.le_refl _) (by omega)
    rw [hhd]; omega
  have HHD := Lib.hid hhd
  clear hhd
  have HCS := Lib.hid hcs
  clear hcs
  by_cases hbig : (16777215 : Int) < (n : Int)
  · have h1 : ((n : Int) == 1) = false := by simp; omega
    go_enter Try.func75, Try.ntmps75
    go_wp2
    refine wp_loop_rounds 1 ?_
    rw [rounds_succ]
    go_wp2_with fail
    go_ret
    exact ⟨ret_int (by rw [HCS.out, if_pos (by omega)]), Bel.alloc (Bel.refl w) _⟩
  · rcases hcase with ⟨g, o, x, rfl, rfl, hc, hg, hx⟩ | h1
    all_goals
      go_enter Try.func75, Try.ntmps75
      go_wp2
      refine wp_loop_rounds 1 ?_
      rw [rounds_succ]
      go_wp2_with fail
      refine (head_int _ _ 0 _ _ rfl rfl (by omega) (by first | omega | exact (show (1 : Nat) < 16777216 by omega))).mono ?_
      rintro e w3 ⟨v3, rfl, ho3, hb3⟩
      rw [← HHD.out] at ho3
      obtain ⟨a3, c3, rfl, -, -, -⟩ := ho3.len
      have HB := Lib.hid (Bel.call (Bel.alloc (Bel.refl w) _) hb3)
      clear ho3 hb3
      go_wp2_with fail
      go_ret
      exact ⟨ret_int (by rw [HCS.out]; first | (rw [if_neg (by omega)]; omega) | (rw [if_neg (show ¬ 16777215 < 1 by omega)]; omega)), HB.out⟩

set_option maxRecDepth 100000 in
set_option maxHeartbeats 1000000 in
theorem rsize_list {d : Nat} (hd0 : RSizeC d) (F : Nat → Prop) (w : World) (a a2 : Option Addr) (c n2 c2 : Nat) (l : List It) (his : ItemsAt F w d (.slice a2 n2 c2) l) (hw : It.wholes l ≤ 70368744177664) :
    Calls Try.prog 75 #[.agg #[.bool true, .slice a 0 c, .slice a2 n2 c2]] w fun e w' => e = .returned (.int .i64 (capSz (It.rsizes l))) ∧ Below w.heap.size w w' := by
  have hn2 : n2 = l.length := by
    rcases SliceAt.split his with ⟨h1, h2⟩ | ⟨_, _, _, h2, _⟩
    · rw [h1, h2]; rfl
    · exact h2
  have hn63 : n2 ≤ 70368744177664 := by have := It.length_le_wholes l; omega
  have hrs := It.rsizes_le l
  have HN2 := Lib.hid hn2
  have HD := Lib.hid hd0
  have HW := Lib.hid hw
  have HRS := Lib.hid hrs
  clear hn2 hd0 hw hrs
  go_enter Try.func75, Try.ntmps75
  go_wp2
  go_loopw [3, 4] (fun s i wr => ∃ k m : Nat, k ≤ n2 ∧ i = .int .i64 k ∧ s = .int .i64 m ∧ Hid (m = It.rsizes (l.take k)) ∧
      Hid (Below w.heap.size w wr ∧ wr.heap[w.heap.size]? = some (.cells #[.bool true, .slice a 0 c, .slice a2 n2 c2] 65 (0, 0)))) (fun _ i _ => n2 - (intOf i).toNat)
  case atStart => exact ⟨0, 0, Nat.zero_le _, rfl, rfl, by show _ = _; simp [It.rsizes], Bel.alloc (Bel.refl w) _, heap_alloc_new w _⟩
  case round =>
    obtain ⟨k, m, hk, rfl, rfl, HM, HB⟩ := hrel
    obtain ⟨q0, q1, q2⟩ := cells3 HB.out.2
    have hsr := (Array.getElem?_eq_some_iff.1 HB.out.2).1
    have hN := HN2.out
    have htl : It.rsizes (l.take k) ≤ It.rsizes l := by
      have := It.rsizes_append (l.take k) (l.drop k)
      rw [List.take_append_drop] at this; omega
    have hm63 : m ≤ 70368744177664 := by have := HM.out; have := HRS.out; have := HW.out; omega
    clear htl
    by_cases hlt : k < n2
    · have hki : k < l.length := by omega
      rcases SliceAt.split his with ⟨h1, h2⟩ | ⟨b, o, rfl, -, -, hFb⟩
      · rw [h1] at hki; simp at hki
      have his' := ItemsAt.below his HB.out.1
      obtain ⟨y1, z1, t1, y2, z2, t2, g0, g1, g2, hit⟩ := ItemsAt.cell his' k hki
      obtain ⟨y, hy⟩ : ∃ y, y = l[k] := ⟨_, rfl⟩
      rw [← hy] at g0 hit
      have h1 := It.rsizes_take_succ l k hki
      have h2 := It.wholes_take_succ l k hki
      have h3 := It.wholes_take_le l (k + 1)
      have h4 := It.rsize_le y
      have hyw : y.whole ≤ 70368744177664 := by have := HW.out; rw [← hy] at h2; omega
      have hyr : y.rsize ≤ 70368744177664 := by omega
      have HE : Hid (m + y.rsize = It.rsizes (l.take (k + 1))) := by show _ = _; rw [h1, HM.out, ← hy]
      clear hy h1 h2 h3 h4 his' hN
      go_wp2_with fail
      refine (HD.out F wr y _ _ _ hit hyw).mono ?_
      rintro e w3 ⟨rfl, hb3⟩
      have hB3 : Below w.heap.size w w3 ∧ w3.heap[w.heap.size]? = some (.cells #[.bool true, .slice a 0 c, .slice (some ⟨b, o, none⟩) n2 c2] 65 (0, 0)) :=
        ⟨Bel.call HB.out.1 hb3, by rw [hb3.block _ hsr]; exact HB.out.2⟩
      have HB3 := Lib.hid hB3
      clear hB3 hb3 hit
      go_wp2_with fail
      go_roundw
      case rel => exact ⟨k + 1, m + y.rsize, by omega, num_eq (by omega), num_eq (by omega), HE, HB3.out⟩
      case measure => simp [intOf]; omega
    · obtain rfl : k = n2 := by omega
      have hm := HM.out
      rw [List.take_of_length_le (by omega)] at hm
      have HM' := Lib.hid hm
      obtain ⟨hd, hhd⟩ : ∃ hd, hd = headB 0 m := ⟨_, rfl⟩
      have hcs : capSz m = if 16777215 < m then m else m + hd.length := by
        unfold capSz; split
        · rfl
        · have := headB_length 0 m; rw [hhd]; omega
      have hdl : hd.length ≤ 16 := by
        have h1 := headB_length 0 m
        have h2 : sz m ≤ m + 9 := sz_mono_le m m (Nat.le_refl _) (by omega)
        rw [hhd]; omega
      have HHD := Lib.hid hhd
      have HCS := Lib.hid hcs
      clear hhd hcs hm
      by_cases hbig : (16777215 : Int) < (m : Int)
      · go_wp2_with fail
        go_ret
        exact ⟨ret_int (by rw [← HM'.out, HCS.out, if_pos (by omega)]), HB.out.1⟩
      · go_wp2_with fail
        refine (head_int _ _ 0 m _ rfl rfl (by omega) (by omega)).mono ?_
        rintro e w3 ⟨v3, rfl, ho3, hb3⟩
        rw [← HHD.out] at ho3
        obtain ⟨a3, c3, rfl, -, -, -⟩ := ho3.len
        have HB3 := Lib.hid (Bel.call HB.out.1 hb3)
        clear ho3 hb3
        go_wp2_with fail
        go_ret
        exact ⟨ret_int (by rw [← HM'.out, HCS.out, if_neg (by omega)]; omega), HB3.out⟩

theorem rsize_any (d : Nat) : RSizeC d := by
  induction d with
  | zero => intro F w x l v1 v2 h; exact h.elim
  | succ d ih =>
    intro F w x l v1 v2 h hx
    obtain ⟨u1, u2, h1, h2, h3⟩ := h
    simp only [List.cons.injEq, Value.bool.injEq, and_true] at h1
    obtain ⟨rfl, rfl, rfl⟩ := h1
    obtain ⟨a, c, rfl, -, -, -⟩ := SliceAt.len h2
    obtain ⟨a2, c2, rfl, -, -, -⟩ := SliceAt.len h3
    cases x with
    | list l =>
      have hwb : It.wholes l + 1 ≤ (It.list l).whole := by simp only [It.whole]; exact sz_ge _
      exact rsize_list ih F w a a2 c _ c2 l h3 (by omega)
    | text b =>
      simp only [It.isList, It.bytes, It.items, It.rsize] at h2 ⊢
      have hbw := It.body_le_whole (.text b)
      simp only [It.body] at hbw
      by_cases hp : plainB b = true
      · rw [if_pos hp]
        simp only [plainB, Bool.and_eq_true, beq_iff_eq, decide_eq_true_eq] at hp
        match b, hp with
        | [x], hp =>
          rcases SliceAt.split h2 with ⟨h, _⟩ | ⟨g, o, rfl, -, -, -⟩
          · cases h
          have hcell := BytesAt.cell h2 0 (by simp)
          exact rsize_plain w g o c x _ (by simpa using hcell) (by simpa using hp.2)
      · rw [if_neg hp]
        refine rsize_text w a a2 _ c c2 (by omega) fun h1 => ?_
        match b, h1 with
        | [x], _ =>
          rcases SliceAt.split h2 with ⟨h, _⟩ | ⟨g, o, rfl, -, -, -⟩
          · cases h
          have hcell := BytesAt.cell h2 0 (by simp)
          exact ⟨g, o, x, rfl, by simpa using hcell, by simp [plainB] at hp; omega⟩
end Go.Proofs.Ytndkkgkcbbmnpaa
