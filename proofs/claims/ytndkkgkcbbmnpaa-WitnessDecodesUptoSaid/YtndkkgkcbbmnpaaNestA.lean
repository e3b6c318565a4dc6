/-
  Contracts of nest.plain, nest.number, nest.body, nest.whole.
-/
import Derived.Test.YtndkkgkcbbmnpaaItem
import Derived.Test.YtndkkgkcbbmnpaaProg
namespace Go.Proofs.Ytndkkgkcbbmnpaa
open Go.RowKit Go.Pg

set_option maxHeartbeats 400000 in
theorem number_any (n : Nat) (w : World) (hn : n ≤ 1152921504606846976) :
    Calls Try.prog 92 #[.int .i64 n] w fun e w' => e = .returned (.int .i64 (number n)) ∧ w = w' := by
  have hnum := number_le 8 n (by omega)
  have HN := Lib.hid hnum
  clear hnum
  go_enter Try.func92, Try.ntmps92
  go_wp2
  go_loop [0, 3] (fun a i => ∃ m k : Nat, m ≤ n ∧ a = .int .i64 m ∧ i = .int .i64 k ∧ Hid (number n = k + number m)) (fun a _ => (intOf a).toNat)
  case atStart => exact ⟨n, 0, Nat.le_refl _, rfl, rfl, by show _ = _; omega⟩
  case round =>
    obtain ⟨m, k, hm, rfl, rfl, HE⟩ := hrel
    have hk : k ≤ 8 := by have := HN.out; have := HE.out; omega
    by_cases h0 : 0 < m
    · go_wp2
      go_round
      case rel => exact ⟨m / 256, k + 1, by omega, by go_num, by go_num, by have := HE.out; show _ = _; rw [this, number_pos h0]; omega⟩
      case measure => simp [intOf]; omega
    · obtain rfl : m = 0 := by omega
      go_wp2
      go_ret
      have h1 := HE.out
      rw [number_zero] at h1
      exact ⟨by rw [h1]; rfl, rfl⟩

set_option maxHeartbeats 400000 in
theorem plain_list (v1 v2 : Value) (w : World) :
    Calls Try.prog 91 #[.agg #[.bool true, v1, v2]] w fun e w' => e = .returned (.bool false) ∧ Below w.heap.size w w' := by
  go_enter Try.func91, Try.ntmps91
  go_wp2
  go_ret
  exact ⟨rfl, (Below.refl _ _).alloc (Nat.le_refl _) _⟩
set_option maxHeartbeats 400000 in
theorem plain_long (a : Option Addr) (n c : Nat) (v2 : Value) (w : World) (hn : ((n : Int) == 1) = false) :
    Calls Try.prog 91 #[.agg #[.bool false, .slice a n c, v2]] w fun e w' => e = .returned (.bool false) ∧ Below w.heap.size w w' := by
  go_enter Try.func91, Try.ntmps91
  go_wp2
  go_ret
  exact ⟨rfl, (Below.refl _ _).alloc (Nat.le_refl _) _⟩
set_option maxHeartbeats 400000 in
theorem plain_one (b o c : Nat) (x : UInt8) (v2 : Value) (w : World) (hc : w.cell? ⟨b, o, none⟩ = some (.int .u8 (x.toNat : Int))) (hb : b < w.heap.size) :
    Calls Try.prog 91 #[.agg #[.bool false, .slice (some ⟨b, o, none⟩) 1 c, v2]] w fun e w' => e = .returned (.bool (decide (x.toNat < 128))) ∧ Below w.heap.size w w' := by
  go_enter Try.func91, Try.ntmps91
  go_wp2
  go_ret
  exact ⟨ret_bool (by rw [Bool.eq_iff_iff]; simp; omega), (Below.refl _ _).alloc (Nat.le_refl _) _⟩
theorem plain_any {F : Nat → Prop} {w : World} {d : Nat} {l : Bool} {v1 v2 : Value} {x : It} (h : ItemAt F w d [.bool l, v1, v2] x) :
    Calls Try.prog 91 #[.agg #[.bool l, v1, v2]] w fun e w' => e = .returned (.bool x.plain) ∧ Below w.heap.size w w' := by
  cases d with
  | zero => exact h.elim
  | succ d =>
    obtain ⟨u1, u2, h1, h2, h3⟩ := h
    simp only [List.cons.injEq, Value.bool.injEq, and_true] at h1
    obtain ⟨rfl, rfl, rfl⟩ := h1
    cases x with
    | list l => exact plain_list _ _ _
    | text b =>
      obtain ⟨a, c, rfl, hlc, hcm, hac⟩ := SliceAt.len h2
      simp only [It.plain, It.bytes, It.isList] at h2 ⊢
      by_cases hb : b.length = 1
      · match b, hb with
        | [x], _ =>
          rcases SliceAt.cases h2 with ⟨h, _⟩ | ⟨bb, o, c', hv, _, _, _, _⟩
          · cases h
          · simp only [Value.slice.injEq] at hv
            obtain ⟨rfl, _, rfl⟩ := hv
            have hc := BytesAt.cell h2 0 (by simp)
            have := plain_one bb o c x v2 w (by simpa using hc) (cell_lt hc)
            simpa [plainB] using this
      · have h0 : plainB b = false := by simp [plainB, hb]
        rw [h0]
        exact plain_long _ _ _ _ _ (by simp; omega)

def BodyC (d : Nat) : Prop := ∀ (F : Nat → Prop) (w : World) (x : It) (l : Bool) (v1 v2 : Value), ItemAt F w d [.bool l, v1, v2] x → x.body ≤ 1152921504606846976 →
  Calls Try.prog 70 #[.agg #[.bool l, v1, v2]] w fun e w' => e = .returned (.int .i64 x.body) ∧ Below w.heap.size w w'
def WholeC (d : Nat) : Prop := ∀ (F : Nat → Prop) (w : World) (x : It) (l : Bool) (v1 v2 : Value), ItemAt F w d [.bool l, v1, v2] x → x.whole ≤ 1152921504606846976 →
  Calls Try.prog 90 #[.agg #[.bool l, v1, v2]] w fun e w' => e = .returned (.int .i64 x.whole) ∧ Below w.heap.size w w'

set_option maxHeartbeats 400000 in
theorem body_none (l : Bool) (a a2 : Option Addr) (n c c2 : Nat) (w : World) :
    Calls Try.prog 70 #[.agg #[.bool l, .slice a n c, .slice a2 0 c2]] w fun e w' => e = .returned (.int .i64 n) ∧ Below w.heap.size w w' := by
  go_enter Try.func70, Try.ntmps70
  go_wp2
  go_rounds 1
  go_ret
  exact ⟨rfl, (Below.refl _ _).alloc (Nat.le_refl _) _⟩

set_option maxHeartbeats 400000 in
theorem body_some {d : Nat} (hw : WholeC d) (F : Nat → Prop) (w : World) (l : Bool) (a : Option Addr) (b o n c c2 : Nat) (is : List It)
    (his : ItemsAt F w d (.slice (some ⟨b, o, none⟩) is.length c2) is) (hn : n + It.wholes is ≤ 1152921504606846976) (hl63 : is.length ≤ 1152921504606846976) :
    Calls Try.prog 70 #[.agg #[.bool l, .slice a n c, .slice (some ⟨b, o, none⟩) is.length c2]] w fun e w' => e = .returned (.int .i64 (n + It.wholes is : Nat)) ∧ Below w.heap.size w w' := by
  have HW := Lib.hid hw
  clear hw
  obtain ⟨n2, hn2⟩ : ∃ n2, n2 = is.length := ⟨_, rfl⟩
  rw [← hn2] at his hl63 ⊢
  have HN := Lib.hid hn2
  clear hn2
  go_enter Try.func70, Try.ntmps70
  go_wp2
  go_loopw [3, 5, 12] (fun s y i wr => ∃ k m : Nat, k ≤ n2 ∧ i = .int .i64 k ∧ s = .int .i64 m ∧ Hid (m = n + It.wholes (is.take k)) ∧ Below w.heap.size w wr) (fun _ _ i _ => n2 - (intOf i).toNat)
  case atStart => exact ⟨0, n, Nat.zero_le _, rfl, rfl, by show _ = _; simp [It.wholes], (Below.refl _ _).alloc (Nat.le_refl _) _⟩
  case round =>
    obtain ⟨k, m, hk, rfl, rfl, HM, hb⟩ := hrel
    have hN := HN.out
    by_cases hlt : k < n2
    · have hki : k < is.length := by omega
      have his' := ItemsAt.below his hb
      obtain ⟨a1, n1, c1, a2, n2', c2', q0, q1, q2, hit⟩ := ItemsAt.cell his' k hki
      obtain ⟨x, hx⟩ : ∃ x, x = is[k] := ⟨_, rfl⟩
      have hsum : m + x.whole ≤ 1152921504606846976 := by
        have h1 := It.wholes_take_succ is k hki
        have h2 := It.wholes_take_le is (k + 1)
        have h3 := HM.out
        rw [hx]; omega
      have HS : Hid (m + x.whole = n + It.wholes (is.take (k + 1))) := by
        have h1 := It.wholes_take_succ is k hki
        have h3 := HM.out
        show _ = _
        rw [hx]; omega
      rw [← hx] at q0 hit
      have hpos := It.whole_pos x
      clear hx his' hN his HM
      have hle : x.whole ≤ 1152921504606846976 := by omega
      go_wp2_with fail
      refine (HW.out F _ x _ _ _ ?_ hle).mono ?_
      · exact hit.below ((Below.refl _ _).alloc (Nat.le_refl _) _)
      rintro e w1 ⟨rfl, hb1⟩
      go_wp2_with fail
      go_roundw
      case rel =>
        exact ⟨k + 1, m + x.whole, by omega, num_eq (by omega), num_eq (by omega), HS, (hb.alloc hb.size _).trans (hb1.mono (by have := hb.size; simp; omega))⟩
      case measure => simp [intOf]; omega
    · obtain rfl : k = n2 := by omega
      go_wp2
      go_ret
      have h3 := HM.out
      rw [List.take_of_length_le (by omega)] at h3
      exact ⟨ret_int (by rw [h3]), hb⟩

theorem body_step {d : Nat} (hw : WholeC d) : BodyC (d + 1) := by
  intro F w x l v1 v2 h hx
  obtain ⟨u1, u2, h1, h2, h3⟩ := h
  simp only [List.cons.injEq, Value.bool.injEq, and_true] at h1
  obtain ⟨rfl, rfl, rfl⟩ := h1
  obtain ⟨a, c, rfl, _⟩ := SliceAt.len h2
  rcases SliceAt.cases h3 with ⟨he, a2, c2, rfl, _⟩ | ⟨b, o, c2, rfl, hl, _, _, _⟩
  · have e : x.body = x.bytes.length := by rw [It.body_eq, he]; simp [It.wholes]
    rw [e]
    exact body_none _ _ _ _ _ _ _
  · rw [It.body_eq] at hx ⊢
    have hlen : x.items.length ≤ It.wholes x.items := by
      generalize x.items = l
      induction l with
      | nil => simp
      | cons y r ih => have := It.whole_pos y; simp only [List.length_cons, It.wholes]; omega
    exact body_some hw F w _ _ _ _ _ _ _ _ h3 hx (by omega)

set_option maxHeartbeats 400000 in
theorem whole_step {d : Nat} (hb : BodyC d) : WholeC d := by
  intro F w x l v1 v2 h hx
  obtain ⟨rfl, a1, n1, c1, a2, n2, c2, rfl, rfl, -, -⟩ := ItemAt.form h
  have hwe := It.whole_eq x
  by_cases hpl : x.plain = true
  · rw [if_pos hpl] at hwe
    rw [hwe]
    clear hwe hx hb
    go_enter Try.func90, Try.ntmps90
    go_wp2_with fail
    refine (plain_any (F := F) (d := d) (x := x) ?_).mono ?_
    · exact h.below ((Below.refl _ _).alloc (Nat.le_refl _) _)
    rintro e w1 ⟨rfl, hb1⟩
    go_wp2_with fail
    go_ret
    exact ⟨rfl, ((Below.refl _ _).alloc (Nat.le_refl _) _).trans (hb1.mono (by simp))⟩
  · rw [if_neg hpl] at hwe
    have hpl' : x.plain = false := by simpa using hpl
    rw [hwe]
    have hbw := It.body_le_whole x
    have HB := Lib.hid hb
    have HE := Lib.hid hwe
    clear hb hwe hpl
    obtain ⟨n, hn⟩ : ∃ n, n = x.body := ⟨_, rfl⟩
    have HN := Lib.hid hn
    have hle : n ≤ 1152921504606846976 := by omega
    rw [← hn]
    clear hn hbw
    by_cases h55 : n ≤ 55
    all_goals
      go_enter Try.func90, Try.ntmps90
      go_wp2_with fail
      refine (plain_any (F := F) (d := d) (x := x) ?_).mono ?_
      · exact h.below ((Below.refl _ _).alloc (Nat.le_refl _) _)
      rintro e w1 ⟨rfl, hb1⟩
      obtain ⟨hc, hf⟩ := bcell hb1
      go_wp2_with fail
      refine (HB.out F _ x _ _ _ ?_ ?_).mono ?_
      · exact ItemAt.below (h.below ((Below.refl _ _).alloc (Nat.le_refl _) _)) hb1
      · rw [← HN.out]; exact hle
      rintro e w2 ⟨rfl, hb2⟩
      rw [← HN.out]
      have hbel := Bel.call (Bel.call (Bel.alloc (Bel.refl w) _) hb1) hb2
      clear hb1 hb2 HE h HB hc hf
      go_wp2_with fail
      first
        | (go_ret; exact ⟨ret_int (by unfold sz; rw [if_pos h55]; omega), hbel⟩)
        | (refine (number_any n _ hle).mono ?_
           rintro e w3 ⟨rfl, rfl⟩
           have hnum := number_le 8 n (by omega)
           go_wp2_with fail
           go_ret
           exact ⟨ret_int (by unfold sz; rw [if_neg h55]; omega), hbel⟩)
theorem sizes (d : Nat) : BodyC d ∧ WholeC d := by
  induction d with
  | zero => exact ⟨fun _ _ _ _ _ _ h => h.elim, fun _ _ _ _ _ _ h => h.elim⟩
  | succ d ih => have hb := body_step ih.2; exact ⟨hb, whole_step hb⟩
theorem body_any (d : Nat) : BodyC d := (sizes d).1
theorem whole_any (d : Nat) : WholeC d := (sizes d).2

end Go.Proofs.Ytndkkgkcbbmnpaa
