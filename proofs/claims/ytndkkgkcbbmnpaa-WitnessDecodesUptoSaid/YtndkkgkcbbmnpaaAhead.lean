/-
  Contracts of pergolaref01.Ahead, pergolaref21.rises.
-/
import Derived.Test.YtndkkgkcbbmnpaaBytes
namespace Go.Pg
theorem compareBytes_drop (bs ds : List UInt8) (k : Nat) (h1 : k < bs.length) (h2 : k < ds.length) :
    Lib.compareBytes (bs.drop k) (ds.drop k) = if bs[k] < ds[k] then -1 else if ds[k] < bs[k] then 1 else Lib.compareBytes (bs.drop (k + 1)) (ds.drop (k + 1)) := by
  rw [List.drop_eq_getElem_cons h1, List.drop_eq_getElem_cons h2]; rfl
theorem compareBytes_end (bs ds : List UInt8) (k : Nat) (h1 : k ≤ bs.length) (h2 : k ≤ ds.length) (h : bs.length ≤ k ∨ ds.length ≤ k) :
    decide (Lib.compareBytes (bs.drop k) (ds.drop k) < 0) = decide (bs.length < ds.length) := by
  rcases Nat.lt_or_ge bs.length ds.length with hl | hl
  · have e1 : bs.drop k = [] := List.drop_eq_nil_of_le (by omega)
    have e2 : ∃ x r, ds.drop k = x :: r := by
      cases hd : ds.drop k with
      | nil => have := congrArg List.length hd; simp at this; omega
      | cons x r => exact ⟨x, r, rfl⟩
    obtain ⟨x, r, e2⟩ := e2
    rw [e1, e2]; simp [Lib.compareBytes, hl]
  · have e1 : ds.drop k = [] := List.drop_eq_nil_of_le (by omega)
    rw [e1]
    cases bs.drop k with
    | nil => simp [Lib.compareBytes]; omega
    | cons x r => simp [Lib.compareBytes]; omega
end Go.Pg
namespace Go.Proofs.Ytndkkgkcbbmnpaa
open Go.RowKit Go.Pg

set_option maxRecDepth 100000 in
set_option maxHeartbeats 1000000 in
theorem ahead_any (F G : Nat → Prop) (w : World) (u v : Value) (bs ds : List UInt8) (h : BytesAt F w u bs) (k : BytesAt G w v ds) (hbl : bs.length ≤ 1152921504606846976) :
    Calls Try.prog 73 #[u, v] w fun e w' => e = .returned (.bool (decide (Lib.compareBytes bs ds < 0))) ∧ ∃ m, w' = w.drewN m := by
  obtain ⟨a, c, rfl, -, -, -⟩ := SliceAt.len h
  obtain ⟨a', c', rfl, -, -, -⟩ := SliceAt.len k
  obtain ⟨n, hn⟩ : ∃ n, n = bs.length := ⟨_, rfl⟩
  obtain ⟨n', hn'⟩ : ∃ n', n' = ds.length := ⟨_, rfl⟩
  rw [← hn] at h hbl ⊢
  rw [← hn'] at k ⊢
  have HN := Lib.hid hn
  have HN' := Lib.hid hn'
  clear hn hn'
  go_enter Try.func73, Try.ntmps73
  go_wp2
  go_loopw [5] (fun i wr => ∃ j : Nat, j ≤ n ∧ j ≤ n' ∧ i = .int .i64 j ∧ Hid (Lib.compareBytes bs ds = Lib.compareBytes (bs.drop j) (ds.drop j)) ∧ Hid (∃ m, wr = w.drewN m)) (fun i _ => n - (intOf i).toNat)
  case atStart => exact ⟨0, Nat.zero_le _, Nat.zero_le _, rfl, rfl, 0, rfl⟩
  case round =>
    obtain ⟨j, hj, hj', rfl, HC, HM⟩ := hrel
    obtain ⟨m, rfl⟩ := HM.out
    have hN := HN.out
    have hN' := HN'.out
    by_cases hlt : j < n
    · by_cases hlt' : j < n'
      · rcases SliceAt.split h with ⟨_, h0⟩ | ⟨b, o, rfl, -, -, -⟩
        · omega
        rcases SliceAt.split k with ⟨_, h0⟩ | ⟨b', o', rfl, -, -, -⟩
        · omega
        have c1 := BytesAt.cell h j (by omega)
        have c2 := BytesAt.cell k j (by omega)
        have hd := compareBytes_drop bs ds j (by omega) (by omega)
        obtain ⟨x, hx⟩ : ∃ x, x = bs[j]'(by omega) := ⟨_, rfl⟩
        obtain ⟨y, hy⟩ : ∃ y, y = ds[j]'(by omega) := ⟨_, rfl⟩
        rw [← hx, ← hy] at hd
        rw [← hx] at c1
        rw [← hy] at c2
        have HD := Lib.hid (HC.out.trans hd)
        clear hd hx hy hN hN' HM HC
        have z4 : (j : Int) < (n : Int) := by omega
        have z5 : (j : Int) < (n' : Int) := by omega
        by_cases hxy : x = y
        · subst hxy
          have hne : ((x.toNat : Int) != (x.toNat : Int)) = false := by simp
          go_wp2
          go_quiet (fail)
          go_wp2
          go_roundw
          case rel => exact ⟨j + 1, by omega, by omega, num_eq (by omega), (by show _ = _; rw [HD.out]; simp), m + nq, rfl⟩
          case measure => simp [intOf]; omega
        · have hne' : x.toNat ≠ y.toNat := fun e => hxy (UInt8.toNat_inj.1 e)
          have hne : ((x.toNat : Int) != (y.toNat : Int)) = true := by simp; omega
          clear hne'
          go_wp2
          go_quiet (fail)
          go_wp2
          go_quiet (fail)
          go_wp2
          go_ret
          refine ⟨ret_bool ?_, _, by rw [World.drewN_drewN, World.drewN_drewN]⟩
          rw [HD.out]
          have e : ((x.toNat : Int) < (y.toNat : Int)) ↔ x < y := by rw [UInt8.lt_iff_toNat_lt]; omega
          by_cases hl : x < y
          · have e2 := e.2 hl
            simp [hl]; simpa using e2
          · have : y < x := by rw [UInt8.lt_iff_toNat_lt] at hl ⊢; have : x.toNat ≠ y.toNat := fun e => hxy (UInt8.toNat_inj.1 e); omega
            have e2 : ¬ (x.toNat : Int) < (y.toNat : Int) := fun h => hl (e.1 h)
            simp [hl, this]; simpa using e2
      · go_wp2
        go_ret
        exact ⟨ret_bool (by rw [HC.out, compareBytes_end bs ds j (by omega) (by omega) (.inr (by omega)), ← HN.out, ← HN'.out]; first | done | simp), m, rfl⟩
    · go_wp2
      go_ret
      exact ⟨ret_bool (by rw [HC.out, compareBytes_end bs ds j (by omega) (by omega) (.inl (by omega)), ← HN.out, ← HN'.out]; first | done | simp), m, rfl⟩

set_option maxRecDepth 100000 in
set_option maxHeartbeats 1000000 in
theorem rrises_any (F : Nat → Prop) (w : World) (v : Value) (l : List (List UInt8)) (h : RowsAt F w v l) (hl : l.length ≤ 1152921504606846976) (hlen : ∀ x ∈ l, x.length ≤ 1152921504606846976) :
    Calls Try.prog 44 #[v] w fun e w' => e = .returned (.bool (rising l)) ∧ ∃ m, w' = w.drewN m := by
  obtain ⟨a, c, rfl, -, -, -⟩ := SliceAt.len h
  obtain ⟨n, hn⟩ : ∃ n, n = l.length := ⟨_, rfl⟩
  rw [← hn] at h hl ⊢
  have HN := Lib.hid hn
  have HLEN := Lib.hid hlen
  clear hn hlen
  go_enter Try.func44, Try.ntmps44
  go_wp2
  go_loopw [3] (fun i wr => ∃ k : Nat, 1 ≤ k ∧ k ≤ n + 1 ∧ i = .int .i64 k ∧ Hid (rising l = rising (l.drop (k - 1))) ∧ Hid (∃ m, wr = w.drewN m)) (fun i _ => n + 1 - (intOf i).toNat)
  case atStart => exact ⟨1, Nat.le_refl _, by omega, rfl, rfl, 0, rfl⟩
  case round =>
    obtain ⟨k, h1, hk, rfl, HR, HM⟩ := hrel
    have hwr : RowsAt F wr (.slice a n c) l := by
      obtain ⟨m, hm⟩ := HM.out
      rw [hm]; exact RowsAt.carry h (fun _ _ x => x) (fun _ _ _ => rfl)
    have hN := HN.out
    by_cases hlt : k < n
    · rcases SliceAt.split hwr with ⟨_, h0⟩ | ⟨b, o, rfl, -, -, -⟩
      · omega
      obtain ⟨u1, c1, t1⟩ := RowsAt.cell hwr (k - 1) (by omega)
      obtain ⟨u2, c2, t2⟩ := RowsAt.cell hwr k (by omega)
      have hx1l := HLEN.out _ (List.getElem_mem (show k - 1 < l.length by omega))
      obtain ⟨x1, hx1⟩ : ∃ x, x = l[k - 1]'(by omega) := ⟨_, rfl⟩
      obtain ⟨x2, hx2⟩ : ∃ x, x = l[k]'(by omega) := ⟨_, rfl⟩
      have hst := rising_step l k h1 (by omega)
      rw [← hx1, ← hx2] at hst
      rw [← hx1] at t1 hx1l
      rw [← hx2] at t2
      have HS := Lib.hid (HR.out.trans hst)
      clear hst hx1 hx2 hN HR hwr
      have hadd : ((k : Int) - 1).toNat = k - 1 := by omega
      have hwr1 : IntKind.i64.wrap ((k : Int) - 1) = (k : Int) - 1 := IntWalk.i64_in _ (by omega)
      have z1 : (1 : Int) ≤ (k : Int) := by omega
      have z2 : (0 : Int) ≤ (k : Int) - 1 := by omega
      have z3 : (k : Int) - 1 < (n : Int) := by omega
      have z4 : (k : Int) < (n : Int) := by omega
      go_wp2
      go_quiet (((go_at_call 73; exact Calls.quiet_of (ahead_any F F _ u1 u2 x1 x2 (t1.draws _) (t2.draws _) hx1l))))
      clear t1 t2 c1 c2 hx1l
      by_cases hneg : Lib.compareBytes x1 x2 < 0
      · have hdn : decide (Lib.compareBytes x1 x2 < 0) = true := by simpa using hneg
        have HDN := Lib.hid hdn
        rw [hdn]
        clear hdn hneg
        go_wp2
        go_roundw
        case rel => exact ⟨k + 1, by omega, by omega, num_eq (by omega), (by show _ = _; rw [HS.out, HDN.out]; rfl), (by obtain ⟨m, hm⟩ := HM.out; rw [hm]; exact ⟨_, World.drewN_drewN _ _ _⟩)⟩
        case measure => simp [intOf]; omega
      · have hdn : decide (Lib.compareBytes x1 x2 < 0) = false := by simpa using hneg
        have HDN := Lib.hid hdn
        rw [hdn]
        clear hdn hneg
        go_wp2
        go_ret
        exact ⟨ret_bool (by rw [HS.out, HDN.out]; rfl), (by obtain ⟨m, hm⟩ := HM.out; rw [hm]; exact ⟨_, World.drewN_drewN _ _ _⟩)⟩
    · go_wp2
      go_ret
      exact ⟨ret_bool (by rw [HR.out, rising_end l k (by omega)]), HM.out⟩

end Go.Proofs.Ytndkkgkcbbmnpaa
