/-
  Contract of (*nest.reader).size.
-/
import Derived.Test.YtndkkgkcbbmnpaaDec
import Derived.Test.YtndkkgkcbbmnpaaDecA
namespace Go.Pg
open Go.RowKit
theorem bits_or_i64_nat (a b : Nat) (ha : a < 4611686018427387904) (hb : b < 4611686018427387904) : bits .or .i64 (a : Int) (b : Int) = ((a ||| b : Nat) : Int) := by
  have hx : a ||| b < 2 ^ 62 := Nat.or_lt_two_pow (by omega) (by omega)
  have h1 : (BitVec.ofInt 64 (a : Int)).toNat = a := by
    rw [BitVec.ofInt_natCast, BitVec.toNat_ofNat]; exact Nat.mod_eq_of_lt (by omega)
  have h2 : (BitVec.ofInt 64 (b : Int)).toNat = b := by
    rw [BitVec.ofInt_natCast, BitVec.toNat_ofNat]; exact Nat.mod_eq_of_lt (by omega)
  show IntKind.i64.wrap ((BitVec.ofInt 64 (a : Int) ||| BitVec.ofInt 64 (b : Int)).toNat : Int) = _
  rw [BitVec.toNat_or, h1, h2, IntWalk.i64_in]
  omega
theorem or_byte' (p : Nat) (x : UInt8) (hp : p < 16777216) : bits .or .i64 ((p : Int) * 256) (x.toNat : Int) = ((p * 256 + x.toNat : Nat) : Int) := by
  have hx := x.toNat_lt
  have e : ((p : Int) * 256) = ((p * 256 : Nat) : Int) := by omega
  rw [e, bits_or_i64_nat _ _ (by omega) (by omega)]
  have := Nat.two_pow_add_eq_or_of_lt (i := 8) (b := x.toNat) (by omega) p
  rw [show p * 256 = 2 ^ 8 * p by omega, ← this]
theorem or_byte (p : Nat) (x : UInt8) (hp : p < 16777216) : bits .or .i64 ((p : Int) * 256) (wrap64 (x.toNat : Int)) = ((p * 256 + x.toNat : Nat) : Int) := by
  have hx := x.toNat_lt
  rw [IntWalk.wrap64_in _ (by omega)]
  exact or_byte' p x hp
end Go.Pg
namespace Go.Proofs.Ytndkkgkcbbmnpaa
open Go.RowKit Go.Pg

/-- a size was read, or a fault noted -/
def SizeC (F : Nat → Prop) (w : World) (rb : Nat) (r : Nat × Nat × List UInt8) (e : Ending) (w' : World) : Prop :=
  (r.1 = 0 → e = .returned (.tuple #[.int .i64 r.2.1, .bool true])) ∧ (r.1 ≠ 0 → e = .returned (.tuple #[.int .i64 0, .bool false])) ∧
    ∃ a2 n2 c2, (r.1 = 0 → BytesAt F w' (.slice a2 n2 c2) r.2.2) ∧ w'.heap[rb]? = some (.cells #[.slice a2 n2 c2, .int .i64 r.1] 117 (0, 0)) ∧ Chg (fun k => k = rb) w w'

set_option maxRecDepth 100000 in
set_option maxHeartbeats 1000000 in
theorem size_any (F : Nat → Prop) (w : World) (rb : Nat) (a : Option Addr) (n c : Nat) (m : Nat) (bs : List UInt8) (h : BytesAt F w (.slice a n c) bs) (hk : w.heap[rb]? = some (.cells #[.slice a n c, .int .i64 0] 117 (0, 0))) (hF : ¬ F rb)
    (hn : n ≤ 1152921504606846976) (hm : m ≤ 255) :
    Calls Try.prog 110 #[.pointer (some ⟨rb, 0, none⟩), .int .i64 m] w (SizeC F w rb (readSize m bs)) := by
  have hnb : n = bs.length := by
    obtain ⟨a', c', hv, h1, -⟩ := h
    simp only [Value.slice.injEq] at hv
    exact hv.2.1
  have HNB := Lib.hid hnb
  clear hnb
  by_cases h55 : m ≤ 55
  · have hr : readSize m bs = (0, m, bs) := by unfold readSize; rw [if_pos h55]
    have HR := Lib.hid hr
    clear hr
    go_enter Try.func110, Try.ntmps110
    go_wp2
    go_ret2
    unfold SizeC
    rw [HR.out]
    exact ⟨fun _ => rfl, fun h => absurd rfl h, a, n, c, fun _ => h, hk, Chg.refl _ _⟩
  · by_cases h58 : 58 < m
    · have hr : readSize m bs = (23, 0, bs) := by unfold readSize; rw [if_neg h55, if_pos h58]
      have HR := Lib.hid hr
      clear hr
      have HK := Lib.hid hk
      clear hk
      go_enter Try.func110, Try.ntmps110
      go_wp2_with fail
      refine (fail_any _ rb a n c 23 HK.out).mono ?_
      rintro e w1 ⟨rfl, h1, h2⟩
      have H1 := Lib.hid h1
      have H2 := Lib.hid h2
      clear h1 h2
      go_wp2
      go_ret2
      unfold SizeC
      rw [HR.out]
      exact ⟨(fun h => by cases h), fun _ => rfl, a, n, c, (fun h => by cases h), H1.out, H2.out⟩
    · obtain ⟨k, hkm⟩ : ∃ k : Nat, m = k + 55 := ⟨m - 55, by omega⟩
      subst hkm
      have hkk : ((k + 55 : Nat) : Int) - 55 = (k : Int) := by omega
      by_cases hsh : n < k
      · have hr : readSize (k + 55) bs = (22, 0, bs) := by
          unfold readSize; rw [if_neg h55, if_neg h58, if_pos (by have := HNB.out; omega)]
        have HR := Lib.hid hr
        clear hr
        have HK := Lib.hid hk
        clear hk
        go_enter Try.func110, Try.ntmps110
        go_wp2_with fail
        refine (take_no _ rb a n c _ HK.out (by omega)).mono ?_
        rintro e w1 ⟨rfl, h1, h2⟩
        have H1 := Lib.hid h1
        have H2 := Lib.hid h2
        clear h1 h2
        go_wp2
        go_ret2
        unfold SizeC
        rw [HR.out]
        exact ⟨(fun h => by cases h), fun _ => rfl, a, n, c, (fun h => by cases h), H1.out, H2.out⟩
      · have HK := Lib.hid hk
        have HH := Lib.hid h
        clear hk h
        go_enter Try.func110, Try.ntmps110
        go_wp2_with fail
        refine (take_ok F _ rb a n c k bs HH.out HK.out hF (by omega) hn).mono ?_
        rintro e w1 ⟨a1, c1, a2, n2, c2, rfl, hu, hs, hk1, hch⟩
        have HU := Lib.hid hu
        have HS := Lib.hid hs
        have HK1 := Lib.hid hk1
        have HCH := Lib.hid hch
        clear hu hs hk1 hch
        have hk3 : k ≤ 3 := by omega
        have hk1 : 1 ≤ k := by omega
        have hkl : (bs.take k).length = k := by rw [List.length_take]; have := HNB.out; omega
        obtain ⟨l, hl⟩ : ∃ l, l = bs.take k := ⟨_, rfl⟩
        rw [← hl] at HU hkl
        have HL := Lib.hid hl
        have HKL := Lib.hid hkl
        clear hl hkl
        rcases SliceAt.split HU.out with ⟨_, h0⟩ | ⟨b, o, rfl, -, -, -⟩
        · omega
        go_wp2_with fail
        go_loop [1, 9, 28] (fun q x i => ∃ j p : Nat, j ≤ k ∧ i = .int .i64 j ∧ q = .int .i64 p ∧ p ≤ 16777215 ∧ Hid (p = beNum (l.take j))) (fun _ _ i => k - (intOf i).toNat)
        case atStart => exact ⟨0, 0, Nat.zero_le _, rfl, rfl, by omega, by show _ = _; simp [beNum]⟩
        case round =>
          obtain ⟨j, p, hj, rfl, rfl, hp, HP⟩ := hrel
          by_cases hlt : j < k
          · have hjl : j < l.length := by have := HKL.out; omega
            have hc := BytesAt.cell HU.out j hjl
            obtain ⟨x, hx⟩ : ∃ x, x = l[j] := ⟨_, rfl⟩
            rw [← hx] at hc
            have hpb : p < 256 ^ j := by
              have h1 := beNum_lt (l.take j)
              have h2 : (l.take j).length = j := by rw [List.length_take]; omega
              have := HP.out
              rw [h2] at h1; omega
            have hor := Lib.hid (And.intro (or_byte p x (by omega)) (or_byte' p x (by omega)))
            have hpx : p * 256 + x.toNat ≤ 16777215 := by
              have h1 := x.toNat_lt
              have h2 : p + 1 ≤ 256 ^ j := hpb
              have h3 : 256 ^ j ≤ 256 ^ 2 := Nat.pow_le_pow_right (by omega) (by omega)
              omega
            have hst : beNum (l.take (j + 1)) = p * 256 + x.toNat := by
              rw [List.take_succ_eq_append_getElem hjl, beNum_snoc, ← HP.out, hx]
            have HST := Lib.hid hst
            clear hx hst hpb
            go_wp2
            go_round
            case rel => exact ⟨j + 1, p * 256 + x.toNat, by omega, num_eq (by omega), num_eq (by first | exact hor.out.1 | exact hor.out.2), hpx, HST.out.symm⟩
            case measure => simp [intOf]; omega
          · obtain rfl : j = k := by omega
            have hp' := HP.out
            rw [List.take_of_length_le (by have := HKL.out; omega)] at hp'
            have hl0 : 0 < l.length := by have := HKL.out; omega
            have hc := BytesAt.cell HU.out 0 hl0
            simp only [Nat.add_zero] at hc
            obtain ⟨x, hx⟩ : ∃ x, x = l[0] := ⟨_, rfl⟩
            rw [← hx] at hc
            have hhead : bs.headD 0 = x := by
              rw [hx]
              have := HL.out
              cases bs with
              | nil => simp at this; subst this; simp at hl0
              | cons y r =>
                obtain ⟨j', rfl⟩ : ∃ j', j = j' + 1 := ⟨j - 1, by omega⟩
                simp at this; subst this; rfl
            have hr : readSize (j + 55) bs = if x = 0 ∨ p ≤ 55 then (23, 0, bs.drop j) else (0, p, bs.drop j) := by
              unfold readSize
              rw [if_neg h55, if_neg h58, if_neg (by have := HNB.out; omega), Nat.add_sub_cancel, ← HL.out, ← hp', hhead]
            have HR := Lib.hid hr
            have hsc : x = 0 ∨ x ≠ 0 := by by_cases h : x = 0; exact .inl h; exact .inr h
            clear hp' hx hhead hr hl0
            by_cases hx0 : x.toNat = 0
            · have hxz : x = 0 := UInt8.toNat_inj.1 (by simpa using hx0)
              have hx1 : ((x.toNat : Int) == 0) = true := by simp; omega
              have HR2 : Hid (readSize (j + 55) bs = (23, 0, bs.drop j)) := by show _ = _; rw [HR.out, if_pos (.inl hxz)]
              clear hsc hx0 hxz
              go_wp2_with fail
              refine (fail_any _ rb a2 n2 c2 23 HK1.out).mono ?_
              rintro e w2 ⟨rfl, h1, h2⟩
              have H1 := Lib.hid h1
              have H2 := Lib.hid h2
              clear h1 h2
              go_wp2_with fail
              go_ret2
              unfold SizeC
              rw [HR2.out]
              exact ⟨(fun h => by cases h), fun _ => rfl, a2, n2, c2, (fun h => by cases h), H1.out, (HCH.out).trans H2.out (fun _ _ x => x)⟩
            · have hx1 : ((x.toNat : Int) == 0) = false := by simp; omega
              have hxz : x ≠ 0 := fun e => hx0 (by rw [e]; rfl)
              by_cases hp55 : (p : Int) ≤ 55
              · have HR2 : Hid (readSize (j + 55) bs = (23, 0, bs.drop j)) := by show _ = _; rw [HR.out, if_pos (.inr (by omega))]
                clear hsc hx0 hxz
                go_wp2_with fail
                refine (fail_any _ rb a2 n2 c2 23 HK1.out).mono ?_
                rintro e w2 ⟨rfl, h1, h2⟩
                have H1 := Lib.hid h1
                have H2 := Lib.hid h2
                clear h1 h2
                go_wp2_with fail
                go_ret2
                unfold SizeC
                rw [HR2.out]
                exact ⟨(fun h => by cases h), fun _ => rfl, a2, n2, c2, (fun h => by cases h), H1.out, (HCH.out).trans H2.out (fun _ _ x => x)⟩
              · have HR2 : Hid (readSize (j + 55) bs = (0, p, bs.drop j)) := by show _ = _; rw [HR.out, if_neg (by rintro (h | h); exact hxz h; omega)]
                clear hsc hx0 hxz
                go_wp2_with fail
                go_ret2
                unfold SizeC
                rw [HR2.out]
                exact ⟨fun _ => rfl, fun h => absurd rfl h, a2, n2, c2, fun _ => HS.out, HK1.out, HCH.out⟩
end Go.Proofs.Ytndkkgkcbbmnpaa
