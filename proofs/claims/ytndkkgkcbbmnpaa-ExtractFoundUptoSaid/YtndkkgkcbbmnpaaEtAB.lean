/-
  Cutting a slice of bytes: how what is cut reads.
  Reading items out of bytes, as plain functions: an error's number (0: none), what was read, and the bytes behind it.
  Contracts of (*nest.reader).fail, take.
  Contract of (*nest.reader).size.
  Contracts of nest.plain, nest.number, nest.body, nest.whole.
  Contract of nest.write.
-/
import Derived.Test.YtndkkgkcbbmnpaaEtAA
import Derived.Test.YtndkkgkcbbmnpaaProg
namespace Go.Pg
open Go.RowKit
theorem Chg.atb {lb i : Nat} {a w : World} (h : Chg (fun k => k = lb) a w) (u : Value) : Chg (fun k => k = lb) a (w.setCell ⟨lb, i, none⟩ u) := h.setCell (.inr rfl) u
/-- b[:k] -/
theorem BytesAt.upto {F : Nat → Prop} {w : World} {a : Option Addr} {n c : Nat} {bs : List UInt8} (h : BytesAt F w (.slice a n c) bs) (k : Nat) (hk : k ≤ n) : BytesAt F w (.slice a k c) (bs.take k) := by
  obtain ⟨a', c', hv, h1, h2, h3, h4, h5⟩ := h
  simp only [Value.slice.injEq] at hv
  obtain ⟨rfl, rfl, rfl⟩ := hv
  have hl : (bs.take k).length = k := by simp; omega
  refine ⟨a, c, by rw [hl], by omega, h2, h3, fun hp => ?_, fun b o j ha hj => h5 b o j ha (by rw [hl] at hj; omega)⟩
  obtain ⟨b, o, ha, hF, hc⟩ := h4 (by omega)
  refine ⟨b, o, ha, hF, fun i x hx => hc i x ?_⟩
  rw [List.getElem?_take] at hx
  split at hx
  · exact hx
  · cases hx
/-- b[k:] -/
theorem BytesAt.since {F : Nat → Prop} {w : World} {a a2 : Option Addr} {n c : Nat} {bs : List UInt8} (h : BytesAt F w (.slice a n c) bs) (k : Nat) (hk : k ≤ n) (ha2 : (if c = k then a else a.map (·.add k)) = a2) :
    BytesAt F w (.slice a2 (n - k) (c - k)) (bs.drop k) := by
  obtain ⟨a', c', hv, h1, h2, h3, h4, h5⟩ := h
  simp only [Value.slice.injEq] at hv
  obtain ⟨rfl, rfl, rfl⟩ := hv
  have hl : (bs.drop k).length = bs.length - k := by simp
  refine ⟨a2, c - k, by rw [hl], by omega, by omega, fun hn => ?_, fun hp => ?_, fun b o j ha hj => ?_⟩
  · subst hn
    split at ha2
    · omega
    · simp at ha2; have := h3 ha2; omega
  · rw [hl] at hp
    obtain ⟨b, o, rfl, hF, hc⟩ := h4 (by omega)
    have hck : ¬ c = k := by omega
    rw [if_neg hck] at ha2
    have e : (⟨b, o, none⟩ : Addr).add k = ⟨b, o + k, none⟩ := by unfold Addr.add; split <;> simp_all
    simp only [Option.map_some, e] at ha2
    subst ha2
    refine ⟨b, o + k, rfl, hF, fun i x hx => ?_⟩
    obtain ⟨cs, g1, g2, g3⟩ := hc (k + i) x (by rw [List.getElem?_drop] at hx; exact hx)
    exact ⟨cs, g1, g2, fun j u hu => by have := g3 j u hu; rwa [show o + k + i * 1 + j = o + (k + i) * 1 + j by omega]⟩
  · rw [hl] at hj
    obtain ⟨b', o', rfl, -, -⟩ := h4 (by omega)
    have hck : ¬ c = k := by omega
    have e : (⟨b', o', none⟩ : Addr).add k = ⟨b', o' + k, none⟩ := by unfold Addr.add; split <;> simp_all
    rw [if_neg hck, Option.map_some, e, ha] at ha2
    simp only [Option.some.injEq, Addr.mk.injEq, and_true] at ha2
    obtain ⟨rfl, rfl⟩ := ha2
    have := h5 b' o' (k + j) rfl (by omega)
    rwa [show o' + k + j = o' + (k + j) by omega]
end Go.Pg
namespace Go.Pg
/-- what bytes say as a number -/
def beNum (l : List UInt8) : Nat := l.foldl (fun n c => n * 256 + c.toNat) 0
theorem beNum_snoc (l : List UInt8) (c : UInt8) : beNum (l ++ [c]) = beNum l * 256 + c.toNat := by simp [beNum]
theorem foldl_lt (l : List UInt8) : ∀ a : Nat, l.foldl (fun n c => n * 256 + c.toNat) a < (a + 1) * 256 ^ l.length := by
  induction l with
  | nil => intro a; simp
  | cons c l ih =>
    intro a
    have h1 := ih (a * 256 + c.toNat)
    have h2 := c.toNat_lt
    simp only [List.foldl_cons, List.length_cons, Nat.pow_succ]
    have h3 : (a * 256 + c.toNat + 1) * 256 ^ l.length ≤ ((a + 1) * 256) * 256 ^ l.length := Nat.mul_le_mul_right _ (by omega)
    have h4 : (a + 1) * (256 ^ l.length * 256) = ((a + 1) * 256) * 256 ^ l.length := by rw [Nat.mul_comm (256 ^ l.length), Nat.mul_assoc]
    omega
theorem beNum_lt (l : List UInt8) : beNum l < 256 ^ l.length := by
  have := foldl_lt l 0
  simpa [beNum] using this
/-- a body's size, by what its first byte has above that of an empty one -/
def readSize (n : Nat) (bs : List UInt8) : Nat × Nat × List UInt8 :=
  if n ≤ 55 then (0, n, bs)
  else if 58 < n then (23, 0, bs)
  else if bs.length < n - 55 then (22, 0, bs)
  else if (bs.headD 0) = 0 ∨ beNum (bs.take (n - 55)) ≤ 55 then (23, 0, bs.drop (n - 55))
  else (0, beNum (bs.take (n - 55)), bs.drop (n - 55))
theorem readSize_le (m : Nat) (t : List UInt8) : (readSize m t).2.1 ≤ 16777215 ∧ (readSize m t).2.2.length ≤ t.length := by
  unfold readSize
  split
  · exact ⟨by simp; omega, Nat.le_refl _⟩
  · split
    · exact ⟨by simp, Nat.le_refl _⟩
    · split
      · exact ⟨by simp, Nat.le_refl _⟩
      · split
        · exact ⟨by simp, by simp⟩
        · have h1 := beNum_lt (t.take (m - 55))
          have h2 : (t.take (m - 55)).length ≤ 3 := by rw [List.length_take]; omega
          have h3 : 256 ^ (t.take (m - 55)).length ≤ 256 ^ 3 := Nat.pow_le_pow_right (by omega) h2
          exact ⟨by simp only; omega, by simp⟩
/-- all items of a list's body -/
def rdAll (rd : List UInt8 → Nat × It × List UInt8) : Nat → List UInt8 → Nat × List It
  | 0, _ => (0, [])
  | k + 1, bs => if bs = [] then (0, []) else if (rd bs).1 ≠ 0 then ((rd bs).1, []) else ((rdAll rd k (rd bs).2.2).1, (rd bs).2.1 :: (rdAll rd k (rd bs).2.2).2)
/-- behind a text's size -/
def rdText (r : Nat × Nat × List UInt8) : Nat × It × List UInt8 :=
  if r.1 ≠ 0 then (r.1, .text [], [])
  else if r.2.2.length < r.2.1 then (22, .text [], [])
  else if r.2.1 = 1 ∧ (r.2.2.headD 0).toNat < 128 then (23, .text [], [])
  else (0, .text (r.2.2.take r.2.1), r.2.2.drop r.2.1)
/-- behind a list's size -/
def rdList (rd : List UInt8 → Nat × It × List UInt8) (r : Nat × Nat × List UInt8) : Nat × It × List UInt8 :=
  if r.1 ≠ 0 then (r.1, .text [], [])
  else if r.2.2.length < r.2.1 then (22, .text [], [])
  else if (rdAll rd r.2.1 (r.2.2.take r.2.1)).1 ≠ 0 then ((rdAll rd r.2.1 (r.2.2.take r.2.1)).1, .text [], [])
  else (0, .list (rdAll rd r.2.1 (r.2.2.take r.2.1)).2, r.2.2.drop r.2.1)
/-- the next item, of which so many lists may still be in one another -/
def rdItem : Nat → List UInt8 → Nat × It × List UInt8
  | _, [] => (22, .text [], [])
  | f, c :: t =>
    if c.toNat < 128 then (0, .text [c], t)
    else if c.toNat < 192 then rdText (readSize (c.toNat - 128) t)
    else match f with
      | 0 => (21, .text [], [])
      | f + 1 => rdList (rdItem f) (readSize (c.toNat - 192) t)
/-- bytes that are one item's -/
def rdWhole (bs : List UInt8) : Nat × It :=
  if (rdItem 8 bs).1 ≠ 0 then ((rdItem 8 bs).1, .text []) else if (rdItem 8 bs).2.2 ≠ [] then (24, .text []) else (0, (rdItem 8 bs).2.1)
end Go.Pg
namespace Go.Proofs.Ytndkkgkcbbmnpaa
open Go.RowKit Go.Pg

theorem blk_set {w : World} {g i : Nat} {cs : Array Value} {t : TypeId} {v : Value} (hg : w.heap[g]? = some (.cells cs t (0, 0))) :
    (w.setCell ⟨g, i, none⟩ v).heap[g]? = some (.cells (cs.setIfInBounds i v) t (0, 0)) := heap_setCell_same w g i cs t v hg

/-- the first fault is noted; an empty item is told -/
def Failed (w : World) (rb : Nat) (v : Value) (n : Nat) (e : Ending) (w' : World) : Prop :=
  e = .returned (.agg #[.bool false, .slice none 0 0, .slice none 0 0]) ∧ w'.heap[rb]? = some (.cells #[v, .int .i64 n] 117 (0, 0)) ∧ Chg (fun k => k = rb) w w'
set_option maxHeartbeats 400000 in
theorem fail_any (w : World) (rb : Nat) (a : Option Addr) (n c : Nat) (code : Nat) (hk : w.heap[rb]? = some (.cells #[.slice a n c, .int .i64 0] 117 (0, 0))) :
    Calls Try.prog 108 #[.pointer (some ⟨rb, 0, none⟩), .int .i64 code] w (Failed w rb (.slice a n c) code) := by
  have hlt := (Array.getElem?_eq_some_iff.1 hk).1
  obtain ⟨q0, q1⟩ := cells2 hk
  have f1 := frozen_of_row w rb 1 _ _ hk
  have hne : rb ≠ w.heap.size := by omega
  have HK := Lib.hid hk
  clear hk
  go_enter Try.func108, Try.ntmps108
  go_wp2
  go_returns
  exact ⟨rfl, (Below.heap_alloc _ _ _ (by simpa using hlt)).trans (blk_set HK.out), ((Chg.refl (fun k => k = rb) w).atb (i := 1) _).alloc _⟩

/-- the next k bytes, or none -/
def Took (F : Nat → Prop) (w : World) (rb : Nat) (bs : List UInt8) (k : Nat) (e : Ending) (w' : World) : Prop :=
  ∃ a1 c1 a2 n2 c2, e = .returned (.tuple #[.slice a1 k c1, .bool true]) ∧ BytesAt F w' (.slice a1 k c1) (bs.take k) ∧ BytesAt F w' (.slice a2 n2 c2) (bs.drop k) ∧
    w'.heap[rb]? = some (.cells #[.slice a2 n2 c2, .int .i64 0] 117 (0, 0)) ∧ Chg (fun k => k = rb) w w'
set_option maxHeartbeats 400000 in
theorem take_ok (F : Nat → Prop) (w : World) (rb : Nat) (a : Option Addr) (n c k : Nat) (bs : List UInt8) (h : BytesAt F w (.slice a n c) bs) (hk : w.heap[rb]? = some (.cells #[.slice a n c, .int .i64 0] 117 (0, 0))) (hF : ¬ F rb)
    (hkn : k ≤ n) (_hn : n ≤ 1152921504606846976) :
    Calls Try.prog 107 #[.pointer (some ⟨rb, 0, none⟩), .int .i64 k] w (Took F w rb bs k) := by
  have hlt := (Array.getElem?_eq_some_iff.1 hk).1
  obtain ⟨q0, q1⟩ := cells2 hk
  have f0 := frozen_of_row w rb 0 _ _ hk
  have HK := Lib.hid hk
  have hc : n ≤ c := by
    obtain ⟨a', c', hv, h1, -⟩ := h
    simp only [Value.slice.injEq] at hv
    omega
  obtain ⟨a2, ha2⟩ : ∃ a2, (if c = k then a else a.map (·.add k)) = a2 := ⟨_, rfl⟩
  have HU := Lib.hid (BytesAt.upto h k hkn)
  have HS := Lib.hid (BytesAt.since h k hkn ha2)
  clear hk h
  go_enter Try.func107, Try.ntmps107
  go_wp2
  go_ret2
  have hcar : ∀ b, F b → b < w.heap.size → (w.setCell ⟨rb, 0, none⟩ (.slice a2 (n - k) (c - k))).heap[b]? = w.heap[b]? := fun b hb _ => Below.heap_setCell _ _ _ _ (fun e => hF (by rw [← show b = rb from e]; exact hb))
  exact ⟨a, c, a2, n - k, c - k, rfl, BytesAt.carry HU.out (fun _ _ x => x) hcar, BytesAt.carry HS.out (fun _ _ x => x) hcar, blk_set HK.out, (Chg.refl (fun k => k = rb) w).atb (i := 0) _⟩

set_option maxHeartbeats 400000 in
theorem take_no (w : World) (rb : Nat) (a : Option Addr) (n c : Nat) (k : Int) (hk : w.heap[rb]? = some (.cells #[.slice a n c, .int .i64 0] 117 (0, 0))) (hkn : (n : Int) < k) :
    Calls Try.prog 107 #[.pointer (some ⟨rb, 0, none⟩), .int .i64 k] w fun e w' => e = .returned (.tuple #[.slice none 0 0, .bool false]) ∧
      w'.heap[rb]? = some (.cells #[.slice a n c, .int .i64 (22 : Nat)] 117 (0, 0)) ∧ Chg (fun k => k = rb) w w' := by
  obtain ⟨q0, q1⟩ := cells2 hk
  have HK := Lib.hid hk
  clear hk
  go_enter Try.func107, Try.ntmps107
  go_wp2_with fail
  refine (fail_any _ rb a n c 22 HK.out).mono ?_
  rintro e w1 ⟨rfl, h1, h2⟩
  have H1 := Lib.hid h1
  have H2 := Lib.hid h2
  clear h1 h2
  go_wp2
  go_ret2
  exact ⟨rfl, H1.out, H2.out⟩
end Go.Proofs.Ytndkkgkcbbmnpaa
namespace Go.Pg
open Go.RowKit
theorem bits_or_i64_nat (a b : Nat) (ha : a < 4611686018427387904) (hb : b < 4611686018427387904) : bits .or .i64 (a : Int) (b : Int) = ((a ||| b : Nat) : Int) := by
  have hx : a ||| b < 2 ^ 62 := Nat.or_lt_two_pow (by omega) (by omega)
  have h1 : (BitVec.ofInt 64 (a : Int)).toNat = a := by
    rw [BitVec.ofInt_natCast, BitVec.toNat_ofNat]; exact Nat.mod_eq_of_lt (by omega)
  have h2 : (BitVec.ofInt 64 (b : Int)).toNat = b := by
    rw [BitVec.ofInt_natCast, BitVec.toNat_ofNat]; exact Nat.mod_eq_of_lt (by omega)
  show IntKind.i64.wrap ((BitVec.ofInt 64 (a : Int) ||| BitVec.ofInt 64 (b : Int)).toNat : Int) = _
  rw [BitVec.toNat_or, h1, h2, IntWalk.i64_in]
  omega
theorem or_byte' (p : Nat) (x : UInt8) (hp : p < 16777216) : bits .or .i64 ((p : Int) * 256) (x.toNat : Int) = ((p * 256 + x.toNat : Nat) : Int) := by
  have hx := x.toNat_lt
  have e : ((p : Int) * 256) = ((p * 256 : Nat) : Int) := by omega
  rw [e, bits_or_i64_nat _ _ (by omega) (by omega)]
  have := Nat.two_pow_add_eq_or_of_lt (i := 8) (b := x.toNat) (by omega) p
  rw [show p * 256 = 2 ^ 8 * p by omega, ← this]
theorem or_byte (p : Nat) (x : UInt8) (hp : p < 16777216) : bits .or .i64 ((p : Int) * 256) (wrap64 (x.toNat : Int)) = ((p * 256 + x.toNat : Nat) : Int) := by
  have hx := x.toNat_lt
  rw [IntWalk.wrap64_in _ (by omega)]
  exact or_byte' p x hp
end Go.Pg
namespace Go.Proofs.Ytndkkgkcbbmnpaa
open Go.RowKit Go.Pg

/-- a size was read, or a fault noted -/
def SizeC (F : Nat → Prop) (w : World) (rb : Nat) (r : Nat × Nat × List UInt8) (e : Ending) (w' : World) : Prop :=
  (r.1 = 0 → e = .returned (.tuple #[.int .i64 r.2.1, .bool true])) ∧ (r.1 ≠ 0 → e = .returned (.tuple #[.int .i64 0, .bool false])) ∧
    ∃ a2 n2 c2, (r.1 = 0 → BytesAt F w' (.slice a2 n2 c2) r.2.2) ∧ w'.heap[rb]? = some (.cells #[.slice a2 n2 c2, .int .i64 r.1] 117 (0, 0)) ∧ Chg (fun k => k = rb) w w'

set_option maxRecDepth 100000 in
set_option maxHeartbeats 1000000 in
theorem size_any (F : Nat → Prop) (w : World) (rb : Nat) (a : Option Addr) (n c : Nat) (m : Nat) (bs : List UInt8) (h : BytesAt F w (.slice a n c) bs) (hk : w.heap[rb]? = some (.cells #[.slice a n c, .int .i64 0] 117 (0, 0))) (hF : ¬ F rb)
    (hn : n ≤ 1152921504606846976) (hm : m ≤ 255) :
    Calls Try.prog 110 #[.pointer (some ⟨rb, 0, none⟩), .int .i64 m] w (SizeC F w rb (readSize m bs)) := by
  have hnb : n = bs.length := by
    obtain ⟨a', c', hv, h1, -⟩ := h
    simp only [Value.slice.injEq] at hv
    exact hv.2.1
  have HNB := Lib.hid hnb
  clear hnb
  by_cases h55 : m ≤ 55
  · have hr : readSize m bs = (0, m, bs) := by unfold readSize; rw [if_pos h55]
    have HR := Lib.hid hr
    clear hr
    go_enter Try.func110, Try.ntmps110
    go_wp2
    go_ret2
    unfold SizeC
    rw [HR.out]
    exact ⟨fun _ => rfl, fun h => absurd rfl h, a, n, c, fun _ => h, hk, Chg.refl _ _⟩
  · by_cases h58 : 58 < m
    · have hr : readSize m bs = (23, 0, bs) := by unfold readSize; rw [if_neg h55, if_pos h58]
      have HR := Lib.hid hr
      clear hr
      have HK := Lib.hid hk
      clear hk
      go_enter Try.func110, Try.ntmps110
      go_wp2_with fail
      refine (fail_any _ rb a n c 23 HK.out).mono ?_
      rintro e w1 ⟨rfl, h1, h2⟩
      have H1 := Lib.hid h1
      have H2 := Lib.hid h2
      clear h1 h2
      go_wp2
      go_ret2
      unfold SizeC
      rw [HR.out]
      exact ⟨(fun h => by cases h), fun _ => rfl, a, n, c, (fun h => by cases h), H1.out, H2.out⟩
    · obtain ⟨k, hkm⟩ : ∃ k : Nat, m = k + 55 := ⟨m - 55, by omega⟩
      subst hkm
      have hkk : ((k + 55 : Nat) : Int) - 55 = (k : Int) := by omega
      by_cases hsh : n < k
      · have hr : readSize (k + 55) bs = (22, 0, bs) := by
          unfold readSize; rw [if_neg h55, if_neg h58, if_pos (by have := HNB.out; omega)]
        have HR := Lib.hid hr
        clear hr
        have HK := Lib.hid hk
        clear hk
        go_enter Try.func110, Try.ntmps110
        go_wp2_with fail
        refine (take_no _ rb a n c _ HK.out (by omega)).mono ?_
        rintro e w1 ⟨rfl, h1, h2⟩
        have H1 := Lib.hid h1
        have H2 := Lib.hid h2
        clear h1 h2
        go_wp2
        go_ret2
        unfold SizeC
        rw [HR.out]
        exact ⟨(fun h => by cases h), fun _ => rfl, a, n, c, (fun h => by cases h), H1.out, H2.out⟩
      · have HK := Lib.hid hk
        have HH := Lib.hid h
        clear hk h
        go_enter Try.func110, Try.ntmps110
        go_wp2_with fail
        refine (take_ok F _ rb a n c k bs HH.out HK.out hF (by omega) hn).mono ?_
        rintro e w1 ⟨a1, c1, a2, n2, c2, rfl, hu, hs, hk1, hch⟩
        have HU := Lib.hid hu
        have HS := Lib.hid hs
        have HK1 := Lib.hid hk1
        have HCH := Lib.hid hch
        clear hu hs hk1 hch
        have hk3 : k ≤ 3 := by omega
        have hk1 : 1 ≤ k := by omega
        have hkl : (bs.take k).length = k := by rw [List.length_take]; have := HNB.out; omega
        obtain ⟨l, hl⟩ : ∃ l, l = bs.take k := ⟨_, rfl⟩
        rw [← hl] at HU hkl
        have HL := Lib.hid hl
        have HKL := Lib.hid hkl
        clear hl hkl
        rcases SliceAt.split HU.out with ⟨_, h0⟩ | ⟨b, o, rfl, -, -, -⟩
        · omega
        go_wp2_with fail
        go_loop [1, 9, 28] (fun q x i => ∃ j p : Nat, j ≤ k ∧ i = .int .i64 j ∧ q = .int .i64 p ∧ p ≤ 16777215 ∧ Hid (p = beNum (l.take j))) (fun _ _ i => k - (intOf i).toNat)
        case atStart => exact ⟨0, 0, Nat.zero_le _, rfl, rfl, by omega, by show _ = _; simp [beNum]⟩
        case round =>
          obtain ⟨j, p, hj, rfl, rfl, hp, HP⟩ := hrel
          by_cases hlt : j < k
          · have hjl : j < l.length := by have := HKL.out; omega
            have hc := BytesAt.cell HU.out j hjl
            obtain ⟨x, hx⟩ : ∃ x, x = l[j] := ⟨_, rfl⟩
            rw [← hx] at hc
            have hpb : p < 256 ^ j := by
              have h1 := beNum_lt (l.take j)
              have h2 : (l.take j).length = j := by rw [List.length_take]; omega
              have := HP.out
              rw [h2] at h1; omega
            have hor := Lib.hid (And.intro (or_byte p x (by omega)) (or_byte' p x (by omega)))
            have hpx : p * 256 + x.toNat ≤ 16777215 := by
              have h1 := x.toNat_lt
              have h2 : p + 1 ≤ 256 ^ j := hpb
              have h3 : 256 ^ j ≤ 256 ^ 2 := Nat.pow_le_pow_right (by omega) (by omega)
              omega
            have hst : beNum (l.take (j + 1)) = p * 256 + x.toNat := by
              rw [List.take_succ_eq_append_getElem hjl, beNum_snoc, ← HP.out, hx]
            have HST := Lib.hid hst
            clear hx hst hpb
            go_wp2
            go_round
            case rel => exact ⟨j + 1, p * 256 + x.toNat, by omega, num_eq (by omega), num_eq (by first | exact hor.out.1 | exact hor.out.2), hpx, HST.out.symm⟩
            case measure => simp [intOf]; omega
          · obtain rfl : j = k := by omega
            have hp' := HP.out
            rw [List.take_of_length_le (by have := HKL.out; omega)] at hp'
            have hl0 : 0 < l.length := by have := HKL.out; omega
            have hc := BytesAt.cell HU.out 0 hl0
            simp only [Nat.add_zero] at hc
            obtain ⟨x, hx⟩ : ∃ x, x = l[0] := ⟨_, rfl⟩
            rw [← hx] at hc
            have hhead : bs.headD 0 = x := by
              rw [hx]
              have := HL.out
              cases bs with
              | nil => simp at this; subst this; simp at hl0
              | cons y r =>
                obtain ⟨j', rfl⟩ : ∃ j', j = j' + 1 := ⟨j - 1, by omega⟩
                simp at this; subst this; rfl
            have hr : readSize (j + 55) bs = if x = 0 ∨ p ≤ 55 then (23, 0, bs.drop j) else (0, p, bs.drop j) := by
              unfold readSize
              rw [if_neg h55, if_neg h58, if_neg (by have := HNB.out; omega), Nat.add_sub_cancel, ← HL.out, ← hp', hhead]
            have HR := Lib.hid hr
            have hsc : x = 0 ∨ x ≠ 0 := by by_cases h : x = 0; exact .inl h; exact .inr h
            clear hp' hx hhead hr hl0
            by_cases hx0 : x.toNat = 0
            · have hxz : x = 0 := UInt8.toNat_inj.1 (by simpa using hx0)
              have hx1 : ((x.toNat : Int) == 0) = true := by simp; omega
              have HR2 : Hid (readSize (j + 55) bs = (23, 0, bs.drop j)) := by show _ = _; rw [HR.out, if_pos (.inl hxz)]
              clear hsc hx0 hxz
              go_wp2_with fail
              refine (fail_any _ rb a2 n2 c2 23 HK1.out).mono ?_
              rintro e w2 ⟨rfl, h1, h2⟩
              have H1 := Lib.hid h1
              have H2 := Lib.hid h2
              clear h1 h2
              go_wp2_with fail
              go_ret2
              unfold SizeC
              rw [HR2.out]
              exact ⟨(fun h => by cases h), fun _ => rfl, a2, n2, c2, (fun h => by cases h), H1.out, (HCH.out).trans H2.out (fun _ _ x => x)⟩
            · have hx1 : ((x.toNat : Int) == 0) = false := by simp; omega
              have hxz : x ≠ 0 := fun e => hx0 (by rw [e]; rfl)
              by_cases hp55 : (p : Int) ≤ 55
              · have HR2 : Hid (readSize (j + 55) bs = (23, 0, bs.drop j)) := by show _ = _; rw [HR.out, if_pos (.inr (by omega))]
                clear hsc hx0 hxz
                go_wp2_with fail
                refine (fail_any _ rb a2 n2 c2 23 HK1.out).mono ?_
                rintro e w2 ⟨rfl, h1, h2⟩
                have H1 := Lib.hid h1
                have H2 := Lib.hid h2
                clear h1 h2
                go_wp2_with fail
                go_ret2
                unfold SizeC
                rw [HR2.out]
                exact ⟨(fun h => by cases h), fun _ => rfl, a2, n2, c2, (fun h => by cases h), H1.out, (HCH.out).trans H2.out (fun _ _ x => x)⟩
              · have HR2 : Hid (readSize (j + 55) bs = (0, p, bs.drop j)) := by show _ = _; rw [HR.out, if_neg (by rintro (h | h); exact hxz h; omega)]
                clear hsc hx0 hxz
                go_wp2_with fail
                go_ret2
                unfold SizeC
                rw [HR2.out]
                exact ⟨fun _ => rfl, fun h => absurd rfl h, a2, n2, c2, fun _ => HS.out, HK1.out, HCH.out⟩
end Go.Proofs.Ytndkkgkcbbmnpaa
namespace Go.Proofs.Ytndkkgkcbbmnpaa
open Go.RowKit Go.Pg

set_option maxHeartbeats 400000 in
theorem number_any (n : Nat) (w : World) (hn : n ≤ 1152921504606846976) :
    Calls Try.prog 92 #[.int .i64 n] w fun e w' => e = .returned (.int .i64 (number n)) ∧ w = w' := by
  have hnum := number_le 8 n (by omega)
  have HN := Lib.hid hnum
  clear hnum
  go_enter Try.func92, Try.ntmps92
  go_wp2
  go_loop [0, 3] (fun a i => ∃ m k : Nat, m ≤ n ∧ a = .int .i64 m ∧ i = .int .i64 k ∧ Hid (number n = k + number m)) (fun a _ => (intOf a).toNat)
  case atStart => exact ⟨n, 0, Nat.le_refl _, rfl, rfl, by show _ = _; omega⟩
  case round =>
    obtain ⟨m, k, hm, rfl, rfl, HE⟩ := hrel
    have hk : k ≤ 8 := by have := HN.out; have := HE.out; omega
    by_cases h0 : 0 < m
    · go_wp2
      go_round
      case rel => exact ⟨m / 256, k + 1, by omega, by go_num, by go_num, by have := HE.out; show _ = _; rw [this, number_pos h0]; omega⟩
      case measure => simp [intOf]; omega
    · obtain rfl : m = 0 := by omega
      go_wp2
      go_ret
      have h1 := HE.out
      rw [number_zero] at h1
      exact ⟨by rw [h1]; rfl, rfl⟩

set_option maxHeartbeats 400000 in
theorem plain_list (v1 v2 : Value) (w : World) :
    Calls Try.prog 91 #[.agg #[.bool true, v1, v2]] w fun e w' => e = .returned (.bool false) ∧ Below w.heap.size w w' := by
  go_enter Try.func91, Try.ntmps91
  go_wp2
  go_ret
  exact ⟨rfl, (Below.refl _ _).alloc (Nat.le_refl _) _⟩
set_option maxHeartbeats 400000 in
theorem plain_long (a : Option Addr) (n c : Nat) (v2 : Value) (w : World) (hn : ((n : Int) == 1) = false) :
    Calls Try.prog 91 #[.agg #[.bool false, .slice a n c, v2]] w fun e w' => e = .returned (.bool false) ∧ Below w.heap.size w w' := by
  go_enter Try.func91, Try.ntmps91
  go_wp2
  go_ret
  exact ⟨rfl, (Below.refl _ _).alloc (Nat.le_refl _) _⟩
set_option maxHeartbeats 400000 in
theorem plain_one (b o c : Nat) (x : UInt8) (v2 : Value) (w : World) (hc : w.cell? ⟨b, o, none⟩ = some (.int .u8 (x.toNat : Int))) (hb : b < w.heap.size) :
    Calls Try.prog 91 #[.agg #[.bool false, .slice (some ⟨b, o, none⟩) 1 c, v2]] w fun e w' => e = .returned (.bool (decide (x.toNat < 128))) ∧ Below w.heap.size w w' := by
  go_enter Try.func91, Try.ntmps91
  go_wp2
  go_ret
  exact ⟨ret_bool (by rw [Bool.eq_iff_iff]; simp; omega), (Below.refl _ _).alloc (Nat.le_refl _) _⟩
theorem plain_any {F : Nat → Prop} {w : World} {d : Nat} {l : Bool} {v1 v2 : Value} {x : It} (h : ItemAt F w d [.bool l, v1, v2] x) :
    Calls Try.prog 91 #[.agg #[.bool l, v1, v2]] w fun e w' => e = .returned (.bool x.plain) ∧ Below w.heap.size w w' := by
  cases d with
  | zero => exact h.elim
  | succ d =>
    obtain ⟨u1, u2, h1, h2, h3⟩ := h
    simp only [List.cons.injEq, Value.bool.injEq, and_true] at h1
    obtain ⟨rfl, rfl, rfl⟩ := h1
    cases x with
    | list l => exact plain_list _ _ _
    | text b =>
      obtain ⟨a, c, rfl, hlc, hcm, hac⟩ := SliceAt.len h2
      simp only [It.plain, It.bytes, It.isList] at h2 ⊢
      by_cases hb : b.length = 1
      · match b, hb with
        | [x], _ =>
          rcases SliceAt.cases h2 with ⟨h, _⟩ | ⟨bb, o, c', hv, _, _, _, _⟩
          · cases h
          · simp only [Value.slice.injEq] at hv
            obtain ⟨rfl, _, rfl⟩ := hv
            have hc := BytesAt.cell h2 0 (by simp)
            have := plain_one bb o c x v2 w (by simpa using hc) (cell_lt hc)
            simpa [plainB] using this
      · have h0 : plainB b = false := by simp [plainB, hb]
        rw [h0]
        exact plain_long _ _ _ _ _ (by simp; omega)

def BodyC (d : Nat) : Prop := ∀ (F : Nat → Prop) (w : World) (x : It) (l : Bool) (v1 v2 : Value), ItemAt F w d [.bool l, v1, v2] x → x.body ≤ 1152921504606846976 →
  Calls Try.prog 70 #[.agg #[.bool l, v1, v2]] w fun e w' => e = .returned (.int .i64 x.body) ∧ Below w.heap.size w w'
def WholeC (d : Nat) : Prop := ∀ (F : Nat → Prop) (w : World) (x : It) (l : Bool) (v1 v2 : Value), ItemAt F w d [.bool l, v1, v2] x → x.whole ≤ 1152921504606846976 →
  Calls Try.prog 90 #[.agg #[.bool l, v1, v2]] w fun e w' => e = .returned (.int .i64 x.whole) ∧ Below w.heap.size w w'

set_option maxHeartbeats 400000 in
theorem body_none (l : Bool) (a a2 : Option Addr) (n c c2 : Nat) (w : World) :
    Calls Try.prog 70 #[.agg #[.bool l, .slice a n c, .slice a2 0 c2]] w fun e w' => e = .returned (.int .i64 n) ∧ Below w.heap.size w w' := by
  go_enter Try.func70, Try.ntmps70
  go_wp2
  go_rounds 1
  go_ret
  exact ⟨rfl, (Below.refl _ _).alloc (Nat.le_refl _) _⟩

set_option maxHeartbeats 400000 in
theorem body_some {d : Nat} (hw : WholeC d) (F : Nat → Prop) (w : World) (l : Bool) (a : Option Addr) (b o n c c2 : Nat) (is : List It)
    (his : ItemsAt F w d (.slice (some ⟨b, o, none⟩) is.length c2) is) (hn : n + It.wholes is ≤ 1152921504606846976) (hl63 : is.length ≤ 1152921504606846976) :
    Calls Try.prog 70 #[.agg #[.bool l, .slice a n c, .slice (some ⟨b, o, none⟩) is.length c2]] w fun e w' => e = .returned (.int .i64 (n + It.wholes is : Nat)) ∧ Below w.heap.size w w' := by
  have HW := Lib.hid hw
  clear hw
  obtain ⟨n2, hn2⟩ : ∃ n2, n2 = is.length := ⟨_, rfl⟩
  rw [← hn2] at his hl63 ⊢
  have HN := Lib.hid hn2
  clear hn2
  go_enter Try.func70, Try.ntmps70
  go_wp2
  go_loopw [3, 5, 12] (fun s y i wr => ∃ k m : Nat, k ≤ n2 ∧ i = .int .i64 k ∧ s = .int .i64 m ∧ Hid (m = n + It.wholes (is.take k)) ∧ Below w.heap.size w wr) (fun _ _ i _ => n2 - (intOf i).toNat)
  case atStart => exact ⟨0, n, Nat.zero_le _, rfl, rfl, by show _ = _; simp [It.wholes], (Below.refl _ _).alloc (Nat.le_refl _) _⟩
  case round =>
    obtain ⟨k, m, hk, rfl, rfl, HM, hb⟩ := hrel
    have hN := HN.out
    by_cases hlt : k < n2
    · have hki : k < is.length := by omega
      have his' := ItemsAt.below his hb
      obtain ⟨a1, n1, c1, a2, n2', c2', q0, q1, q2, hit⟩ := ItemsAt.cell his' k hki
      obtain ⟨x, hx⟩ : ∃ x, x = is[k] := ⟨_, rfl⟩
      have hsum : m + x.whole ≤ 1152921504606846976 := by
        have h1 := It.wholes_take_succ is k hki
        have h2 := It.wholes_take_le is (k + 1)
        have h3 := HM.out
        rw [hx]; omega
      have HS : Hid (m + x.whole = n + It.wholes (is.take (k + 1))) := by
        have h1 := It.wholes_take_succ is k hki
        have h3 := HM.out
        show _ = _
        rw [hx]; omega
      rw [← hx] at q0 hit
      have hpos := It.whole_pos x
      clear hx his' hN his HM
      have hle : x.whole ≤ 1152921504606846976 := by omega
      go_wp2_with fail
      refine (HW.out F _ x _ _ _ ?_ hle).mono ?_
      · exact hit.below ((Below.refl _ _).alloc (Nat.le_refl _) _)
      rintro e w1 ⟨rfl, hb1⟩
      go_wp2_with fail
      go_roundw
      case rel =>
        exact ⟨k + 1, m + x.whole, by omega, num_eq (by omega), num_eq (by omega), HS, (hb.alloc hb.size _).trans (hb1.mono (by have := hb.size; simp; omega))⟩
      case measure => simp [intOf]; omega
    · obtain rfl : k = n2 := by omega
      go_wp2
      go_ret
      have h3 := HM.out
      rw [List.take_of_length_le (by omega)] at h3
      exact ⟨ret_int (by rw [h3]), hb⟩

theorem body_step {d : Nat} (hw : WholeC d) : BodyC (d + 1) := by
  intro F w x l v1 v2 h hx
  obtain ⟨u1, u2, h1, h2, h3⟩ := h
  simp only [List.cons.injEq, Value.bool.injEq, and_true] at h1
  obtain ⟨rfl, rfl, rfl⟩ := h1
  obtain ⟨a, c, rfl, _⟩ := SliceAt.len h2
  rcases SliceAt.cases h3 with ⟨he, a2, c2, rfl, _⟩ | ⟨b, o, c2, rfl, hl, _, _, _⟩
  · have e : x.body = x.bytes.length := by rw [It.body_eq, he]; simp [It.wholes]
    rw [e]
    exact body_none _ _ _ _ _ _ _
  · rw [It.body_eq] at hx ⊢
    have hlen : x.items.length ≤ It.wholes x.items := by
      generalize x.items = l
      induction l with
      | nil => simp
      | cons y r ih => have := It.whole_pos y; simp only [List.length_cons, It.wholes]; omega
    exact body_some hw F w _ _ _ _ _ _ _ _ h3 hx (by omega)

set_option maxHeartbeats 400000 in
theorem whole_step {d : Nat} (hb : BodyC d) : WholeC d := by
  intro F w x l v1 v2 h hx
  obtain ⟨rfl, a1, n1, c1, a2, n2, c2, rfl, rfl, -, -⟩ := ItemAt.form h
  have hwe := It.whole_eq x
  by_cases hpl : x.plain = true
  · rw [if_pos hpl] at hwe
    rw [hwe]
    clear hwe hx hb
    go_enter Try.func90, Try.ntmps90
    go_wp2_with fail
    refine (plain_any (F := F) (d := d) (x := x) ?_).mono ?_
    · exact h.below ((Below.refl _ _).alloc (Nat.le_refl _) _)
    rintro e w1 ⟨rfl, hb1⟩
    go_wp2_with fail
    go_ret
    exact ⟨rfl, ((Below.refl _ _).alloc (Nat.le_refl _) _).trans (hb1.mono (by simp))⟩
  · rw [if_neg hpl] at hwe
    have hpl' : x.plain = false := by simpa using hpl
    rw [hwe]
    have hbw := It.body_le_whole x
    have HB := Lib.hid hb
    have HE := Lib.hid hwe
    clear hb hwe hpl
    obtain ⟨n, hn⟩ : ∃ n, n = x.body := ⟨_, rfl⟩
    have HN := Lib.hid hn
    have hle : n ≤ 1152921504606846976 := by omega
    rw [← hn]
    clear hn hbw
    by_cases h55 : n ≤ 55
    all_goals
      go_enter Try.func90, Try.ntmps90
      go_wp2_with fail
      refine (plain_any (F := F) (d := d) (x := x) ?_).mono ?_
      · exact h.below ((Below.refl _ _).alloc (Nat.le_refl _) _)
      rintro e w1 ⟨rfl, hb1⟩
      obtain ⟨hc, hf⟩ := bcell hb1
      go_wp2_with fail
      refine (HB.out F _ x _ _ _ ?_ ?_).mono ?_
      · exact ItemAt.below (h.below ((Below.refl _ _).alloc (Nat.le_refl _) _)) hb1
      · rw [← HN.out]; exact hle
      rintro e w2 ⟨rfl, hb2⟩
      rw [← HN.out]
      have hbel := Bel.call (Bel.call (Bel.alloc (Bel.refl w) _) hb1) hb2
      clear hb1 hb2 HE h HB hc hf
      go_wp2_with fail
      first
        | (go_ret; exact ⟨ret_int (by unfold sz; rw [if_pos h55]; omega), hbel⟩)
        | (refine (number_any n _ hle).mono ?_
           rintro e w3 ⟨rfl, rfl⟩
           have hnum := number_le 8 n (by omega)
           go_wp2_with fail
           go_ret
           exact ⟨ret_int (by unfold sz; rw [if_neg h55]; omega), hbel⟩)
theorem sizes (d : Nat) : BodyC d ∧ WholeC d := by
  induction d with
  | zero => exact ⟨fun _ _ _ _ _ _ h => h.elim, fun _ _ _ _ _ _ h => h.elim⟩
  | succ d ih => have hb := body_step ih.2; exact ⟨hb, whole_step hb⟩
theorem body_any (d : Nat) : BodyC d := (sizes d).1
theorem whole_any (d : Nat) : WholeC d := (sizes d).2

end Go.Proofs.Ytndkkgkcbbmnpaa
namespace Go.Proofs.Ytndkkgkcbbmnpaa
open Go.RowKit Go.Pg

theorem underlying25 : Try.prog.underlying 25 = some (.slice 5) := Try.underlying25
theorem infoU8 : (Try.prog.info? 5).map (fun i => (i.zero, i.size, i.bytes)) = some (some (.int .u8 0), 1, 1) := by kernel_rfl

/-- What nest.write holds to from its beginning in w on: v owns bs; the item's box stands; of what was there only v0's own block may have turned. -/
structure WInv (w : World) (base : Nat) (cs : Array Value) (v0 : Value) (W : World) (v : Value) (bs : List UInt8) : Prop where
  own : OwnAt W base 5 1 byteR v bs
  grown : w.grownBy W v0.ownBlock
  orig : ∀ g, v.ownBlock = some g → v0.ownBlock = some g ∨ w.heap.size < g
  own0 : ∀ g, v0.ownBlock = some g → base ≤ g ∧ g < w.heap.size
  box : W.heap[w.heap.size]? = some (.cells cs 65 (0, 0))
  size : w.heap.size < W.heap.size
theorem WInv.start {w : World} {base : Nat} {cs : Array Value} {v : Value} {bs : List UInt8} (h : OwnAt w base 5 1 byteR v bs) : WInv w base cs v (w.alloc (.cells cs 65)) v bs :=
  ⟨h.carry (fun g _ _ hlt => Below.heap_alloc _ _ _ hlt), World.grownBy_alloc _ _ _, fun g hg => .inl hg, h.own, heap_alloc_new w _, by simp⟩
section
variable {w : World} {base : Nat} {cs : Array Value} {v0 : Value} {W W' : World} {v v' : Value} {bs m : List UInt8}
theorem WInv.append (h : WInv w base cs v0 W v bs)
    (ho : OwnAt W' base 5 1 byteR v' (bs ++ m)) (hg : W.grownBy W' v.ownBlock) (hw : Moved W v v') : WInv w base cs v0 W' v' (bs ++ m) := by
  have hs := h.size
  have apart : ∀ g, v.ownBlock = some g → g ≠ w.heap.size := fun g hg' e => by
    rcases h.orig g hg' with h1 | h1
    · have := (h.own0 g h1).2; omega
    · omega
  refine ⟨ho, ⟨hg.os.trans h.grown.os, hg.tape.trans h.grown.tape, hg.output.trans h.grown.output, Nat.le_trans h.grown.size hg.size, fun k hk hn => ?_⟩, ?_, h.own0, ?_, Nat.lt_of_lt_of_le hs hg.size⟩
  · rw [hg.block k (by omega) (fun e => ?_)]
    · exact h.grown.block k hk hn
    · rcases h.orig k e.symm with h1 | h1
      · exact hn h1.symm
      · omega
  · intro g hg'
    rcases hw g hg' with h1 | h1
    · exact h.orig g h1
    · exact .inr (by omega)
  · rw [hg.block _ hs (fun e => apart _ e.symm rfl)]; exact h.box
theorem WInv.call (h : WInv w base cs v0 W v bs) (hc : Below W.heap.size W W') : WInv w base cs v0 W' v bs := by
  have hs := h.size
  have hg := h.grown
  exact ⟨h.own.carry (fun g _ _ hlt => hc.block g hlt), ⟨hc.os.trans hg.os, hc.tape.trans hg.tape, hc.output.trans hg.output, Nat.le_trans hg.size hc.size, fun k hk hn => (hc.block k (by omega)).trans (hg.block k hk hn)⟩,
    h.orig, h.own0, (hc.block _ hs).trans h.box, Nat.lt_of_lt_of_le hs hc.size⟩
theorem WInv.alloc (h : WInv w base cs v0 W v bs) (o : Obj) : WInv w base cs v0 (W.alloc o) v bs := h.call (Bel.alloc (Bel.refl W) o)
theorem WInv.bel (h : WInv w base cs v0 W v bs) (hb : base ≤ w.heap.size) : Below base w W := (Below.refl _ _).grown h.grown hb (fun k hk => (h.own0 k hk).1)
theorem WInv.base_le (h : WInv w base cs v0 W v bs) (hb : base ≤ w.heap.size) : base ≤ W.heap.size := Nat.le_trans hb (Nat.le_of_lt h.size)
theorem WInv.cells {l : Bool} {v1 v2 : Value} (h : WInv w base #[.bool l, v1, v2] v0 W v bs) :
    W.cell? ⟨w.heap.size, 0, none⟩ = some (.bool l) ∧ W.cell? ⟨w.heap.size, 1, none⟩ = some v1 ∧ W.cell? ⟨w.heap.size, 2, none⟩ = some v2 :=
  ⟨by rw [cell_of_row _ _ _ _ _ _ h.box]; rfl, by rw [cell_of_row _ _ _ _ _ _ h.box]; rfl, by rw [cell_of_row _ _ _ _ _ _ h.box]; rfl⟩
end
/-- what nest.write answers -/
def Wrote (w : World) (base : Nat) (v : Value) (bs : List UInt8) (e : Ending) (w' : World) : Prop :=
  ∃ v', e = .returned v' ∧ OwnAt w' base 5 1 byteR v' bs ∧ w.grownBy w' v.ownBlock ∧ Moved w v v'
theorem WInv.wrote {w : World} {base : Nat} {cs : Array Value} {v0 : Value} {W : World} {v : Value} {bs : List UInt8} (h : WInv w base cs v0 W v bs) : Wrote w base v0 bs (.returned v) W :=
  ⟨v, rfl, h.own, h.grown, fun g hg => (h.orig g hg).imp id Nat.le_of_lt⟩

def WriteC (d : Nat) : Prop := ∀ (F : Nat → Prop) (w : World) (base : Nat) (x : It) (l : Bool) (v1 v2 v : Value) (bs : List UInt8), base ≤ w.heap.size → (∀ b, F b → b < base) →
  ItemAt F w d [.bool l, v1, v2] x → OwnAt w base 5 1 byteR v bs → bs.length + x.whole ≤ 70368744177664 →
  Calls Try.prog 71 #[v, .agg #[.bool l, v1, v2]] w (Wrote w base v (bs ++ x.enc))

set_option maxHeartbeats 400000 in
theorem write_plain {d : Nat} (F : Nat → Prop) (w : World) (base : Nat) (x : It) (l : Bool) (v1 v2 v : Value) (bs : List UInt8) (hb : base ≤ w.heap.size) (hF : ∀ b, F b → b < base)
    (h : ItemAt F w d [.bool l, v1, v2] x) (hown : OwnAt w base 5 1 byteR v bs) (hlen : bs.length + x.whole ≤ 70368744177664) (hp : x.plain = true) :
    Calls Try.prog 71 #[v, .agg #[.bool l, v1, v2]] w (Wrote w base v (bs ++ x.enc)) := by
  obtain ⟨rfl, a1, n1, c1, a2, n2, c2, rfl, rfl, -, -⟩ := ItemAt.form h
  obtain ⟨i0, hi, hz0, hz1, hz2⟩ := info_parts infoU8
  go_enter Try.func71, Try.ntmps71
  go_wp2_with fail
  refine (plain_any (F := F) (d := d) (x := x) ?_).mono ?_
  · exact h.below ((Below.refl _ _).alloc (Nat.le_refl _) _)
  rintro e w1 ⟨rfl, hb1⟩
  have hI : WInv w base #[.bool x.isList, .slice a1 n1 c1, .slice a2 n2 c2] v w1 v bs := (WInv.start hown).call hb1
  have hsrc : BytesAt F w1 (.slice a1 n1 c1) x.bytes := (ItemAt.bytes h).carry (fun _ _ x => x) (fun b hFb _ => (hI.bel hb).block b (hF b hFb))
  have hle : (bs.length + x.bytes.length) * 1 ≤ 140737488355328 := by
    have := It.body_le_whole x; rw [It.body_eq] at this; omega
  have hb1' := hI.base_le hb
  obtain ⟨q0, q1, q2⟩ := hI.cells
  clear hb1
  go_wp2_with (at_builtin; refine wpList_append_at rfl (.tmp 13) (.tmp 15) 25 rfl base 5 i0 (.int .u8 0) 1 1 underlying25 hi hz0 hz1 hz2 rfl (by decide) (by decide) byteR.one _ bs rfl hI.own _ x.bytes F rfl hsrc hle hb1' ?_; intro v' w2 ho hg hw)
  go_ret
  have := (hI.append ho hg hw).wrote
  rwa [It.enc_eq, if_pos hp]

set_option maxHeartbeats 400000 in
set_option maxRecDepth 100000 in
theorem write_long {d : Nat} (hd : WriteC d) (F : Nat → Prop) (w : World) (base : Nat) (x : It) (l : Bool) (v1 v2 v : Value) (bs : List UInt8) (hb : base ≤ w.heap.size) (hF : ∀ b, F b → b < base)
    (h : ItemAt F w (d + 1) [.bool l, v1, v2] x) (hown : OwnAt w base 5 1 byteR v bs) (hlen : bs.length + x.whole ≤ 70368744177664) (hp : x.plain = false) :
    Calls Try.prog 71 #[v, .agg #[.bool l, v1, v2]] w (Wrote w base v (bs ++ x.enc)) := by
  obtain ⟨rfl, a1, n1, c1, a2, n2, c2, rfl, rfl, -, -⟩ := ItemAt.form h
  obtain ⟨i0, hi, hz0, hz1, hz2⟩ := info_parts infoU8
  have HD := Lib.hid hd
  clear hd
  obtain ⟨n, hn⟩ : ∃ n, n = x.body := ⟨_, rfl⟩
  have HN := Lib.hid hn
  have hbw := It.body_le_whole x
  have hle : n ≤ 70368744177664 := by omega
  clear hn hbw
  have hLB : (x.isList = false ∧ (x.base : Int) = 128) ∨ (x.isList = true ∧ (x.base : Int) = 192) := by
    unfold It.base
    cases x.isList <;> simp
  rcases hLB with ⟨hL, hB⟩ | ⟨hL, hB⟩
  all_goals
    have HBB := Lib.hid hB
    clear hB
    rw [hL] at h ⊢
    have HL := Lib.hid hL
    clear hL
    go_enter Try.func71, Try.ntmps71
    go_wp2_with fail
    refine (plain_any (F := F) (d := d + 1) (x := x) ?_).mono ?_
    · exact h.below ((Below.refl _ _).alloc (Nat.le_refl _) _)
    rintro e w1 ⟨rfl, hb1⟩
    have hI : WInv w base #[_, .slice a1 n1 c1, .slice a2 n2 c2] v w1 v bs := (WInv.start hown).call hb1
    clear hb1
    obtain ⟨q0, q1, q2⟩ := hI.cells
    go_wp2_with fail
    refine (body_any (d + 1) F _ x _ _ _ ?_ ?_).mono ?_
    · exact h.carry (fun _ _ x => x) (fun b hFb _ => (hI.bel hb).block b (hF b hFb))
    · rw [← HN.out]; omega
    rintro e w2 ⟨rfl, hb2⟩
    rw [← HN.out]
    replace hI := hI.call hb2
    clear hb2 q0 q1 q2
    obtain ⟨q0, q1, q2⟩ := hI.cells
    obtain ⟨hd, hhd⟩ : ∃ hd, hd = headB x.base n := ⟨_, rfl⟩
    have hsz : hd.length + n = x.whole := by
      rw [hhd, headB_length, It.whole_eq, hp, ← HN.out]; rfl
    have HH := Lib.hid hhd
    have hle1 : (bs.length + hd.length) * 1 ≤ 140737488355328 := by omega
    by_cases h55 : n ≤ 55
    case' pos =>
      have hsrc1 : Hid (BytesAt (fun _ => True) (w2.alloc (.cells #[.int .u8 (x.base + n)] 5)) (.slice (some ⟨w2.heap.size, 0, none⟩) 1 1) hd) := by
        rw [hhd]; unfold headB; rw [if_pos h55]
        exact byte_new _ _ _ _ (by omega) (by unfold It.base; split <;> omega)
      rw [HBB.out] at hsrc1
      clear hhd
      have hb1' := fun o => (hI.alloc o).base_le hb
      go_wp2_with (at_builtin; refine wpList_append_at rfl (.tmp 23) (.tmp 28) 25 rfl base 5 i0 (.int .u8 0) 1 1 underlying25 hi hz0 hz1 hz2 rfl (by decide) (by decide) byteR.one _ bs rfl (hI.alloc _).own _ hd (fun _ => True) rfl hsrc1.out hle1 (hb1' _) ?next1)
      case' next1 => intro v' w3 ho hg hw
      replace hI := (hI.alloc _).append ho hg hw
      clear ho hg hw q0 q1 q2 hle1 hb1' hsrc1
    case' neg =>
      clear hhd
      have hk6 := number_le 6 n (by omega)
      have hk1 : 1 ≤ number n := by rw [number_pos (by omega)]; omega
      go_wp2_with fail
      refine (number_any n _ (by omega)).mono ?_
      rintro e w3 ⟨rfl, rfl⟩
      obtain ⟨k, hk⟩ : ∃ k, k = number n := ⟨_, rfl⟩
      rw [← hk] at hk6 hk1 ⊢
      have HK := Lib.hid hk
      clear hk
      have hb1' := fun o => (hI.alloc o).base_le hb
      have hsrc1 : Hid (BytesAt (fun _ => True) (w2.alloc (.cells #[.int .u8 (x.base + 55 + k)] 5)) (.slice (some ⟨w2.heap.size, 0, none⟩) 1 1) (hd.take 1)) := by
        rw [HH.out]; unfold headB; rw [if_neg h55, ← HK.out]
        exact byte_new _ _ _ _ (by omega) (by unfold It.base; split <;> omega)
      rw [HBB.out] at hsrc1
      simp only [Int.reduceAdd] at hsrc1
      have hle3 : (bs.length + (hd.take 1).length) * 1 ≤ 140737488355328 := by rw [List.length_take]; omega
      have hk : hd.length = k + 1 := by rw [HH.out]; unfold headB; rw [if_neg h55, ← HK.out]; simp [beBytes_length]
      have HKL := Lib.hid hk
      clear hk
      go_wp2_with (at_builtin; refine wpList_append_at rfl (.tmp 32) (.tmp 38) 25 rfl base 5 i0 (.int .u8 0) 1 1 underlying25 hi hz0 hz1 hz2 rfl (by decide) (by decide) byteR.one _ bs rfl (hI.alloc _).own _ (hd.take 1) (fun _ => True) rfl hsrc1.out hle3 (hb1' _) ?_; intro v1 w4 ho hg hw)
      replace hI := (hI.alloc _).append ho hg hw
      clear ho hg hw q0 q1 q2 hb1' hsrc1 hle3
      have HI := Lib.hid hI
      clear hI
      go_loopw [0, 8] (fun s i wr => ∃ (j : Nat) (vr : Value), j ≤ k ∧ i = .int .i64 ((j : Int) - 1) ∧ s = vr ∧ Hid (WInv w base #[.bool _, .slice a1 n1 c1, .slice a2 n2 c2] v wr vr (bs ++ hd.take (1 + (k - j))))) (fun _ i _ => (intOf i + 1).toNat)
      case atStart => exact ⟨k, _, Nat.le_refl _, num_eq (by omega), rfl, by rw [Nat.sub_self]; exact HI.out⟩
      case' round =>
        obtain ⟨j, vr, hj, rfl, rfl, HR⟩ := hrel
        clear HI
        obtain ⟨w3, rfl⟩ : ∃ w3 : World, w3 = wr := ⟨_, rfl⟩
        obtain ⟨v', rfl⟩ : ∃ v' : Value, v' = u0 := ⟨_, rfl⟩
        by_cases hj0 : 0 < j
        case' pos =>
          obtain ⟨y, hy⟩ : ∃ y, y = UInt8.ofNat (n / 256 ^ (j - 1) % 256) := ⟨_, rfl⟩
          obtain ⟨L, hL⟩ : ∃ L, L = hd.take (1 + (k - j)) := ⟨_, rfl⟩
          have HE : Hid (L ++ [y] = hd.take (1 + (k - (j - 1)))) := by
            show _ = _
            have h1 := beBytes_take k n (k - j) (by omega)
            rw [hL, hy, HH.out, headB, if_neg h55, ← HK.out, show 1 + (k - j) = (k - j) + 1 by omega, show 1 + (k - (j - 1)) = (k - j + 1) + 1 by omega, List.take_succ_cons, List.take_succ_cons, h1, show k - 1 - (k - j) = j - 1 by omega]
            rfl
          have hsrc1 : Hid (BytesAt (fun _ => True) (w3.alloc (.cells #[.int .u8 ((n : Int) / 2 ^ (8 * (j - 1)) % 256)] 5)) (.slice (some ⟨w3.heap.size, 0, none⟩) 1 1) [y]) := by
            rw [hy]
            exact byte_new _ _ _ _ (shift_byte n (j - 1)) (Nat.mod_lt _ (by omega))
          rw [← hL] at HR
          have hle3 : ((bs ++ L).length + [y].length) * 1 ≤ 140737488355328 := by rw [List.length_append, hL, List.length_take]; simp; omega
          have hb1' := fun o => ((HR.out).alloc o).base_le hb
          clear hy hL
          go_wp2_with (at_builtin; refine wpList_append_at rfl (.tmp 46) (.tmp 52) 25 rfl base 5 i0 (.int .u8 0) 1 1 underlying25 hi hz0 hz1 hz2 rfl (by decide) (by decide) byteR.one _ (bs ++ L) rfl ((HR.out).alloc _).own _ [y] (fun _ => True) rfl hsrc1.out hle3 (hb1' _) ?_; intro v5 w5 ho hg hw)
          have HI5 := Lib.hid (((HR.out).alloc _).append (m := [y]) ho hg hw)
          clear ho hg hw
          go_roundw
          case rel => exact ⟨j - 1, v5, by omega, num_eq (by omega), rfl, (by rw [← HE.out, ← List.append_assoc]; exact HI5.out)⟩
          case measure => simp [intOf]; omega
        case' neg =>
          obtain rfl : j = 0 := by omega
          have hI := HR.out
          rw [Nat.sub_zero, Nat.add_comm, ← HKL.out, List.take_length] at hI
    all_goals
      obtain ⟨q0, q1, q2⟩ := hI.cells
      have hsrc : BytesAt F w3 (.slice a1 n1 c1) x.bytes := (ItemAt.bytes h).carry (fun _ _ x => x) (fun b hFb _ => (hI.bel hb).block b (hF b hFb))
      have hle2 : ((bs ++ hd).length + x.bytes.length) * 1 ≤ 140737488355328 := by
        have h2 := HN.out
        rw [It.body_eq] at h2
        simp only [List.length_append]; omega
      have hb1' := hI.base_le hb
      go_wp2_with (at_builtin; refine wpList_append_at rfl (.tmp 54) (.tmp 56) 25 rfl base 5 i0 (.int .u8 0) 1 1 underlying25 hi hz0 hz1 hz2 rfl (by decide) (by decide) byteR.one _ (bs ++ hd) rfl hI.own _ x.bytes F rfl hsrc hle2 hb1' ?next)
      case next =>
      intro v'' w4 ho hg hw
      replace hI := hI.append (m := x.bytes) (by first | exact ho | (rw [List.append_assoc]; exact ho)) hg hw
      clear ho hg hw q0 q1 q2 hle2 hb1' hsrc
      obtain ⟨q0, q1, q2⟩ := hI.cells
      have his : ItemsAt F w4 d (.slice a2 n2 c2) x.items := (ItemAt.items h).carry (fun _ _ x => x) (fun b hFb _ => (hI.bel hb).block b (hF b hFb))
      have hbody : x.bytes.length + It.wholes x.items = n := by rw [HN.out, It.body_eq]
      have HF : Hid (bs ++ x.enc = bs ++ hd ++ x.bytes ++ It.encs x.items) := by
        show _ = _
        rw [It.enc_eq, hp, HH.out, ← HN.out, It.bodyB_eq]
        simp only [Bool.false_eq_true, if_false, List.append_assoc]
      rcases SliceAt.split his with ⟨he, rfl⟩ | ⟨b, o, rfl, hn2, hpos, -⟩
      · go_wp2_with fail
        go_rounds 1
        go_ret
        rw [HF.out, he]
        simpa [It.encs] using hI.wrote
      · have HN2 := Lib.hid hn2
        have hn63 : n2 ≤ 70368744177664 := by
          have : x.items.length ≤ It.wholes x.items := It.length_le_wholes _
          omega
        have HS := Lib.hid hsz
        clear hn2 hbody hsz
        have hq := hI.size
        have HI := Lib.hid hI
        have HIS := Lib.hid his
        clear hI his
        go_wp2_with fail
        obtain ⟨w0, hw0⟩ : ∃ w0, w0 = w4 := ⟨_, rfl⟩
        go_loopw [0, 10, 61] (fun s y i wr => ∃ (k : Nat) (vr : Value), k ≤ n2 ∧ i = .int .i64 k ∧ s = vr ∧ Hid (WInv w base #[.bool _, .slice a1 n1 c1, .slice (some ⟨b, o, none⟩) n2 c2] v wr vr (bs ++ hd ++ x.bytes ++ It.encs (x.items.take k)))) (fun _ _ i _ => n2 - (intOf i).toNat)
        case atStart => exact ⟨0, _, Nat.zero_le _, rfl, rfl, (by show WInv _ _ _ _ _ _ _; simpa [It.encs] using HI.out)⟩
        case round =>
          obtain ⟨k, vr, hk, rfl, rfl, HR⟩ := hrel
          have hN := HN2.out
          by_cases hlt : k < n2
          · have hki : k < x.items.length := by omega
            have hwr := HR.out
            have his' := (HIS.out).carry (F' := F) (w' := wr) (fun _ _ x => x) (fun b hFb _ => by rw [hwr.bel hb |>.block b (hF b hFb)]; exact (HI.out.bel hb |>.block b (hF b hFb)).symm)
            obtain ⟨b1, m1, d1, b2, m2, d2, q0, q1, q2, hit⟩ := ItemsAt.cell his' k hki
            obtain ⟨y, hy⟩ : ∃ y, y = x.items[k] := ⟨_, rfl⟩
            obtain ⟨L, hL⟩ : ∃ L, L = bs ++ hd ++ x.bytes ++ It.encs (x.items.take k) := ⟨_, rfl⟩
            have hlen5 : L.length + y.whole ≤ 70368744177664 := by
              have h1 := It.wholes_take_succ x.items k hki
              have h2 := It.wholes_take_le x.items (k + 1)
              have h3 := HN.out
              have h4 := HS.out
              rw [It.body_eq] at h3
              rw [hL, hy]
              simp only [List.length_append, It.encs_length]
              omega
            have HE : Hid (L ++ y.enc = bs ++ hd ++ x.bytes ++ It.encs (x.items.take (k + 1))) := by
              show _ = _
              rw [hL, It.encs_take_succ _ _ hki, ← hy]; simp only [List.append_assoc]
            rw [← hL] at HR hwr
            rw [← hy] at q0 hit
            clear hy hL his' hwr hN
            go_wp2_with fail
            refine (HD.out F _ base y _ _ _ _ L ?_ hF ?_ ?_ hlen5).mono ?_
            · exact ((HR.out).alloc _).base_le hb
            · exact hit.below ((Below.refl _ _).alloc (Nat.le_refl _) _)
            · exact ((HR.out).alloc _).own
            rintro e w5 ⟨v5, rfl, ho5, hg5, hm5⟩
            have HI5 := Lib.hid (((HR.out).alloc _).append ho5 hg5 hm5)
            clear ho5 hg5 hm5
            go_wp2_with fail
            go_roundw
            case rel => exact ⟨k + 1, v5, by omega, num_eq (by omega), rfl, (by show WInv _ _ _ _ _ _ _; rw [← HE.out]; exact HI5.out)⟩
            case measure => simp [intOf]; omega
          · obtain rfl : k = n2 := by omega
            go_wp2
            go_ret
            have := HR.out
            rw [HF.out]
            rw [List.take_of_length_le (by omega)] at this
            exact this.wrote

end Go.Proofs.Ytndkkgkcbbmnpaa
