/-
  Contract of witness.Encode.
  Contracts of (*nest.reader).fail, take.
  Contract of (*nest.reader).size.
  Contract of (*nest.reader).item, where that of list is known.
  Contract of (*nest.reader).item at bytes that are there, where that of list is known.
  The append law as one step of a region that draws its order.
  Contract of (*nest.reader).list, where that of item is known.
-/
import Derived.Test.YtndkkgkcbbmnpaaQbAC
import Derived.Test.YtndkkgkcbbmnpaaProg
import Derived.Deep.AppendLies
import Derived.Deep.RegionLaw
namespace Go.Pg
open Go.RowKit
/-- a witness as an item -/
def witI (N C : List (List UInt8)) : It := .list [textsI N, textsI C]
/-- a witness' bytes, and the error's number -/
def witEncode (N C : List (List UInt8)) : List UInt8 × Nat :=
  if rising N && rising C then (if (witI N C).encode.2 = 0 then ((witI N C).encode.1, 0) else ([], 210)) else ([], 210)
end Go.Pg
namespace Go.Proofs.Ytndkkgkcbbmnpaa
open Go.RowKit Go.Pg

theorem pairI {w2 w3 w4 : World} {N C : List (List UInt8)} {v1 u1 v2 u2 : Value} (h3 : Below w2.heap.size w2 w3) (h4 : Below w3.heap.size w3 w4)
    (hit3 : ItemAt (fun b => w2.heap.size ≤ b) w3 2 [.bool true, v1, v2] (textsI N)) (hit4 : ItemAt (fun b => w3.heap.size ≤ b) w4 2 [.bool true, u1, u2] (textsI C)) (t : TypeId) :
    ItemsAt (fun b => w2.heap.size ≤ b) (w4.alloc (.cells #[.bool true, v1, v2, .bool true, u1, u2] t)) 2 (.slice (some ⟨w4.heap.size, 0, none⟩) 2 2) [textsI N, textsI C] := by
  have h1 : ItemAt (fun b => w2.heap.size ≤ b) w4 2 [.bool true, v1, v2] (textsI N) := hit3.below h4
  have h2 : ItemAt (fun b => w2.heap.size ≤ b) w4 2 [.bool true, u1, u2] (textsI C) := hit4.carry (fun b _ hb => Nat.le_trans h3.size hb) (fun _ _ _ => rfl)
  exact rows_alloc (l := [textsI N, textsI C]) (carriedItem 2) ((Rows.one h1 rfl).append (Rows.one h2 rfl)) (show 2 ≤ maxLen by decide) (fun _ _ x => x) (Nat.le_trans h3.size h4.size) t

set_option maxRecDepth 100000 in
set_option maxHeartbeats 1000000 in
theorem wencode_any (F : Nat → Prop) (w : World) (a1 a2 : Option Addr) (n1 c1 n2 c2 : Nat) (N C : List (List UInt8)) (hN : RowsAt F w (.slice a1 n1 c1) N) (hC : RowsAt F w (.slice a2 n2 c2) C)
    (hNl : N.length ≤ 1099511627776) (hCl : C.length ≤ 1099511627776) (hNx : ∀ x ∈ N, x.length ≤ 140737488351232) (hCx : ∀ x ∈ C, x.length ≤ 140737488351232) (hw : (witI N C).whole ≤ 140737488351232) :
    Calls Try.prog 13 #[.agg #[.slice a1 n1 c1, .slice a2 n2 c2]] w (Encd w (witEncode N C)) := by
  have HW := Lib.hid hw
  have HNX := Lib.hid hNx
  have HCX := Lib.hid hCx
  obtain ⟨W0, hW0⟩ : ∃ W0, W0 = w.alloc (.cells #[.slice a1 n1 c1, .slice a2 n2 c2] 24) := ⟨_, rfl⟩
  have hb0 : Below w.heap.size w W0 := by rw [hW0]; exact Bel.alloc (Bel.refl w) _
  have hk0 : W0.heap[w.heap.size]? = some (.cells #[.slice a1 n1 c1, .slice a2 n2 c2] 24 (0, 0)) := by rw [hW0]; exact heap_alloc_new w _
  have HW0 := Lib.hid hW0
  clear hw hNx hCx hW0
  obtain ⟨r1, hr1⟩ : ∃ r, r = rising N := ⟨_, rfl⟩
  obtain ⟨r2, hr2⟩ : ∃ r, r = rising C := ⟨_, rfl⟩
  have HR1 := Lib.hid hr1
  have HR2 := Lib.hid hr2
  clear hr1 hr2
  have hN0 := RowsAt.below hN hb0
  have hC0 := RowsAt.below hC hb0
  obtain ⟨p0, p1⟩ := cells2 hk0
  have hsz0 := (Array.getElem?_eq_some_iff.1 hk0).1
  have HK0 := Lib.hid hk0
  have HB0 := Lib.hid hb0
  clear hk0 hb0
  cases hr1v : r1
  · go_enter Try.func13, Try.ntmps13
    go_wp2_with fail
    rw [← HW0.out]
    refine (rises_any F W0 _ N hN0 (by omega)).mono ?_
    rintro e w1 ⟨rfl, hb1⟩
    rw [← HR1.out, hr1v]
    have HB1 := Lib.hid (Bel.call HB0.out hb1)
    clear hb1
    go_wp2
    go_ret2
    have hr : (rising N && rising C) = false := by rw [← HR1.out, hr1v]; rfl
    exact ⟨.slice none 0 0, by unfold witEncode; rw [hr]; rfl, by unfold witEncode; rw [hr]; exact OwnAt.nil _ _ _ _ _, HB1.out⟩
  · cases hr2v : r2
    · go_enter Try.func13, Try.ntmps13
      go_wp2_with fail
      rw [← HW0.out]
      refine (rises_any F W0 _ N hN0 (by omega)).mono ?_
      rintro e w1 ⟨rfl, hb1⟩
      rw [← HR1.out, hr1v]
      have q1 := (hb1.cell (p := ⟨w.heap.size, 1, none⟩) hsz0).trans p1
      have HB1 := Lib.hid hb1
      clear hb1
      go_wp2_with fail
      refine (rises_any F w1 _ C (RowsAt.below hC0 HB1.out) (by omega)).mono ?_
      rintro e w2 ⟨rfl, hb2⟩
      rw [← HR2.out, hr2v]
      have HB2 := Lib.hid (Bel.call (Bel.call HB0.out HB1.out) hb2)
      clear hb2 q1
      go_wp2
      go_ret2
      have hr : (rising N && rising C) = false := by rw [← HR2.out, hr2v]; simp
      exact ⟨.slice none 0 0, by unfold witEncode; rw [hr]; rfl, by unfold witEncode; rw [hr]; exact OwnAt.nil _ _ _ _ _, HB2.out⟩
    · go_enter Try.func13, Try.ntmps13
      go_wp2_with fail
      rw [← HW0.out]
      refine (rises_any F W0 _ N hN0 (by omega)).mono ?_
      rintro e w1 ⟨rfl, hb1⟩
      rw [← HR1.out, hr1v]
      have q1 := (hb1.cell (p := ⟨w.heap.size, 1, none⟩) hsz0).trans p1
      have HB1 := Lib.hid hb1
      clear hb1
      go_wp2_with fail
      refine (rises_any F w1 _ C (RowsAt.below hC0 HB1.out) (by omega)).mono ?_
      rintro e w2 ⟨rfl, hb2⟩
      rw [← HR2.out, hr2v]
      have HB2 := Lib.hid (Bel.call HB1.out hb2)
      clear hb2 q1
      have q0 := ((HB2.out).cell (p := ⟨w.heap.size, 0, none⟩) hsz0).trans p0
      have q1 := ((HB2.out).cell (p := ⟨w.heap.size, 1, none⟩) hsz0).trans p1
      go_wp2_with fail
      have hN2 : ∀ W : World, W.heap = w2.heap → RowsAt F W (.slice a1 n1 c1) N := fun W hW => RowsAt.carry (RowsAt.below hN0 HB2.out) (fun _ _ x => x) (fun b _ _ => by rw [hW])
      have hC2 : ∀ W : World, W.heap = w2.heap → RowsAt F W (.slice a2 n2 c2) C := fun W hW => RowsAt.carry (RowsAt.below hC0 HB2.out) (fun _ _ x => x) (fun b _ _ => by rw [hW])
      have hkeep : ∀ W, Below w2.heap.size w2 W → W.cell? ⟨w.heap.size, 0, none⟩ = some (.slice a1 n1 c1) ∧ W.cell? ⟨w.heap.size, 1, none⟩ = some (.slice a2 n2 c2) := fun W hW => ⟨cell_below hW q0, cell_below hW q1⟩
      have HN2 := Lib.hid hN2
      have HC2 := Lib.hid hC2
      have HK2 := Lib.hid hkeep
      clear hN2 hC2 hkeep
      go_region_held3 (fun w' => w'.cell? ⟨w.heap.size, 0, none⟩ = some (.slice a1 n1 c1) ∧ w'.cell? ⟨w.heap.size, 1, none⟩ = some (.slice a2 n2 c2)) (first | go_keep | exact HK2.out _ (by assumption) | exact HK2.out _ (Bel.alloc (by assumption) _))
        (first
          | (go_at_call_of 43 (Value.slice a1 n1 c1); refine (texts_any F _ _ N ?_ hNl HNX.out).mono ?_; (exact HN2.out _ rfl); rintro e w3 ⟨v3, rfl, hit3, hb3⟩; have hB3 : Below w2.heap.size w2 w3 := Bel.call (Bel.drew (Bel.refl w2)) hb3; obtain ⟨-, x1, y1, z1, x2, y2, z2, -, rfl, -, -⟩ := ItemAt.form hit3)
          | (go_at_call_of 43 (Value.slice a2 n2 c2); refine (texts_any F _ _ C ?_ hCl HCX.out).mono ?_; (exact RowsAt.below (HC2.out w2.drew rfl) hb3); rintro e w4 ⟨v4, rfl, hit4, hb4⟩; have hB4 : Below w2.heap.size w2 w4 := Bel.call hB3 hb4; obtain ⟨-, x1', y1', z1', x2', y2', z2', -, rfl, -, -⟩ := ItemAt.form hit4)
          | (go_at_call 42; refine (list_any (fun b => w2.heap.size ≤ b) _ _ 2 [textsI N, textsI C] ?_ (show 2 ≤ 1099511627776 by omega)).mono ?_; (exact pairI hB3 hb4 hit3 hit4 _); rintro e w5 ⟨v5, rfl, hit5, hb5⟩; have hB5 : Below w2.heap.size w2 w5 := Bel.call (Bel.alloc hB4 _) hb5; obtain ⟨-, x1'', y1'', z1'', x2'', y2'', z2'', -, rfl, -, -⟩ := ItemAt.form hit5)
          | (go_at_call 41; refine (encode_any _ w5 3 (witI N C) _ _ _ hit5 HW.out).mono ?_; rintro e w6 ⟨v6, rfl, ho6, hb6⟩; have hB6 : Below w2.heap.size w2 w6 := Bel.call hB5 hb6))
      have HB6 := Lib.hid (Bel.call HB0.out (Below.trans HB2.out (hB6.mono (HB2.out).size)))
      obtain ⟨E, hE⟩ : ∃ E, E = (witI N C).encode := ⟨_, rfl⟩
      rw [← hE] at ho6 ⊢
      have HE := Lib.hid hE
      have hbase := Nat.le_trans (HB0.out).size (HB2.out).size
      have hbase5 := hB5.size
      have ho7 := ho6.lower (Nat.le_trans hbase hbase5)
      clear hE hB3 hB4 hB5 hB6 hb3 hb4 hb5 hb6 hit3 hit4 hit5 ho6 q0 q1
      have hr : (rising N && rising C) = true := by rw [← HR1.out, ← HR2.out, hr1v, hr2v]; rfl
      have HR := Lib.hid hr
      clear hr
      by_cases he : E.2 = 0
      · have he2 : (((E.2 : Nat) : Int) != 0) = false := by simp; omega
        go_wp2
        go_ret2
        exact ⟨v6, by unfold witEncode; rw [if_pos HR.out, ← HE.out, if_pos he]; rfl, by unfold witEncode; rw [if_pos HR.out, ← HE.out, if_pos he]; exact ho7, HB6.out⟩
      · have he2 : (((E.2 : Nat) : Int) != 0) = true := by simp; omega
        go_wp2
        go_ret2
        exact ⟨.slice none 0 0, by unfold witEncode; rw [if_pos HR.out, ← HE.out, if_neg he]; rfl, by unfold witEncode; rw [if_pos HR.out, ← HE.out, if_neg he]; exact OwnAt.nil _ _ _ _ _, HB6.out⟩

end Go.Proofs.Ytndkkgkcbbmnpaa
namespace Go.Proofs.Ytndkkgkcbbmnpaa
open Go.RowKit Go.Pg

theorem blk_set {w : World} {g i : Nat} {cs : Array Value} {t : TypeId} {v : Value} (hg : w.heap[g]? = some (.cells cs t (0, 0))) :
    (w.setCell ⟨g, i, none⟩ v).heap[g]? = some (.cells (cs.setIfInBounds i v) t (0, 0)) := heap_setCell_same w g i cs t v hg

/-- the first fault is noted; an empty item is told -/
def Failed (w : World) (rb : Nat) (v : Value) (n : Nat) (e : Ending) (w' : World) : Prop :=
  e = .returned (.agg #[.bool false, .slice none 0 0, .slice none 0 0]) ∧ w'.heap[rb]? = some (.cells #[v, .int .i64 n] 117 (0, 0)) ∧ Chg (fun k => k = rb) w w'
set_option maxHeartbeats 400000 in
theorem fail_any (w : World) (rb : Nat) (a : Option Addr) (n c : Nat) (code : Nat) (hk : w.heap[rb]? = some (.cells #[.slice a n c, .int .i64 0] 117 (0, 0))) :
    Calls Try.prog 108 #[.pointer (some ⟨rb, 0, none⟩), .int .i64 code] w (Failed w rb (.slice a n c) code) := by
  have hlt := (Array.getElem?_eq_some_iff.1 hk).1
  obtain ⟨q0, q1⟩ := cells2 hk
  have f1 := frozen_of_row w rb 1 _ _ hk
  have hne : rb ≠ w.heap.size := by omega
  have HK := Lib.hid hk
  clear hk
  go_enter Try.func108, Try.ntmps108
  go_wp2
  go_returns
  exact ⟨rfl, (Below.heap_alloc _ _ _ (by simpa using hlt)).trans (blk_set HK.out), ((Chg.refl (fun k => k = rb) w).atb (i := 1) _).alloc _⟩

/-- the next k bytes, or none -/
def Took (F : Nat → Prop) (w : World) (rb : Nat) (bs : List UInt8) (k : Nat) (e : Ending) (w' : World) : Prop :=
  ∃ a1 c1 a2 n2 c2, e = .returned (.tuple #[.slice a1 k c1, .bool true]) ∧ BytesAt F w' (.slice a1 k c1) (bs.take k) ∧ BytesAt F w' (.slice a2 n2 c2) (bs.drop k) ∧
    w'.heap[rb]? = some (.cells #[.slice a2 n2 c2, .int .i64 0] 117 (0, 0)) ∧ Chg (fun k => k = rb) w w'
set_option maxHeartbeats 400000 in
theorem take_ok (F : Nat → Prop) (w : World) (rb : Nat) (a : Option Addr) (n c k : Nat) (bs : List UInt8) (h : BytesAt F w (.slice a n c) bs) (hk : w.heap[rb]? = some (.cells #[.slice a n c, .int .i64 0] 117 (0, 0))) (hF : ¬ F rb)
    (hkn : k ≤ n) (_hn : n ≤ 1152921504606846976) :
    Calls Try.prog 107 #[.pointer (some ⟨rb, 0, none⟩), .int .i64 k] w (Took F w rb bs k) := by
  have hlt := (Array.getElem?_eq_some_iff.1 hk).1
  obtain ⟨q0, q1⟩ := cells2 hk
  have f0 := frozen_of_row w rb 0 _ _ hk
  have HK := Lib.hid hk
  have hc : n ≤ c := by
    obtain ⟨a', c', hv, h1, -⟩ := h
    simp only [Value.slice.injEq] at hv
    omega
  obtain ⟨a2, ha2⟩ : ∃ a2, (if c = k then a else a.map (·.add k)) = a2 := ⟨_, rfl⟩
  have HU := Lib.hid (BytesAt.upto h k hkn)
  have HS := Lib.hid (BytesAt.since h k hkn ha2)
  clear hk h
  go_enter Try.func107, Try.ntmps107
  go_wp2
  go_ret2
  have hcar : ∀ b, F b → b < w.heap.size → (w.setCell ⟨rb, 0, none⟩ (.slice a2 (n - k) (c - k))).heap[b]? = w.heap[b]? := fun b hb _ => Below.heap_setCell _ _ _ _ (fun e => hF (by rw [← show b = rb from e]; exact hb))
  exact ⟨a, c, a2, n - k, c - k, rfl, BytesAt.carry HU.out (fun _ _ x => x) hcar, BytesAt.carry HS.out (fun _ _ x => x) hcar, blk_set HK.out, (Chg.refl (fun k => k = rb) w).atb (i := 0) _⟩

set_option maxHeartbeats 400000 in
theorem take_no (w : World) (rb : Nat) (a : Option Addr) (n c : Nat) (k : Int) (hk : w.heap[rb]? = some (.cells #[.slice a n c, .int .i64 0] 117 (0, 0))) (hkn : (n : Int) < k) :
    Calls Try.prog 107 #[.pointer (some ⟨rb, 0, none⟩), .int .i64 k] w fun e w' => e = .returned (.tuple #[.slice none 0 0, .bool false]) ∧
      w'.heap[rb]? = some (.cells #[.slice a n c, .int .i64 (22 : Nat)] 117 (0, 0)) ∧ Chg (fun k => k = rb) w w' := by
  obtain ⟨q0, q1⟩ := cells2 hk
  have HK := Lib.hid hk
  clear hk
  go_enter Try.func107, Try.ntmps107
  go_wp2_with fail
  refine (fail_any _ rb a n c 22 HK.out).mono ?_
  rintro e w1 ⟨rfl, h1, h2⟩
  have H1 := Lib.hid h1
  have H2 := Lib.hid h2
  clear h1 h2
  go_wp2
  go_ret2
  exact ⟨rfl, H1.out, H2.out⟩
end Go.Proofs.Ytndkkgkcbbmnpaa
namespace Go.Pg
open Go.RowKit
theorem bits_or_i64_nat (a b : Nat) (ha : a < 4611686018427387904) (hb : b < 4611686018427387904) : bits .or .i64 (a : Int) (b : Int) = ((a ||| b : Nat) : Int) := by
  have hx : a ||| b < 2 ^ 62 := Nat.or_lt_two_pow (by omega) (by omega)
  have h1 : (BitVec.ofInt 64 (a : Int)).toNat = a := by
    rw [BitVec.ofInt_natCast, BitVec.toNat_ofNat]; exact Nat.mod_eq_of_lt (by omega)
  have h2 : (BitVec.ofInt 64 (b : Int)).toNat = b := by
    rw [BitVec.ofInt_natCast, BitVec.toNat_ofNat]; exact Nat.mod_eq_of_lt (by omega)
  show IntKind.i64.wrap ((BitVec.ofInt 64 (a : Int) ||| BitVec.ofInt 64 (b : Int)).toNat : Int) = _
  rw [BitVec.toNat_or, h1, h2, IntWalk.i64_in]
  omega
theorem or_byte' (p : Nat) (x : UInt8) (hp : p < 16777216) : bits .or .i64 ((p : Int) * 256) (x.toNat : Int) = ((p * 256 + x.toNat : Nat) : Int) := by
  have hx := x.toNat_lt
  have e : ((p : Int) * 256) = ((p * 256 : Nat) : Int) := by omega
  rw [e, bits_or_i64_nat _ _ (by omega) (by omega)]
  have := Nat.two_pow_add_eq_or_of_lt (i := 8) (b := x.toNat) (by omega) p
  rw [show p * 256 = 2 ^ 8 * p by omega, ← this]
theorem or_byte (p : Nat) (x : UInt8) (hp : p < 16777216) : bits .or .i64 ((p : Int) * 256) (wrap64 (x.toNat : Int)) = ((p * 256 + x.toNat : Nat) : Int) := by
  have hx := x.toNat_lt
  rw [IntWalk.wrap64_in _ (by omega)]
  exact or_byte' p x hp
end Go.Pg
namespace Go.Proofs.Ytndkkgkcbbmnpaa
open Go.RowKit Go.Pg

/-- a size was read, or a fault noted -/
def SizeC (F : Nat → Prop) (w : World) (rb : Nat) (r : Nat × Nat × List UInt8) (e : Ending) (w' : World) : Prop :=
  (r.1 = 0 → e = .returned (.tuple #[.int .i64 r.2.1, .bool true])) ∧ (r.1 ≠ 0 → e = .returned (.tuple #[.int .i64 0, .bool false])) ∧
    ∃ a2 n2 c2, (r.1 = 0 → BytesAt F w' (.slice a2 n2 c2) r.2.2) ∧ w'.heap[rb]? = some (.cells #[.slice a2 n2 c2, .int .i64 r.1] 117 (0, 0)) ∧ Chg (fun k => k = rb) w w'

set_option maxRecDepth 100000 in
set_option maxHeartbeats 1000000 in
theorem size_any (F : Nat → Prop) (w : World) (rb : Nat) (a : Option Addr) (n c : Nat) (m : Nat) (bs : List UInt8) (h : BytesAt F w (.slice a n c) bs) (hk : w.heap[rb]? = some (.cells #[.slice a n c, .int .i64 0] 117 (0, 0))) (hF : ¬ F rb)
    (hn : n ≤ 1152921504606846976) (hm : m ≤ 255) :
    Calls Try.prog 110 #[.pointer (some ⟨rb, 0, none⟩), .int .i64 m] w (SizeC F w rb (readSize m bs)) := by
  have hnb : n = bs.length := by
    obtain ⟨a', c', hv, h1, -⟩ := h
    simp only [Value.slice.injEq] at hv
    exact hv.2.1
  have HNB := Lib.hid hnb
  clear hnb
  by_cases h55 : m ≤ 55
  · have hr : readSize m bs = (0, m, bs) := by unfold readSize; rw [if_pos h55]
    have HR := Lib.hid hr
    clear hr
    go_enter Try.func110, Try.ntmps110
    go_wp2
    go_ret2
    unfold SizeC
    rw [HR.out]
    exact ⟨fun _ => rfl, fun h => absurd rfl h, a, n, c, fun _ => h, hk, Chg.refl _ _⟩
  · by_cases h58 : 58 < m
    · have hr : readSize m bs = (23, 0, bs) := by unfold readSize; rw [if_neg h55, if_pos h58]
      have HR := Lib.hid hr
      clear hr
      have HK := Lib.hid hk
      clear hk
      go_enter Try.func110, Try.ntmps110
      go_wp2_with fail
      refine (fail_any _ rb a n c 23 HK.out).mono ?_
      rintro e w1 ⟨rfl, h1, h2⟩
      have H1 := Lib.hid h1
      have H2 := Lib.hid h2
      clear h1 h2
      go_wp2
      go_ret2
      unfold SizeC
      rw [HR.out]
      exact ⟨(fun h => by cases h), fun _ => rfl, a, n, c, (fun h => by cases h), H1.out, H2.out⟩
    · obtain ⟨k, hkm⟩ : ∃ k : Nat, m = k + 55 := ⟨m - 55, by omega⟩
      subst hkm
      have hkk : ((k + 55 : Nat) : Int) - 55 = (k : Int) := by omega
      by_cases hsh : n < k
      · have hr : readSize (k + 55) bs = (22, 0, bs) := by
          unfold readSize; rw [if_neg h55, if_neg h58, if_pos (by have := HNB.out; omega)]
        have HR := Lib.hid hr
        clear hr
        have HK := Lib.hid hk
        clear hk
        go_enter Try.func110, Try.ntmps110
        go_wp2_with fail
        refine (take_no _ rb a n c _ HK.out (by omega)).mono ?_
        rintro e w1 ⟨rfl, h1, h2⟩
        have H1 := Lib.hid h1
        have H2 := Lib.hid h2
        clear h1 h2
        go_wp2
        go_ret2
        unfold SizeC
        rw [HR.out]
        exact ⟨(fun h => by cases h), fun _ => rfl, a, n, c, (fun h => by cases h), H1.out, H2.out⟩
      · have HK := Lib.hid hk
        have HH := Lib.hid h
        clear hk h
        go_enter Try.func110, Try.ntmps110
        go_wp2_with fail
        refine (take_ok F _ rb a n c k bs HH.out HK.out hF (by omega) hn).mono ?_
        rintro e w1 ⟨a1, c1, a2, n2, c2, rfl, hu, hs, hk1, hch⟩
        have HU := Lib.hid hu
        have HS := Lib.hid hs
        have HK1 := Lib.hid hk1
        have HCH := Lib.hid hch
        clear hu hs hk1 hch
        have hk3 : k ≤ 3 := by omega
        have hk1 : 1 ≤ k := by omega
        have hkl : (bs.take k).length = k := by rw [List.length_take]; have := HNB.out; omega
        obtain ⟨l, hl⟩ : ∃ l, l = bs.take k := ⟨_, rfl⟩
        rw [← hl] at HU hkl
        have HL := Lib.hid hl
        have HKL := Lib.hid hkl
        clear hl hkl
        rcases SliceAt.split HU.out with ⟨_, h0⟩ | ⟨b, o, rfl, -, -, -⟩
        · omega
        go_wp2_with fail
        go_loop [1, 9, 28] (fun q x i => ∃ j p : Nat, j ≤ k ∧ i = .int .i64 j ∧ q = .int .i64 p ∧ p ≤ 16777215 ∧ Hid (p = beNum (l.take j))) (fun _ _ i => k - (intOf i).toNat)
        case atStart => exact ⟨0, 0, Nat.zero_le _, rfl, rfl, by omega, by show _ = _; simp [beNum]⟩
        case round =>
          obtain ⟨j, p, hj, rfl, rfl, hp, HP⟩ := hrel
          by_cases hlt : j < k
          · have hjl : j < l.length := by have := HKL.out; omega
            have hc := BytesAt.cell HU.out j hjl
            obtain ⟨x, hx⟩ : ∃ x, x = l[j] := ⟨_, rfl⟩
            rw [← hx] at hc
            have hpb : p < 256 ^ j := by
              have h1 := beNum_lt (l.take j)
              have h2 : (l.take j).length = j := by rw [List.length_take]; omega
              have := HP.out
              rw [h2] at h1; omega
            have hor := Lib.hid (And.intro (or_byte p x (by omega)) (or_byte' p x (by omega)))
            have hpx : p * 256 + x.toNat ≤ 16777215 := by
              have h1 := x.toNat_lt
              have h2 : p + 1 ≤ 256 ^ j := hpb
              have h3 : 256 ^ j ≤ 256 ^ 2 := Nat.pow_le_pow_right (by omega) (by omega)
              omega
            have hst : beNum (l.take (j + 1)) = p * 256 + x.toNat := by
              rw [List.take_succ_eq_append_getElem hjl, beNum_snoc, ← HP.out, hx]
            have HST := Lib.hid hst
            clear hx hst hpb
            go_wp2
            go_round
            case rel => exact ⟨j + 1, p * 256 + x.toNat, by omega, num_eq (by omega), num_eq (by first | exact hor.out.1 | exact hor.out.2), hpx, HST.out.symm⟩
            case measure => simp [intOf]; omega
          · obtain rfl : j = k := by omega
            have hp' := HP.out
            rw [List.take_of_length_le (by have := HKL.out; omega)] at hp'
            have hl0 : 0 < l.length := by have := HKL.out; omega
            have hc := BytesAt.cell HU.out 0 hl0
            simp only [Nat.add_zero] at hc
            obtain ⟨x, hx⟩ : ∃ x, x = l[0] := ⟨_, rfl⟩
            rw [← hx] at hc
            have hhead : bs.headD 0 = x := by
              rw [hx]
              have := HL.out
              cases bs with
              | nil => simp at this; subst this; simp at hl0
              | cons y r =>
                obtain ⟨j', rfl⟩ : ∃ j', j = j' + 1 := ⟨j - 1, by omega⟩
                simp at this; subst this; rfl
            have hr : readSize (j + 55) bs = if x = 0 ∨ p ≤ 55 then (23, 0, bs.drop j) else (0, p, bs.drop j) := by
              unfold readSize
              rw [if_neg h55, if_neg h58, if_neg (by have := HNB.out; omega), Nat.add_sub_cancel, ← HL.out, ← hp', hhead]
            have HR := Lib.hid hr
            have hsc : x = 0 ∨ x ≠ 0 := by by_cases h : x = 0; exact .inl h; exact .inr h
            clear hp' hx hhead hr hl0
            by_cases hx0 : x.toNat = 0
            · have hxz : x = 0 := UInt8.toNat_inj.1 (by simpa using hx0)
              have hx1 : ((x.toNat : Int) == 0) = true := by simp; omega
              have HR2 : Hid (readSize (j + 55) bs = (23, 0, bs.drop j)) := by show _ = _; rw [HR.out, if_pos (.inl hxz)]
              clear hsc hx0 hxz
              go_wp2_with fail
              refine (fail_any _ rb a2 n2 c2 23 HK1.out).mono ?_
              rintro e w2 ⟨rfl, h1, h2⟩
              have H1 := Lib.hid h1
              have H2 := Lib.hid h2
              clear h1 h2
              go_wp2_with fail
              go_ret2
              unfold SizeC
              rw [HR2.out]
              exact ⟨(fun h => by cases h), fun _ => rfl, a2, n2, c2, (fun h => by cases h), H1.out, (HCH.out).trans H2.out (fun _ _ x => x)⟩
            · have hx1 : ((x.toNat : Int) == 0) = false := by simp; omega
              have hxz : x ≠ 0 := fun e => hx0 (by rw [e]; rfl)
              by_cases hp55 : (p : Int) ≤ 55
              · have HR2 : Hid (readSize (j + 55) bs = (23, 0, bs.drop j)) := by show _ = _; rw [HR.out, if_pos (.inr (by omega))]
                clear hsc hx0 hxz
                go_wp2_with fail
                refine (fail_any _ rb a2 n2 c2 23 HK1.out).mono ?_
                rintro e w2 ⟨rfl, h1, h2⟩
                have H1 := Lib.hid h1
                have H2 := Lib.hid h2
                clear h1 h2
                go_wp2_with fail
                go_ret2
                unfold SizeC
                rw [HR2.out]
                exact ⟨(fun h => by cases h), fun _ => rfl, a2, n2, c2, (fun h => by cases h), H1.out, (HCH.out).trans H2.out (fun _ _ x => x)⟩
              · have HR2 : Hid (readSize (j + 55) bs = (0, p, bs.drop j)) := by show _ = _; rw [HR.out, if_neg (by rintro (h | h); exact hxz h; omega)]
                clear hsc hx0 hxz
                go_wp2_with fail
                go_ret2
                unfold SizeC
                rw [HR2.out]
                exact ⟨fun _ => rfl, fun h => absurd rfl h, a2, n2, c2, fun _ => HS.out, HK1.out, HCH.out⟩
end Go.Proofs.Ytndkkgkcbbmnpaa
namespace Go.Pg
open Go.RowKit
/-- three cells written into a box -/
structure Box3 (W1 W : World) (b : Nat) (v0 v1 v2 : Value) (t : TypeId) : Prop where
  at_ : W.heap[b]? = some (.cells #[v0, v1, v2] t (0, 0))
  other : ∀ k, k ≠ b → W.heap[k]? = W1.heap[k]?
  size : W.heap.size = W1.heap.size
  chg : Chg (fun k => k = b) W1 W
theorem box3 {W1 : World} {b : Nat} {x0 x1 x2 : Value} {t : TypeId} (hk : W1.heap[b]? = some (.cells #[x0, x1, x2] t (0, 0))) (v0 v1 v2 : Value) :
    Box3 W1 (((W1.setCell ⟨b, 0, none⟩ v0).setCell ⟨b, 1, none⟩ v1).setCell ⟨b, 2, none⟩ v2) b v0 v1 v2 t :=
  ⟨heap_setCell_same _ _ _ _ _ _ (heap_setCell_same _ _ _ _ _ _ (heap_setCell_same _ _ _ _ _ _ hk)),
   fun k hk => by rw [Below.heap_setCell _ _ _ _ hk, Below.heap_setCell _ _ _ _ hk, Below.heap_setCell _ _ _ _ hk], by simp, (((Chg.refl (fun k => k = b) W1).atb _).atb _).atb _⟩
theorem Box3.alloc {W1 W : World} {b : Nat} {v0 v1 v2 : Value} {t : TypeId} (h : Box3 W1 W b v0 v1 v2 t) (o : Obj) : Box3 (W1.alloc o) (W.alloc o) b v0 v1 v2 t := by
  have hlt := (Array.getElem?_eq_some_iff.1 h.at_).1
  refine ⟨by rw [Below.heap_alloc _ _ _ hlt]; exact h.at_, fun k hk => ?_, by simp [h.size], ⟨h.chg.os, h.chg.tape, h.chg.output, by simp [h.size], fun k hk hn => ?_⟩⟩
  all_goals
    show (W.heap.push o)[k]? = (W1.heap.push o)[k]?
    rw [Array.getElem?_push, Array.getElem?_push, h.size, h.other k (by assumption)]
end Go.Pg
namespace Go.Proofs.Ytndkkgkcbbmnpaa
open Go.RowKit Go.Pg

/-- an item was read, or a fault noted -/
def Itemd (F : Nat → Prop) (w : World) (rb D : Nat) (r : Nat × It × List UInt8) (e : Ending) (w' : World) : Prop :=
  ∃ l a1 n1 c1 a3 n3 c3 a2 n2 c2, e = .returned (.agg #[.bool l, .slice a1 n1 c1, .slice a3 n3 c3]) ∧
    (r.1 = 0 → ItemAt (fun b => w.heap.size ≤ b) w' D [.bool l, .slice a1 n1 c1, .slice a3 n3 c3] r.2.1 ∧ BytesAt F w' (.slice a2 n2 c2) r.2.2) ∧
    w'.heap[rb]? = some (.cells #[.slice a2 n2 c2, .int .i64 r.1] 117 (0, 0)) ∧ Chg (fun k => k = rb) w w'
def RItemC (f : Nat) : Prop := ∀ (F : Nat → Prop) (w : World) (rb : Nat) (a : Option Addr) (n c deep : Nat) (bs : List UInt8), BytesAt F w (.slice a n c) bs →
  w.heap[rb]? = some (.cells #[.slice a n c, .int .i64 0] 117 (0, 0)) → ¬ F rb → n ≤ 140737488351232 → deep + f = 8 →
  Calls Try.prog 95 #[.pointer (some ⟨rb, 0, none⟩), .int .i64 deep] w (Itemd F w rb (f + 1) (rdItem f bs))
def RListC (f : Nat) : Prop := ∀ (F : Nat → Prop) (w : World) (rb : Nat) (a : Option Addr) (n c deep m : Nat) (bs : List UInt8), BytesAt F w (.slice a n c) bs →
  w.heap[rb]? = some (.cells #[.slice a n c, .int .i64 0] 117 (0, 0)) → ¬ F rb → n ≤ 140737488351232 → deep + 1 + f = 8 → m ≤ 255 →
  Calls Try.prog 109 #[.pointer (some ⟨rb, 0, none⟩), .int .i64 m, .int .i64 deep] w (Itemd F w rb (f + 2) (rdList (rdItem f) (readSize m bs)))

theorem int_fail (w : World) (rb : Nat) (a : Option Addr) (n c : Nat) (k : Int) (code : Nat) (hkc : k = code) (hk : w.heap[rb]? = some (.cells #[.slice a n c, .int .i64 0] 117 (0, 0))) :
    Calls Try.prog 108 #[.pointer (some ⟨rb, 0, none⟩), .int .i64 k] w (Failed w rb (.slice a n c) code) := by
  subst hkc; exact fail_any w rb a n c code hk

set_option maxRecDepth 100000 in
set_option maxHeartbeats 1000000 in
theorem item_none (F : Nat → Prop) (f : Nat) (w : World) (rb : Nat) (a : Option Addr) (c deep : Nat)
    (hk : w.heap[rb]? = some (.cells #[.slice a 0 c, .int .i64 0] 117 (0, 0))) :
    Calls Try.prog 95 #[.pointer (some ⟨rb, 0, none⟩), .int .i64 deep] w (Itemd F w rb (f + 1) (rdItem f [])) := by
  have hlt := (Array.getElem?_eq_some_iff.1 hk).1
  have hr : rdItem f [] = (22, .text [], []) := by cases f <;> rfl
  have HR := Lib.hid hr
  have hk0 : (w.alloc (.cells #[.bool false, .slice none 0 0, .slice none 0 0] 65)).heap[rb]? = some (.cells #[.slice a 0 c, .int .i64 0] 117 (0, 0)) := by rw [Below.heap_alloc _ _ _ hlt]; exact hk
  have HK0 := Lib.hid hk0
  clear hr hk hk0
  go_enter Try.func95, Try.ntmps95
  go_wp2_with fail
  refine (take_no _ rb a 0 c 1 HK0.out (by omega)).mono ?_
  rintro e w1 ⟨rfl, h1, h2⟩
  have hb1 : w1.heap[w.heap.size]? = some (.cells #[.bool false, .slice none 0 0, .slice none 0 0] 65 (0, 0)) := by
    rw [h2.block _ (by simp) (by omega)]; exact heap_alloc_new w _
  obtain ⟨q0, q1, q2⟩ := cells3 hb1
  have f0 := frozen_of_row w1 w.heap.size 0 _ _ hb1
  have f1 := frozen_of_row w1 w.heap.size 1 _ _ hb1
  have f2 := frozen_of_row w1 w.heap.size 2 _ _ hb1
  have H1 := Lib.hid h1
  have H2 := Lib.hid h2
  have HB1 := Lib.hid hb1
  clear h1 h2 hb1
  go_wp2_with fail
  have hbx := box3 HB1.out (.bool false) (.slice none 0 0) (.slice none 0 0)
  obtain ⟨W, hW⟩ : ∃ W, W = ((w1.setCell ⟨w.heap.size, 0, none⟩ (.bool false)).setCell ⟨w.heap.size, 1, none⟩ (.slice none 0 0)).setCell ⟨w.heap.size, 2, none⟩ (.slice none 0 0) := ⟨_, rfl⟩
  rw [← hW] at hbx ⊢
  obtain ⟨r0, r1, r2⟩ := cells3 hbx.at_
  refine bodyPost_ret (v := .agg #[.bool false, .slice none 0 0, .slice none 0 0]) (by simp [results, Try.results95, go_sem, r0, r1, r2]) rfl ?_
  unfold Itemd
  rw [HR.out]
  refine ⟨false, none, 0, 0, none, 0, 0, a, 0, c, rfl, (fun h => by cases h), ?_, ?_⟩
  · rw [hbx.other _ (by omega)]; exact H1.out
  · exact (((Chg.refl (fun k => k = rb) w).alloc _).trans H2.out (fun _ _ x => x)).trans hbx.chg (fun i hi e => by omega)
end Go.Proofs.Ytndkkgkcbbmnpaa
namespace Go.Proofs.Ytndkkgkcbbmnpaa
open Go.RowKit Go.Pg

/-- the end: what was read stands in the result's box -/
theorem Itemd.done {F : Nat → Prop} {w W1 W : World} {rb D : Nat} {r : Nat × It × List UInt8} {l : Bool} {a1 a3 a2 : Option Addr} {n1 c1 n3 c3 n2 c2 : Nat} (hrb : rb < w.heap.size)
    (hi : r.1 = 0 → ItemAt (fun b => w.heap.size < b) W1 D [.bool l, .slice a1 n1 c1, .slice a3 n3 c3] r.2.1 ∧ BytesAt (fun b => F b ∧ b < w.heap.size) W1 (.slice a2 n2 c2) r.2.2)
    (hk : W1.heap[rb]? = some (.cells #[.slice a2 n2 c2, .int .i64 r.1] 117 (0, 0))) (hc : Chg (fun k => k = rb) w W1)
    (hb : Box3 W1 W w.heap.size (.bool l) (.slice a1 n1 c1) (.slice a3 n3 c3) 65) :
    Itemd F w rb D r (.returned (.agg #[.bool l, .slice a1 n1 c1, .slice a3 n3 c3])) W := by
  refine ⟨l, a1, n1, c1, a3, n3, c3, a2, n2, c2, rfl, fun h0 => ?_, ?_, ?_⟩
  · obtain ⟨h1, h2⟩ := hi h0
    exact ⟨h1.carry (fun b _ hb' => Nat.le_of_lt hb') (fun b hb' _ => hb.other b (by omega)), h2.carry (fun b _ hb' => hb'.1) (fun b hb' _ => hb.other b (by omega))⟩
  · rw [hb.other _ (by omega)]; exact hk
  · exact hc.trans hb.chg (fun i hi e => by omega)

theorem OwnAt.lit' (w : World) (e : TypeId) (x : UInt8) : OwnAt (w.alloc (.cells #[.int .u8 (x.toNat : Int)] e)) w.heap.size e 1 byteR (.slice (some ⟨w.heap.size, 0, none⟩) 1 1) [x] := by
  refine ⟨[.int .u8 (x.toNat : Int)], World.ownsRow_lit w #[.int .u8 (x.toNat : Int)] 1 (Nat.le_refl _) (by decide) rfl, Rows.one rfl rfl⟩

set_option maxRecDepth 100000 in
set_option maxHeartbeats 2000000 in
theorem item_some (F0 : Nat → Prop) (f : Nat) (hl : ∀ f', f = f' + 1 → RListC f') (w : World) (rb : Nat) (a : Option Addr) (n c deep : Nat) (x : UInt8) (t : List UInt8)
    (h0 : BytesAt F0 w (.slice a n c) (x :: t)) (hk : w.heap[rb]? = some (.cells #[.slice a n c, .int .i64 0] 117 (0, 0))) (hF0 : ¬ F0 rb) (hn : n ≤ 140737488351232) (hd : deep + f = 8) :
    Calls Try.prog 95 #[.pointer (some ⟨rb, 0, none⟩), .int .i64 deep] w (Itemd F0 w rb (f + 1) (rdItem f (x :: t))) := by
  have hlt := (Array.getElem?_eq_some_iff.1 hk).1
  obtain ⟨F, hFd⟩ : ∃ F : Nat → Prop, F = fun b => F0 b ∧ b < w.heap.size := ⟨_, rfl⟩
  have h : BytesAt F w (.slice a n c) (x :: t) := by rw [hFd]; exact h0.carry (fun b hb hF => ⟨hF, hb⟩) (fun _ _ _ => rfl)
  have hF : ¬ F rb := by rw [hFd]; exact fun h => hF0 h.1
  have hnl : n = t.length + 1 := by
    obtain ⟨a', c', hv, h1, -⟩ := h
    simp only [Value.slice.injEq] at hv
    simpa using hv.2.1
  have hk0 : (w.alloc (.cells #[.bool false, .slice none 0 0, .slice none 0 0] 65)).heap[rb]? = some (.cells #[.slice a n c, .int .i64 0] 117 (0, 0)) := by rw [Below.heap_alloc _ _ _ hlt]; exact hk
  have hbs0 : BytesAt F (w.alloc (.cells #[.bool false, .slice none 0 0, .slice none 0 0] 65)) (.slice a n c) (x :: t) := BytesAt.below h (Bel.alloc (Bel.refl w) _)
  have HK0 := Lib.hid hk0
  have HBS0 := Lib.hid hbs0
  have HFD := Lib.hid hFd
  have HNL := Lib.hid hnl
  have HLC := Lib.hid hl
  have hx := x.toNat_lt
  clear hk hk0 hbs0 h h0 hFd hnl hl
  go_enter Try.func95, Try.ntmps95
  go_wp2_with fail
  refine (take_ok F _ rb a n c 1 (x :: t) HBS0.out HK0.out hF (by have := HNL.out; omega) (by omega)).mono ?_
  rintro e w1 ⟨a1, c1, a2, n2, c2, rfl, hu, hs, hk1, hch⟩
  have hb1 : w1.heap[w.heap.size]? = some (.cells #[.bool false, .slice none 0 0, .slice none 0 0] 65 (0, 0)) := by
    rw [hch.block _ (by simp) (by omega)]; exact heap_alloc_new w _
  have hch1 : Chg (fun k => k = rb) w w1 := ((Chg.refl (fun k => k = rb) w).alloc _).trans hch (fun _ _ x => x)
  simp only [List.take_succ_cons, List.take_zero, List.drop_succ_cons, List.drop_zero] at hu hs
  have hn2 : n2 = t.length := by
    obtain ⟨a', c', hv, h1, -⟩ := hs
    simp only [Value.slice.injEq] at hv
    exact hv.2.1
  have hn2b : n2 ≤ 140737488351232 := by have := HNL.out; omega
  rcases SliceAt.split hu with ⟨hh, _⟩ | ⟨b, o, rfl, -, -, -⟩
  · cases hh
  have hcell := BytesAt.cell hu 0 (by simp)
  simp at hcell
  obtain ⟨q0, q1, q2⟩ := cells3 hb1
  have f0 := frozen_of_row w1 w.heap.size 0 _ _ hb1
  have f1 := frozen_of_row w1 w.heap.size 1 _ _ hb1
  have f2 := frozen_of_row w1 w.heap.size 2 _ _ hb1
  have hs1 := hch1.size
  have HU := Lib.hid hu
  have HS := Lib.hid hs
  have HK1 := Lib.hid hk1
  have HCH1 := Lib.hid hch1
  have HB1 := Lib.hid hb1
  have HN2 := Lib.hid hn2
  have hsb := (Array.getElem?_eq_some_iff.1 hb1).1
  clear hu hs hk1 hch hch1 hb1 hn2
  by_cases h128 : (x.toNat : Int) < 128
  · have hr : rdItem f (x :: t) = (0, .text [x], t) := by unfold rdItem; rw [if_pos (by omega)]
    have HR := Lib.hid hr
    clear hr
    go_wp2_with fail
    have hbx := (box3 HB1.out (.bool false) (.slice (some ⟨w1.heap.size, 0, none⟩) 1 1) (.slice none 0 0)).alloc (.cells #[.int .u8 (x.toNat : Int)] 5)
    obtain ⟨W, hW⟩ : ∃ W, W = (((w1.setCell ⟨w.heap.size, 0, none⟩ (.bool false)).setCell ⟨w.heap.size, 1, none⟩ (.slice (some ⟨w1.heap.size, 0, none⟩) 1 1)).setCell ⟨w.heap.size, 2, none⟩ (.slice none 0 0)).alloc (.cells #[.int .u8 (x.toNat : Int)] 5) := ⟨_, rfl⟩
    rw [← hW] at hbx ⊢
    obtain ⟨r0, r1, r2⟩ := cells3 hbx.at_
    refine bodyPost_ret (v := .agg #[.bool false, .slice (some ⟨w1.heap.size, 0, none⟩) 1 1, .slice none 0 0]) (by simp [results, Try.results95, go_sem, r0, r1, r2]) rfl ?_
    rw [HR.out]
    refine Itemd.done (F := F0) (a2 := a2) (n2 := n2) (c2 := c2) hlt (fun _ => ⟨⟨_, _, rfl, ?_, SliceAt.nil _ _ _ _⟩, ?_⟩) ?_ ?_ hbx
    · refine BytesAt.carry (F := fun b => w1.heap.size ≤ b) ?_ (fun b _ hb => by omega) (fun _ _ _ => rfl)
      exact SliceAt.carry (F := fun b => b = w1.heap.size) ((OwnAt.lit' w1 5 x).at (fun g hg _ _ => by simp [Value.ownBlock] at hg; exact hg.symm) (by decide)) (by decide) (fun b _ hb => by omega) (fun _ _ _ => rfl) (fun _ _ _ h => h)
    · rw [← HFD.out]; exact BytesAt.below HS.out (Bel.alloc (Bel.refl w1) _)
    · rw [Below.heap_alloc _ _ _ (by omega)]; exact HK1.out
    · exact HCH1.out.alloc _
  · have hr1 : ¬ x.toNat < 128 := by omega
    by_cases h192 : (192 : Int) ≤ (x.toNat : Int)
    · have hr2 : ¬ x.toNat < 192 := by omega
      cases f with
      | zero =>
        have hr : rdItem 0 (x :: t) = (21, .text [], []) := by unfold rdItem; rw [if_neg hr1, if_neg hr2]
        have HR := Lib.hid hr
        have hd8 : ((deep : Int) == 8) = true := by simp; omega
        clear hr
        go_wp2_with fail
        refine (int_fail _ rb a2 n2 c2 _ 21 rfl HK1.out).mono ?_
        rintro e w2 ⟨rfl, g1, g2⟩
        have hb2 := (g2.block _ hsb (by omega)).trans HB1.out
        have G1 := Lib.hid g1
        have G2 := Lib.hid g2
        have HB2 := Lib.hid hb2
        clear g1 g2 q0 q1 q2 f0 f1 f2
        obtain ⟨q0, q1, q2⟩ := cells3 hb2
        have f0 := frozen_of_row w2 w.heap.size 0 _ _ hb2
        have f1 := frozen_of_row w2 w.heap.size 1 _ _ hb2
        have f2 := frozen_of_row w2 w.heap.size 2 _ _ hb2
        clear hb2
        go_wp2_with fail
        have hbx := box3 HB2.out (.bool false) (.slice none 0 0) (.slice none 0 0)
        obtain ⟨W, hW⟩ : ∃ W, W = ((w2.setCell ⟨w.heap.size, 0, none⟩ (.bool false)).setCell ⟨w.heap.size, 1, none⟩ (.slice none 0 0)).setCell ⟨w.heap.size, 2, none⟩ (.slice none 0 0) := ⟨_, rfl⟩
        rw [← hW] at hbx ⊢
        obtain ⟨r0, r1, r2⟩ := cells3 hbx.at_
        refine bodyPost_ret (v := .agg #[.bool false, .slice none 0 0, .slice none 0 0]) (by simp [results, Try.results95, go_sem, r0, r1, r2]) rfl ?_
        rw [HR.out]
        exact Itemd.done (F := F0) hlt (fun h => by cases h) G1.out (HCH1.out.trans G2.out (fun _ _ x => x)) hbx
      | succ f' =>
        obtain ⟨m, hm⟩ : ∃ m : Nat, x.toNat = m + 192 := ⟨x.toNat - 192, by omega⟩
        have hmi : (x.toNat : Int) - 192 = (m : Int) := by omega
        have hr : rdItem (f' + 1) (x :: t) = rdList (rdItem f') (readSize m t) := by
          rw [rdItem, if_neg hr1, if_neg hr2, hm, Nat.add_sub_cancel]
        have HR := Lib.hid hr
        have HM := Lib.hid hm
        have hd8 : ((deep : Int) == 8) = false := by simp; omega
        clear hr hm
        go_wp2_with fail
        refine (HLC.out f' rfl F _ rb a2 n2 c2 deep m t HS.out HK1.out hF hn2b (by omega) (by have := HM.out; omega)).mono ?_
        rintro e w2 ⟨l, b1, m1, d1, b3, m3, d3, b2, m2, d2, rfl, g0, g1, g2⟩
        have hb2 := (g2.block _ hsb (by omega)).trans HB1.out
        have G0 := Lib.hid g0
        have G1 := Lib.hid g1
        have G2 := Lib.hid g2
        have HB2 := Lib.hid hb2
        clear g0 g1 g2 q0 q1 q2 f0 f1 f2
        obtain ⟨q0, q1, q2⟩ := cells3 hb2
        have f0 := frozen_of_row w2 w.heap.size 0 _ _ hb2
        have f1 := frozen_of_row w2 w.heap.size 1 _ _ hb2
        have f2 := frozen_of_row w2 w.heap.size 2 _ _ hb2
        clear hb2
        go_wp2_with fail
        have hbx := box3 HB2.out (.bool l) (.slice b1 m1 d1) (.slice b3 m3 d3)
        obtain ⟨W, hW⟩ : ∃ W, W = ((w2.setCell ⟨w.heap.size, 0, none⟩ (.bool l)).setCell ⟨w.heap.size, 1, none⟩ (.slice b1 m1 d1)).setCell ⟨w.heap.size, 2, none⟩ (.slice b3 m3 d3) := ⟨_, rfl⟩
        rw [← hW] at hbx ⊢
        obtain ⟨r0, r1, r2⟩ := cells3 hbx.at_
        refine bodyPost_ret (v := .agg #[.bool l, .slice b1 m1 d1, .slice b3 m3 d3]) (by simp [results, Try.results95, go_sem, r0, r1, r2]) rfl ?_
        rw [HR.out]
        refine Itemd.done (F := F0) hlt (fun h => ?_) G1.out (HCH1.out.trans G2.out (fun _ _ x => x)) hbx
        obtain ⟨g3, g4⟩ := G0.out h
        exact ⟨g3.carry (fun b _ hb => by omega) (fun _ _ _ => rfl), by rw [← HFD.out]; exact g4⟩
    · obtain ⟨m, hm⟩ : ∃ m : Nat, x.toNat = m + 128 := ⟨x.toNat - 128, by omega⟩
      have hmi : (x.toNat : Int) - 128 = (m : Int) := by omega
      have hr : rdItem f (x :: t) = rdText (readSize m t) := by
        unfold rdItem; rw [if_neg hr1, if_pos (by omega), hm, Nat.add_sub_cancel]
      have hsl := readSize_le m t
      have HM := Lib.hid hm
      obtain ⟨e1, k, rest, hrs⟩ : ∃ e1 k rest, readSize m t = (e1, k, rest) := ⟨_, _, _, rfl⟩
      rw [hrs] at hr hsl
      have HR := Lib.hid hr
      have HRS := Lib.hid hrs
      have hk24 : k ≤ 16777215 := hsl.1
      have hrl : rest.length ≤ 140737488351232 := by have h2 : rest.length ≤ t.length := hsl.2; have := HN2.out; omega
      clear hr hm hrs hsl
      go_wp2_with fail
      refine (size_any F _ rb a2 n2 c2 m t HS.out HK1.out hF (by omega) (by have := HM.out; omega)).mono ?_
      rintro e w2 ⟨s1, s2, a3, n3, c3, s3, g1, g2⟩
      rw [HRS.out] at s1 s2 s3 g1
      have hb2 := (g2.block _ hsb (by omega)).trans HB1.out
      have hsb2 := (Array.getElem?_eq_some_iff.1 hb2).1
      have S3 := Lib.hid s3
      have G1 := Lib.hid g1
      have G2 := Lib.hid (HCH1.out.trans g2 (fun _ _ x => x))
      have HB2 := Lib.hid hb2
      clear g1 g2 s3 q0 q1 q2 f0 f1 f2 hcell
      obtain ⟨q0, q1, q2⟩ := cells3 hb2
      have f0 := frozen_of_row w2 w.heap.size 0 _ _ hb2
      have f1 := frozen_of_row w2 w.heap.size 1 _ _ hb2
      have f2 := frozen_of_row w2 w.heap.size 2 _ _ hb2
      clear hb2
      by_cases he1 : e1 = 0
      · subst he1
        obtain rfl := s1 rfl
        have s3 := S3.out rfl
        have hn3 : n3 = rest.length := by
          obtain ⟨a', c', hv, h1, -⟩ := s3
          simp only [Value.slice.injEq] at hv
          exact hv.2.1
        have hn3b : n3 ≤ 140737488351232 := by omega
        have HN3 := Lib.hid hn3
        have HS3 := Lib.hid s3
        clear s1 s2 s3 hn3
        go_wp2_with fail
        by_cases hkn : n3 < k
        · have HR2 : Hid (rdItem f (x :: t) = (22, .text [], [])) := by
            show _ = _
            rw [HR.out, rdText, if_neg (by simp), if_pos (by have := HN3.out; simp only; omega)]
          refine (take_no _ rb a3 n3 c3 _ G1.out (by omega)).mono ?_
          rintro e w3 ⟨rfl, g3, g4⟩
          have hb3 := (g4.block _ hsb2 (by omega)).trans HB2.out
          have hsb3 := (Array.getElem?_eq_some_iff.1 hb3).1
          have hrb3 := (Array.getElem?_eq_some_iff.1 g3).1
          have G3 := Lib.hid g3
          have G4 := Lib.hid (G2.out.trans g4 (fun _ _ x => x))
          have HB3 := Lib.hid hb3
          clear g3 g4 q0 q1 q2 f0 f1 f2 hb3
          go_wp2_with fail
          refine (cloneB_any F w3 (.slice none 0 0) [] (BytesAt.nil _ _) (by simp)).mono ?_
          rintro e w4 ⟨v4, rfl, ho4, hb4⟩
          obtain ⟨a4, c4, rfl, -, -, -⟩ := ho4.len
          obtain ⟨n4, hn4⟩ : ∃ n4, n4 = ([] : List UInt8).length := ⟨_, rfl⟩
          rw [← hn4]
          have hb4' := (hb4.block _ hsb3).trans HB3.out
          have G5 := Lib.hid ((hb4.block _ hrb3).trans G3.out)
          have G6 := Lib.hid (G4.out.trans (Chg.ofBelow hb4 (fun k => k = rb)) (fun _ _ x => x))
          have HB4 := Lib.hid hb4'
          obtain ⟨q0, q1, q2⟩ := cells3 hb4'
          have f0 := frozen_of_row w4 w.heap.size 0 _ _ hb4'
          have f1 := frozen_of_row w4 w.heap.size 1 _ _ hb4'
          have f2 := frozen_of_row w4 w.heap.size 2 _ _ hb4'
          clear hb4 hb4' ho4 hn4
          go_wp2_with fail
          have hbx := box3 HB4.out (.bool false) (.slice a4 n4 c4) (.slice none 0 0)
          obtain ⟨W, hW⟩ : ∃ W, W = ((w4.setCell ⟨w.heap.size, 0, none⟩ (.bool false)).setCell ⟨w.heap.size, 1, none⟩ (.slice a4 n4 c4)).setCell ⟨w.heap.size, 2, none⟩ (.slice none 0 0) := ⟨_, rfl⟩
          rw [← hW] at hbx ⊢
          obtain ⟨r0, r1, r2⟩ := cells3 hbx.at_
          refine bodyPost_ret (v := .agg #[.bool false, .slice a4 n4 c4, .slice none 0 0]) (by simp [results, Try.results95, go_sem, r0, r1, r2]) rfl ?_
          rw [HR2.out]
          exact Itemd.done (F := F0) hlt (fun h => by cases h) G5.out G6.out hbx
        · have HR2 : Hid (rdItem f (x :: t) = if k = 1 ∧ (rest.headD 0).toNat < 128 then (23, .text [], []) else (0, .text (rest.take k), rest.drop k)) := by
            show _ = _
            rw [HR.out, rdText, if_neg (by simp), if_neg (by have := HN3.out; simp only; omega)]
          refine (take_ok F _ rb a3 n3 c3 k rest HS3.out G1.out hF (by omega) (by omega)).mono ?_
          rintro e w3 ⟨b1, d1, b2, m2, d2, rfl, hu, hs, g3, g4⟩
          have hb3 := (g4.block _ hsb2 (by omega)).trans HB2.out
          have hsb3 := (Array.getElem?_eq_some_iff.1 hb3).1
          have hrb3 := (Array.getElem?_eq_some_iff.1 g3).1
          have G3 := Lib.hid g3
          have G4 := Lib.hid (G2.out.trans g4 (fun _ _ x => x))
          have HB3 := Lib.hid hb3
          have HS3' := Lib.hid hs
          have HU3 := Lib.hid hu
          have htl : (rest.take k).length ≤ 140737488351232 := by rw [List.length_take]; omega
          have hcase : (k = 1 ∧ ∃ g o y, b1 = some ⟨g, o, none⟩ ∧ w3.cell? ⟨g, o, none⟩ = some (.int .u8 ((y : UInt8).toNat : Int)) ∧ rest.headD 0 = y) ∨ ((k : Int) == 1) = false := by
            by_cases hk1 : k = 1
            · left
              refine ⟨hk1, ?_⟩
              subst hk1
              cases rest with
              | nil => have := HN3.out; simp at this; omega
              | cons y r =>
                simp only [List.take_succ_cons, List.take_zero] at hu
                rcases SliceAt.split hu with ⟨hh, _⟩ | ⟨g, o, rfl, -, -, -⟩
                · cases hh
                · have := BytesAt.cell hu 0 (by simp)
                  exact ⟨g, o, y, rfl, by simpa using this, rfl⟩
            · right; simp; omega
          clear g3 g4 q0 q1 q2 f0 f1 f2 hs hu
          by_cases hbad : k = 1 ∧ (rest.headD 0).toNat < 128
          · rcases hcase with ⟨rfl, g, o, y, rfl, hc, hy⟩ | hk1
            · have hy128 : (y.toNat : Int) < 128 := by have := hbad.2; rw [hy] at this; omega
              have HR3 : Hid (rdItem f (x :: t) = (23, .text [], [])) := by show _ = _; rw [HR2.out, if_pos hbad]
              clear hbad hy
              go_wp2_with fail
              refine (int_fail _ rb b2 m2 d2 _ 23 rfl G3.out).mono ?_
              rintro e w4 ⟨rfl, g5, g6⟩
              have hb4' := (g6.block _ hsb3 (by omega)).trans HB3.out
              have G5 := Lib.hid g5
              have G6 := Lib.hid (G4.out.trans g6 (fun _ _ x => x))
              have HB4 := Lib.hid hb4'
              obtain ⟨q0, q1, q2⟩ := cells3 hb4'
              have f0 := frozen_of_row w4 w.heap.size 0 _ _ hb4'
              have f1 := frozen_of_row w4 w.heap.size 1 _ _ hb4'
              have f2 := frozen_of_row w4 w.heap.size 2 _ _ hb4'
              clear hb4' g5 g6
              go_wp2_with fail
              have hbx := box3 HB4.out (.bool false) (.slice none 0 0) (.slice none 0 0)
              obtain ⟨W, hW⟩ : ∃ W, W = ((w4.setCell ⟨w.heap.size, 0, none⟩ (.bool false)).setCell ⟨w.heap.size, 1, none⟩ (.slice none 0 0)).setCell ⟨w.heap.size, 2, none⟩ (.slice none 0 0) := ⟨_, rfl⟩
              rw [← hW] at hbx ⊢
              obtain ⟨r0, r1, r2⟩ := cells3 hbx.at_
              refine bodyPost_ret (v := .agg #[.bool false, .slice none 0 0, .slice none 0 0]) (by simp [results, Try.results95, go_sem, r0, r1, r2]) rfl ?_
              rw [HR3.out]
              exact Itemd.done (F := F0) hlt (fun h => by cases h) G5.out G6.out hbx
            · simp at hk1; omega
          · have HR3 : Hid (rdItem f (x :: t) = (0, .text (rest.take k), rest.drop k)) := by show _ = _; rw [HR2.out, if_neg hbad]
            have hcase2 : (k = 1 ∧ ∃ g o y, b1 = some ⟨g, o, none⟩ ∧ w3.cell? ⟨g, o, none⟩ = some (.int .u8 ((y : UInt8).toNat : Int)) ∧ ¬ (y.toNat : Int) < 128) ∨ ((k : Int) == 1) = false := by
              rcases hcase with ⟨hk1, g, o, y, hb, hc, hy⟩ | hk1
              · exact .inl ⟨hk1, g, o, y, hb, hc, fun h => hbad ⟨hk1, by rw [hy]; omega⟩⟩
              · exact .inr hk1
            clear hcase hbad
            obtain ⟨L, hL⟩ : ∃ L, L = rest.take k := ⟨_, rfl⟩
            rw [← hL] at HU3 HR3 htl
            clear hL
            rcases hcase2 with ⟨rfl, g, o, y, rfl, hc, hy⟩ | hk1
            all_goals
              go_wp2_with fail
              refine (cloneB_any F w3 _ L HU3.out htl).mono ?_
              rintro e w4 ⟨v4, rfl, ho4, hb4⟩
              obtain ⟨a4, c4, rfl, -, -, -⟩ := ho4.len
              have HO4 := Lib.hid ho4
              have hb4' := (hb4.block _ hsb3).trans HB3.out
              have G5 := Lib.hid ((hb4.block _ hrb3).trans G3.out)
              have G6 := Lib.hid (G4.out.trans (Chg.ofBelow hb4 (fun k => k = rb)) (fun _ _ x => x))
              have HS4 := Lib.hid (BytesAt.below HS3'.out hb4)
              have HB4 := Lib.hid hb4'
              obtain ⟨q0, q1, q2⟩ := cells3 hb4'
              have f0 := frozen_of_row w4 w.heap.size 0 _ _ hb4'
              have f1 := frozen_of_row w4 w.heap.size 1 _ _ hb4'
              have f2 := frozen_of_row w4 w.heap.size 2 _ _ hb4'
              clear hb4 hb4' ho4
              obtain ⟨n4, hn4⟩ : ∃ n4, n4 = L.length := ⟨_, rfl⟩
              rw [← hn4] at HO4 ⊢
              clear hn4
              go_wp2_with fail
              have hbx := box3 HB4.out (.bool false) (.slice a4 n4 c4) (.slice none 0 0)
              obtain ⟨W, hW⟩ : ∃ W, W = ((w4.setCell ⟨w.heap.size, 0, none⟩ (.bool false)).setCell ⟨w.heap.size, 1, none⟩ (.slice a4 n4 c4)).setCell ⟨w.heap.size, 2, none⟩ (.slice none 0 0) := ⟨_, rfl⟩
              rw [← hW] at hbx ⊢
              obtain ⟨r0, r1, r2⟩ := cells3 hbx.at_
              refine bodyPost_ret (v := .agg #[.bool false, .slice a4 n4 c4, .slice none 0 0]) (by simp [results, Try.results95, go_sem, r0, r1, r2]) rfl ?_
              rw [HR3.out]
              exact Itemd.done (F := F0) hlt (fun _ => ⟨⟨_, _, rfl, HO4.out.at (fun g _ hg _ => by omega) (by decide), SliceAt.nil _ _ _ _⟩, by rw [← HFD.out]; exact HS4.out⟩) G5.out G6.out hbx
      · obtain rfl := s2 he1
        have HR2 : Hid (rdItem f (x :: t) = (e1, .text [], [])) := by
          show _ = _
          rw [HR.out, rdText, if_pos he1]
        clear s1 s2
        go_wp2_with fail
        have hbx := box3 HB2.out (.bool false) (.slice none 0 0) (.slice none 0 0)
        obtain ⟨W, hW⟩ : ∃ W, W = ((w2.setCell ⟨w.heap.size, 0, none⟩ (.bool false)).setCell ⟨w.heap.size, 1, none⟩ (.slice none 0 0)).setCell ⟨w.heap.size, 2, none⟩ (.slice none 0 0) := ⟨_, rfl⟩
        rw [← hW] at hbx ⊢
        obtain ⟨r0, r1, r2⟩ := cells3 hbx.at_
        refine bodyPost_ret (v := .agg #[.bool false, .slice none 0 0, .slice none 0 0]) (by simp [results, Try.results95, go_sem, r0, r1, r2]) rfl ?_
        rw [HR2.out]
        exact Itemd.done (F := F0) hlt (fun h => absurd h he1) G1.out G2.out hbx
end Go.Proofs.Ytndkkgkcbbmnpaa
namespace Go.Pg
open Go.RowKit
section
variable {α : Type}
theorem OwnAt.drew' {w : World} {base : Nat} {e : TypeId} {sz : Nat} {R : List Value → α → Prop} {v : Value} {l : List α} (h : OwnAt w base e sz R v l) : OwnAt w.drew base e sz R v l := h.carry (fun _ _ _ _ => rfl)
theorem SliceAt.drew' {F : Nat → Prop} {w : World} {sz : Nat} {R : List Value → α → Prop} {v : Value} {l : List α} (h : SliceAt F w sz R v l) (hsz : 0 < sz) : SliceAt F w.drew sz R v l := h.carry hsz (fun _ _ x => x) (fun _ _ _ => rfl) (fun _ _ _ h => h)
/-- append of a list that is not empty, as one step of a region: the new value is written out -/
theorem step_append_at {P : Program} {ops : Array Oper} {o : Oper} {a : Act} {w : World} {K : Act → World → Prop} {Q : Exit → Act → World → Prop} {E : Prop} (hgd : o.guard = none) (s x : Operand) (t : TypeId)
    (ho : o.op = .call { callee := .builtin .append, args := #[s, x], argTypes := #[t, t] })
    (base : Nat) (e : TypeId) (i : TypeInfo) (z : Value) (sz bytes : Nat) (ht : P.underlying t = some (.slice e)) (hi : P.info? e = some i) (hz : i.zero = some z)
    (hsize : i.size = sz) (hby : i.bytes = bytes) (hzs : z.cells.size = sz) (hsz : 0 < sz) (hb0 : 0 < bytes)
    {R : List Value → α → Prop} (hR1 : ∀ cs x, R cs x → ∀ u ∈ cs, u.oneCell' = true)
    (v : Value) (l : List α) (hs : a.eval s = v) (hown : OwnAt w base e sz R v l)
    (u : Value) (m : List α) (F : Nat → Prop) (hx : a.eval x = u) (hsrc : SliceAt F w sz R u m) (hm0 : 0 < m.length)
    (hbytes : (l.length + m.length) * bytes ≤ 140737488355328) (hbase : base ≤ w.heap.size) (n' : Nat) (hn' : l.length + m.length = n')
    (h : ∀ g cap w', OwnAt w' base e sz R (.slice (some ⟨g, 0, none⟩) n' cap) (l ++ m) → w.grownBy w' v.ownBlock → Moved w v (.slice (some ⟨g, 0, none⟩) n' cap) →
      K (a.put o.dst (.slice (some ⟨g, 0, none⟩) n' cap)) w') :
    if Region.wanted o (yielded ops a.tmps) = true then Oper.wp P o a w K Q else E := by
  have hw : Region.wanted o (yielded ops a.tmps) = true := by simp [Region.wanted, hgd]
  rw [if_pos hw]
  obtain ⟨xs, h1, h2⟩ := hown
  have h63 : l.length + m.length ≤ maxLen := by
    have : l.length + m.length ≤ (l.length + m.length) * bytes := Nat.le_mul_of_pos_right _ hb0
    unfold maxLen; omega
  rcases SliceAt.cases hsrc with ⟨rfl, -⟩ | ⟨b, off, c, hv, hl, hc, hm, hF⟩
  · simp at hm0
  · subst hv
    obtain ⟨news, k1, k2⟩ := SliceAt.rows hsrc
    have hcell : ∀ j u, news[j]? = some u → w.cell? ((⟨b, off, none⟩ : Addr).add j) = some u := fun j u hu => by
      have : (⟨b, off, none⟩ : Addr).add j = ⟨b, off + j, none⟩ := by unfold Addr.add; split <;> simp_all
      rw [this]; exact k2 j u hu
    obtain ⟨v', w', r1, r2, r3, r4⟩ := run_append_where (P := P) w base t o.type e i z sz bytes ht hi hz hsize hby hzs hsz v l.length xs h1 ⟨b, off, none⟩ m.length c news k1.1 hcell (k1.each hsz _ hR1) h63 hbytes hbase
    unfold Oper.wp execOp
    simp only [ho, resolve, invoke, builtin, Sem.run_bind, Sem.run_pure, Result.andThen_ok, List.map_toArray, List.map_cons, List.map_nil, hs, hx, r1]
    rcases r2.2 with ⟨_, h0⟩ | ⟨g, cap, cur, rfl, rest⟩
    · omega
    · subst hn'; exact h g cap w' ⟨xs ++ news, by simpa using r2, h2.append k1⟩ r3 r4
end
end Go.Pg
namespace Go.Pg
open Go.RowKit
/-- an item, or three cells of its make -/
def OItem (d : Nat) (F : Nat → Prop) (w : World) (cs : List Value) : Option It → Prop
  | some x => ItemAt F w d cs x
  | none => ∃ l a n c a' n' c', cs = [.bool l, .slice a n c, .slice a' n' c']
theorem carriedO (d : Nat) : Carried (OItem d) := by
  refine ⟨fun {F F' w w' cs x} h hF hb => ?_, fun {F w} cs x h => ?_⟩
  · cases x with
    | some x => exact ItemAt.carry hF hb d cs x h
    | none => exact h
  · cases x with
    | some x => exact ItemAt.one d cs x h
    | none =>
      obtain ⟨l, a, n, c, a', n', c', rfl⟩ := h
      intro u hu
      simp at hu
      rcases hu with rfl | rfl | rfl <;> rfl
/-- reading an item takes at least a byte -/
theorem rdText_rest (t : List UInt8) (r : Nat × Nat × List UInt8) (h : r.2.2.length ≤ t.length) : (rdText r).2.2.length ≤ t.length := by
  unfold rdText
  split
  · simp
  · split
    · simp
    · split
      · simp
      · simp; omega
theorem rdList_rest (rd : List UInt8 → Nat × It × List UInt8) (t : List UInt8) (r : Nat × Nat × List UInt8) (h : r.2.2.length ≤ t.length) : (rdList rd r).2.2.length ≤ t.length := by
  unfold rdList
  split
  · simp
  · split
    · simp
    · split
      · simp
      · simp; omega
theorem rdItem_rest (f : Nat) (c : UInt8) (t : List UInt8) : (rdItem f (c :: t)).2.2.length ≤ t.length := by
  by_cases h1 : c.toNat < 128
  · have : rdItem f (c :: t) = (0, .text [c], t) := by unfold rdItem; rw [if_pos h1]
    rw [this]; exact Nat.le_refl _
  · by_cases h2 : c.toNat < 192
    · have : rdItem f (c :: t) = rdText (readSize (c.toNat - 128) t) := by unfold rdItem; rw [if_neg h1, if_pos h2]
      rw [this]; exact rdText_rest t (readSize (c.toNat - 128) t) (readSize_le _ _).2
    · cases f with
      | zero =>
        have : rdItem 0 (c :: t) = (21, .text [], []) := by unfold rdItem; rw [if_neg h1, if_neg h2]
        rw [this]; exact Nat.zero_le _
      | succ f =>
        have : rdItem (f + 1) (c :: t) = rdList (rdItem f) (readSize (c.toNat - 192) t) := by rw [rdItem, if_neg h1, if_neg h2]
        rw [this]; exact rdList_rest (rdItem f) t (readSize (c.toNat - 192) t) (readSize_le _ _).2
/-- how far a list's reading has come: what was gathered, the fault, the bytes behind -/
def ListSt (f K : Nat) (L : List UInt8) (os : List (Option It)) (e : Nat) (rest : List UInt8) : Prop :=
  (e = 0 → ∃ j its, os = its.map some ∧ rest.length ≤ j ∧ (rdAll (rdItem f) K L).1 = (rdAll (rdItem f) j rest).1 ∧ (rdAll (rdItem f) K L).2 = its ++ (rdAll (rdItem f) j rest).2) ∧
    (e ≠ 0 → (rdAll (rdItem f) K L).1 = e)
theorem ListSt.start (f : Nat) (K : Nat) (L : List UInt8) (h : L.length ≤ K) : ListSt f K L [] 0 L :=
  ⟨fun _ => ⟨K, [], rfl, h, rfl, rfl⟩, fun h => absurd rfl h⟩
theorem ListSt.step {f K : Nat} {L : List UInt8} {os : List (Option It)} {c : UInt8} {t : List UInt8} (h : ListSt f K L os 0 (c :: t)) :
    ListSt f K L (os ++ [if (rdItem f (c :: t)).1 = 0 then some (rdItem f (c :: t)).2.1 else none]) (rdItem f (c :: t)).1 (rdItem f (c :: t)).2.2 := by
  obtain ⟨j, its, h1, h2, h3, h4⟩ := h.1 rfl
  have hr := rdItem_rest f c t
  cases j with
  | zero => simp at h2
  | succ j =>
    simp only [rdAll] at h3 h4
    rw [if_neg (by simp)] at h3 h4
    refine ⟨fun h0 => ?_, fun hn => ?_⟩
    · rw [if_neg (by simp [h0])] at h3 h4
      refine ⟨j, its ++ [(rdItem f (c :: t)).2.1], by rw [if_pos h0, h1]; simp, by simp at h2; omega, h3, by rw [h4]; simp⟩
    · rw [if_pos hn] at h3
      exact h3
theorem ListSt.done {f K : Nat} {L : List UInt8} {os : List (Option It)} (h : ListSt f K L os 0 []) : (rdAll (rdItem f) K L).1 = 0 ∧ os = (rdAll (rdItem f) K L).2.map some := by
  obtain ⟨j, its, h1, h2, h3, h4⟩ := h.1 rfl
  have : rdAll (rdItem f) j [] = (0, []) := by cases j <;> simp [rdAll]
  rw [this] at h3 h4
  exact ⟨h3, by rw [h4]; simpa using h1⟩
end Go.Pg
