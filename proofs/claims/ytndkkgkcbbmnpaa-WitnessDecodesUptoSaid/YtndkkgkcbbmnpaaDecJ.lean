/-
  Contract of pergolaref02.first, where that of items is known.
-/
import Derived.Test.YtndkkgkcbbmnpaaDecI
namespace Go.Proofs.Ytndkkgkcbbmnpaa
open Go.RowKit Go.Pg

/-- an item with the place behind it, or a fault -/
def RFirstd (w : World) (D en : Nat) (r : Nat × It × List UInt8) (e : Ending) (w' : World) : Prop :=
  ∃ l a1 n1 c1 a3 n3 c3 m, e = .returned (.tuple #[.agg #[.bool l, .slice a1 n1 c1, .slice a3 n3 c3], .int .i64 ((m : Nat) : Int), .int .i64 r.1]) ∧
    (r.1 = 0 → m + r.2.2.length = en) ∧ (r.1 ≠ 0 → m = 0) ∧ ItemAt (fresh w) w' D [.bool l, .slice a1 n1 c1, .slice a3 n3 c3] r.2.1 ∧ Below w.heap.size w w'
def RFirstC (f : Nat) : Prop := ∀ (F : Nat → Prop) (w : World) (a : Option Addr) (pi ei di : Int) (n c p en deep : Nat) (B : List UInt8), pi = p → ei = en → di = deep → BytesAt F w (.slice a n c) B → p ≤ en → en ≤ n → n ≤ 70368744177664 → deep + f = 8 →
  Calls Try.prog 96 #[.slice a n c, .int .i64 pi, .int .i64 ei, .int .i64 di] w (RFirstd w (f + 1) en (rdItem f (seg B p en)))
/-- a list with its end, or a fault -/
def RItemsd (w : World) (D en : Nat) (r : Nat × List It) (e : Ending) (w' : World) : Prop :=
  ∃ l a1 n1 c1 a3 n3 c3 m, e = .returned (.tuple #[.agg #[.bool l, .slice a1 n1 c1, .slice a3 n3 c3], .int .i64 ((m : Nat) : Int), .int .i64 r.1]) ∧
    (r.1 = 0 → m = en) ∧ (r.1 ≠ 0 → m = 0) ∧ ItemAt (fresh w) w' D [.bool l, .slice a1 n1 c1, .slice a3 n3 c3] (if r.1 = 0 then .list r.2 else .text []) ∧ Below w.heap.size w w'
def RItemsC (f : Nat) : Prop := ∀ (F : Nat → Prop) (w : World) (a : Option Addr) (pi ei di : Int) (n c p en deep : Nat) (B : List UInt8), pi = p → ei = en → di = deep → BytesAt F w (.slice a n c) B → p ≤ en → en ≤ p + 16777215 → en ≤ n → n ≤ 70368744177664 → deep + f = 8 →
  Calls Try.prog 112 #[.slice a n c, .int .i64 pi, .int .i64 ei, .int .i64 di] w (RItemsd w (f + 2) en (rdAll (rdItem f) (en - p) (seg B p en)))

/-- the end at a fault -/
theorem RFirstd.bad {w W : World} {D en k : Nat} {r : Nat × It × List UInt8} {i j : Int} (hr : r = (k, .text [], [])) (hk : k ≠ 0) (hi : i = 0) (hj : j = k) (h1 : Below w.heap.size w W) :
    RFirstd w (D + 1) en r (.returned (.tuple #[.agg #[.bool false, .slice none 0 0, .slice none 0 0], .int .i64 i, .int .i64 j])) W := by
  subst hi hj
  rw [hr]
  exact ⟨false, none, 0, 0, none, 0, 0, 0, rfl, fun h => absurd h hk, fun _ => rfl, ⟨_, _, rfl, BytesAt.nil _ _, SliceAt.nil _ _ _ _⟩, h1⟩

set_option maxRecDepth 100000 in
set_option maxHeartbeats 1000000 in
theorem rfirst_end (f : Nat) (w : World) (a : Option Addr) (n c p deep : Nat) (B : List UInt8) :
    Calls Try.prog 96 #[.slice a n c, .int .i64 p, .int .i64 p, .int .i64 deep] w (RFirstd w (f + 1) p (rdItem f (seg B p p))) := by
  have hr : rdItem f (seg B p p) = (22, .text [], []) := by rw [seg_nil B p p (Nat.le_refl _)]; cases f <;> rfl
  have HR := Lib.hid hr
  have hlt : ((p : Int) ≤ (p : Int)) := Int.le_refl _
  clear hr
  go_enter Try.func96, Try.ntmps96
  go_wp2_with fail
  refine bodyPost_ret (v := .tuple #[.agg #[.bool false, .slice none 0 0, .slice none 0 0], .int .i64 0, .int .i64 22]) (by simp [results, Try.results96, go_sem]) rfl ?_
  rw [HR.out]
  exact RFirstd.bad (k := 22) rfl (by decide) rfl rfl (Bel.alloc (Bel.refl w) _)

set_option maxRecDepth 100000 in
set_option maxHeartbeats 2000000 in
theorem rfirst_plain (f : Nat) (w : World) (n c p en deep : Nat) (B : List UInt8) (b o : Nat) (x : UInt8) (t : List UInt8)
    (HB : Hid (BytesAt (fun b => b < w.heap.size) w (.slice (some ⟨b, o, none⟩) n c) B)) (HNB : Hid (n = B.length)) (HCELL : Hid (∀ (i : Nat), i < B.length → w.cell? ⟨b, o + i, none⟩ = some (.int .u8 ((B.getD i 0).toNat : Int))))
    (hp : p < en) (hen : en ≤ n) (hn : n ≤ 70368744177664) (hd : deep + f = 8) (hnc : n ≤ c) (hcm : c ≤ 2 ^ 63 - 1) (hbw : b < w.heap.size) (hc0 : w.cell? ⟨b, o + p, none⟩ = some (.int .u8 (x.toNat : Int))) (HT : Hid (t = seg B (p + 1) en)) (h128 : (x.toNat : Int) < 128) :
    Calls Try.prog 96 #[.slice (some ⟨b, o, none⟩) n c, .int .i64 p, .int .i64 en, .int .i64 deep] w (RFirstd w (f + 1) en (rdItem f (x :: t))) := by
  have hxl := x.toNat_lt
  have hr1 : x.toNat < 128 := by omega
  have hr : rdItem f (x :: t) = (0, .text [x], t) := by unfold rdItem; rw [if_pos hr1]
  have HR := Lib.hid hr
  clear hr hr1
  go_enter Try.func96, Try.ntmps96
  go_wp2_with fail

  refine bodyPost_ret (v := .tuple #[.agg #[.bool false, .slice (some ⟨w.heap.size + 1, 0, none⟩) 1 1, .slice none 0 0], .int .i64 ((p : Int) + 1), .int .i64 0]) (by simp [results, Try.results96, go_sem]) rfl ?_
  rw [HR.out]
  refine ⟨false, some ⟨w.heap.size + 1, 0, none⟩, 1, 1, none, 0, 0, p + 1, rfl, fun _ => ?_, fun h => absurd rfl h, ⟨_, _, rfl, ?_, SliceAt.nil _ _ _ _⟩, Bel.alloc (Bel.alloc (Bel.refl w) _) _⟩
  · show p + 1 + t.length = en
    rw [HT.out, seg_len _ _ _ (by have := HNB.out; omega)]; omega
  · have := (OwnAt.lit' (w.alloc (.cells #[.bool false, .slice (some ⟨w.heap.size + 1, 0, none⟩) 1 1, .slice none 0 0] 65)) 5 x).at (F := fresh w) (fun g _ hg _ => by simp only [World.size_alloc] at hg; show w.heap.size ≤ g; omega) (by decide)
    simp only [World.size_alloc] at this
    exact this
set_option maxRecDepth 100000 in
set_option maxHeartbeats 2000000 in
theorem rfirst_deep (f : Nat) (w : World) (n c p en deep : Nat) (B : List UInt8) (b o : Nat) (x : UInt8) (t : List UInt8)
    (HB : Hid (BytesAt (fun b => b < w.heap.size) w (.slice (some ⟨b, o, none⟩) n c) B)) (HNB : Hid (n = B.length)) (HCELL : Hid (∀ (i : Nat), i < B.length → w.cell? ⟨b, o + i, none⟩ = some (.int .u8 ((B.getD i 0).toNat : Int))))
    (hp : p < en) (hen : en ≤ n) (hn : n ≤ 70368744177664) (hd : deep + f = 8) (hnc : n ≤ c) (hcm : c ≤ 2 ^ 63 - 1) (hbw : b < w.heap.size) (hc0 : w.cell? ⟨b, o + p, none⟩ = some (.int .u8 (x.toNat : Int))) (HT : Hid (t = seg B (p + 1) en)) (h192 : (192 : Int) ≤ (x.toNat : Int)) (hf : f = 0) :
    Calls Try.prog 96 #[.slice (some ⟨b, o, none⟩) n c, .int .i64 p, .int .i64 en, .int .i64 deep] w (RFirstd w (f + 1) en (rdItem f (x :: t))) := by
  have hxl := x.toNat_lt
  subst hf
  have hr1 : ¬ x.toNat < 128 := by omega
  have hr2 : ¬ x.toNat < 192 := by omega
  have hr : rdItem 0 (x :: t) = (21, .text [], []) := by unfold rdItem; rw [if_neg hr1, if_neg hr2]
  have HR := Lib.hid hr
  have hd8 : (8 : Int) ≤ (deep : Int) := by omega
  have h128 : ¬ (x.toNat : Int) < 128 := by omega
  clear hr hr1 hr2
  go_enter Try.func96, Try.ntmps96
  go_wp2_with fail

  refine bodyPost_ret (v := .tuple #[.agg #[.bool false, .slice none 0 0, .slice none 0 0], .int .i64 0, .int .i64 21]) (by simp [results, Try.results96, go_sem]) rfl ?_
  rw [HR.out]
  exact RFirstd.bad (k := 21) rfl (by decide) rfl rfl (Bel.alloc (Bel.refl w) _)
set_option maxRecDepth 100000 in
set_option maxHeartbeats 2000000 in
theorem rfirst_textB (f : Nat) (w : World) (n c p en deep : Nat) (B : List UInt8) (b o : Nat) (x : UInt8) (t : List UInt8) (m : Nat)
    (HB : Hid (BytesAt (fun b => b < w.heap.size) w (.slice (some ⟨b, o, none⟩) n c) B)) (HNB : Hid (n = B.length)) (HCELL : Hid (∀ (i : Nat), i < B.length → w.cell? ⟨b, o + i, none⟩ = some (.int .u8 ((B.getD i 0).toNat : Int))))
    (hp : p < en) (hen : en ≤ n) (hn : n ≤ 70368744177664) (hd : deep + f = 8) (hnc : n ≤ c) (hcm : c ≤ 2 ^ 63 - 1) (hbw : b < w.heap.size) (hc0 : w.cell? ⟨b, o + p, none⟩ = some (.int .u8 (x.toNat : Int))) (HT : Hid (t = seg B (p + 1) en)) (hm : x.toNat = m + 128) (hm2 : x.toNat < 192) (h58 : 58 < m) :
    Calls Try.prog 96 #[.slice (some ⟨b, o, none⟩) n c, .int .i64 p, .int .i64 en, .int .i64 deep] w (RFirstd w (f + 1) en (rdItem f (x :: t))) := by
  have hxl := x.toNat_lt
  have hmi : (x.toNat : Int) - 128 = (m : Int) := by omega
  have h128 : ¬ (x.toNat : Int) < 128 := by omega
  have h192 : ¬ (192 : Int) ≤ (x.toNat : Int) := by omega

  have hr1 : ¬ x.toNat < 128 := by omega
  have hr2 := hm2
  have hrt : rdItem f (x :: t) = rdText (readSize m t) := by unfold rdItem; rw [if_neg hr1, if_pos hr2, hm, Nat.add_sub_cancel]
  clear hm2
  have HRT := Lib.hid hrt
  have HM := Lib.hid hm
  clear hrt hm hr1 hr2

  have hr : rdItem f (x :: t) = (23, .text [], []) := by
    have h55 : ¬ m ≤ 55 := by omega
    have hs : readSize m t = (23, 0, t) := by unfold readSize; rw [if_neg h55, if_pos h58]
    rw [HRT.out, hs]; unfold rdText; rw [if_pos (by simp)]
  have HR := Lib.hid hr
  clear hr
  go_enter Try.func96, Try.ntmps96
  go_wp2_with fail

  refine bodyPost_ret (v := .tuple #[.agg #[.bool false, .slice none 0 0, .slice none 0 0], .int .i64 0, .int .i64 23]) (by simp [results, Try.results96, go_sem]) rfl ?_
  rw [HR.out]
  exact RFirstd.bad (k := 23) rfl (by decide) rfl rfl (Bel.alloc (Bel.refl w) _)
set_option maxRecDepth 100000 in
set_option maxHeartbeats 2000000 in
theorem rfirst_listB (f : Nat) (w : World) (n c p en deep : Nat) (B : List UInt8) (b o : Nat) (x : UInt8) (t : List UInt8) (m : Nat)
    (HB : Hid (BytesAt (fun b => b < w.heap.size) w (.slice (some ⟨b, o, none⟩) n c) B)) (HNB : Hid (n = B.length)) (HCELL : Hid (∀ (i : Nat), i < B.length → w.cell? ⟨b, o + i, none⟩ = some (.int .u8 ((B.getD i 0).toNat : Int))))
    (hp : p < en) (hen : en ≤ n) (hn : n ≤ 70368744177664) (hd : deep + f = 8) (hnc : n ≤ c) (hcm : c ≤ 2 ^ 63 - 1) (hbw : b < w.heap.size) (hc0 : w.cell? ⟨b, o + p, none⟩ = some (.int .u8 (x.toNat : Int))) (HT : Hid (t = seg B (p + 1) en)) (f' : Nat) (hf : f = f' + 1) (hm : x.toNat = m + 192) (HI : Hid (RItemsC f')) (h58 : 58 < m) :
    Calls Try.prog 96 #[.slice (some ⟨b, o, none⟩) n c, .int .i64 p, .int .i64 en, .int .i64 deep] w (RFirstd w (f + 1) en (rdItem f (x :: t))) := by
  have hxl := x.toNat_lt
  subst hf

  have hmi : (x.toNat : Int) - 192 = (m : Int) := by omega
  have h128 : ¬ (x.toNat : Int) < 128 := by omega
  have h192 : (192 : Int) ≤ (x.toNat : Int) := by omega
  have hd8 : ¬ (8 : Int) ≤ (deep : Int) := by omega
  have hr1 : ¬ x.toNat < 128 := by omega
  have hr2 : ¬ x.toNat < 192 := by omega
  have hrt : rdItem (f' + 1) (x :: t) = rdList (rdItem f') (readSize m t) := by rw [rdItem, if_neg hr1, if_neg hr2, hm, Nat.add_sub_cancel]

  have HRT := Lib.hid hrt
  have HM := Lib.hid hm
  clear hrt hm hr1 hr2

  have hr : rdItem (f' + 1) (x :: t) = (23, .text [], []) := by
    have h55 : ¬ m ≤ 55 := by omega
    have hs : readSize m t = (23, 0, t) := by unfold readSize; rw [if_neg h55, if_pos h58]
    rw [HRT.out, hs]; unfold rdList; rw [if_pos (by simp)]
  have HR := Lib.hid hr
  clear hr
  go_enter Try.func96, Try.ntmps96
  go_wp2_with fail

  refine bodyPost_ret (v := .tuple #[.agg #[.bool false, .slice none 0 0, .slice none 0 0], .int .i64 0, .int .i64 23]) (by simp [results, Try.results96, go_sem]) rfl ?_
  rw [HR.out]
  exact RFirstd.bad (k := 23) rfl (by decide) rfl rfl (Bel.alloc (Bel.refl w) _)
end Go.Proofs.Ytndkkgkcbbmnpaa
