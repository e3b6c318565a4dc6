/-
  Contracts of (*nest.reader).fail, take.
-/
import Derived.Test.YtndkkgkcbbmnpaaSlice
import Derived.Test.YtndkkgkcbbmnpaaProg
namespace Go.Proofs.Ytndkkgkcbbmnpaa
open Go.RowKit Go.Pg

theorem blk_set {w : World} {g i : Nat} {cs : Array Value} {t : TypeId} {v : Value} (hg : w.heap[g]? = some (.cells cs t (0, 0))) :
    (w.setCell ⟨g, i, none⟩ v).heap[g]? = some (.cells (cs.setIfInBounds i v) t (0, 0)) := heap_setCell_same w g i cs t v hg

/-- the first fault is noted; an empty item is told -/
def Failed (w : World) (rb : Nat) (v : Value) (n : Nat) (e : Ending) (w' : World) : Prop :=
  e = .returned (.agg #[.bool false, .slice none 0 0, .slice none 0 0]) ∧ w'.heap[rb]? = some (.cells #[v, .int .i64 n] 117 (0, 0)) ∧ Chg (fun k => k = rb) w w'
set_option maxHeartbeats 400000 in
theorem fail_any (w : World) (rb : Nat) (a : Option Addr) (n c : Nat) (code : Nat) (hk : w.heap[rb]? = some (.cells #[.slice a n c, .int .i64 0] 117 (0, 0))) :
    Calls Try.prog 108 #[.pointer (some ⟨rb, 0, none⟩), .int .i64 code] w (Failed w rb (.slice a n c) code) := by
  have hlt := (Array.getElem?_eq_some_iff.1 hk).1
  obtain ⟨q0, q1⟩ := cells2 hk
  have f1 := frozen_of_row w rb 1 _ _ hk
  have hne : rb ≠ w.heap.size := by omega
  have HK := Lib.hid hk
  clear hk
  go_enter Try.func108, Try.ntmps108
  go_wp2
  go_returns
  exact ⟨rfl, (Below.heap_alloc _ _ _ (by simpa using hlt)).trans (blk_set HK.out), ((Chg.refl (fun k => k = rb) w).atb (i := 1) _).alloc _⟩

/-- the next k bytes, or none -/
def Took (F : Nat → Prop) (w : World) (rb : Nat) (bs : List UInt8) (k : Nat) (e : Ending) (w' : World) : Prop :=
  ∃ a1 c1 a2 n2 c2, e = .returned (.tuple #[.slice a1 k c1, .bool true]) ∧ BytesAt F w' (.slice a1 k c1) (bs.take k) ∧ BytesAt F w' (.slice a2 n2 c2) (bs.drop k) ∧
    w'.heap[rb]? = some (.cells #[.slice a2 n2 c2, .int .i64 0] 117 (0, 0)) ∧ Chg (fun k => k = rb) w w'
set_option maxHeartbeats 400000 in
theorem take_ok (F : Nat → Prop) (w : World) (rb : Nat) (a : Option Addr) (n c k : Nat) (bs : List UInt8) (h : BytesAt F w (.slice a n c) bs) (hk : w.heap[rb]? = some (.cells #[.slice a n c, .int .i64 0] 117 (0, 0))) (hF : ¬ F rb)
    (hkn : k ≤ n) (_hn : n ≤ 1152921504606846976) :
    Calls Try.prog 107 #[.pointer (some ⟨rb, 0, none⟩), .int .i64 k] w (Took F w rb bs k) := by
  have hlt := (Array.getElem?_eq_some_iff.1 hk).1
  obtain ⟨q0, q1⟩ := cells2 hk
  have f0 := frozen_of_row w rb 0 _ _ hk
  have HK := Lib.hid hk
  have hc : n ≤ c := by
    obtain ⟨a', c', hv, h1, -⟩ := h
    simp only [Value.slice.injEq] at hv
    omega
  obtain ⟨a2, ha2⟩ : ∃ a2, (if c = k then a else a.map (·.add k)) = a2 := ⟨_, rfl⟩
  have HU := Lib.hid (BytesAt.upto h k hkn)
  have HS := Lib.hid (BytesAt.since h k hkn ha2)
  clear hk h
  go_enter Try.func107, Try.ntmps107
  go_wp2
  go_ret2
  have hcar : ∀ b, F b → b < w.heap.size → (w.setCell ⟨rb, 0, none⟩ (.slice a2 (n - k) (c - k))).heap[b]? = w.heap[b]? := fun b hb _ => Below.heap_setCell _ _ _ _ (fun e => hF (by rw [← show b = rb from e]; exact hb))
  exact ⟨a, c, a2, n - k, c - k, rfl, BytesAt.carry HU.out (fun _ _ x => x) hcar, BytesAt.carry HS.out (fun _ _ x => x) hcar, blk_set HK.out, (Chg.refl (fun k => k = rb) w).atb (i := 0) _⟩

set_option maxHeartbeats 400000 in
theorem take_no (w : World) (rb : Nat) (a : Option Addr) (n c : Nat) (k : Int) (hk : w.heap[rb]? = some (.cells #[.slice a n c, .int .i64 0] 117 (0, 0))) (hkn : (n : Int) < k) :
    Calls Try.prog 107 #[.pointer (some ⟨rb, 0, none⟩), .int .i64 k] w fun e w' => e = .returned (.tuple #[.slice none 0 0, .bool false]) ∧
      w'.heap[rb]? = some (.cells #[.slice a n c, .int .i64 (22 : Nat)] 117 (0, 0)) ∧ Chg (fun k => k = rb) w w' := by
  obtain ⟨q0, q1⟩ := cells2 hk
  have HK := Lib.hid hk
  clear hk
  go_enter Try.func107, Try.ntmps107
  go_wp2_with fail
  refine (fail_any _ rb a n c 22 HK.out).mono ?_
  rintro e w1 ⟨rfl, h1, h2⟩
  have H1 := Lib.hid h1
  have H2 := Lib.hid h2
  clear h1 h2
  go_wp2
  go_ret2
  exact ⟨rfl, H1.out, H2.out⟩
end Go.Proofs.Ytndkkgkcbbmnpaa
