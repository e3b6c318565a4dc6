/-
  Contract of witness.read.
-/
import Derived.Test.YtndkkgkcbbmnpaaDecH
import Derived.Test.YtndkkgkcbbmnpaaBytes
import Derived.Test.YtndkkgkcbbmnpaaOwn
namespace Go.Pg
open Go.RowKit
/-- no list among them -/
def flat (l : List It) : Bool := l.all (fun y => !y.isList)
/-- a list of texts that rise -/
def readOk (x : It) : Bool := flat x.items && (x.isList && rising (x.items.map It.bytes))
theorem flat_take_succ (l : List It) (k : Nat) (h : k < l.length) : flat (l.take (k + 1)) = (flat (l.take k) && !l[k].isList) := by
  unfold flat
  rw [List.take_succ_eq_append_getElem h, List.all_append]; simp only [List.all_cons, List.all_nil, Bool.and_true]
theorem flat_take (l : List It) (k : Nat) (h : flat l = true) : flat (l.take k) = true := by
  unfold flat at h ⊢
  rw [List.all_eq_true] at h ⊢
  exact fun x hx => h x (List.mem_of_mem_take hx)
theorem flat_no (l : List It) (k : Nat) (h : k < l.length) (hl : l[k].isList = true) : flat l = false := by
  cases hf : flat l with
  | false => rfl
  | true =>
    have h1 := flat_take l (k + 1) hf
    rw [flat_take_succ l k h, hl] at h1
    simp at h1
end Go.Pg
namespace Go.Proofs.Ytndkkgkcbbmnpaa
open Go.RowKit Go.Pg
theorem underlyingRows : Try.prog.underlying 22 = some (.slice 25) := Try.underlying22
theorem infoRow : (Try.prog.info? 25).map (fun i => (i.zero, i.size, i.bytes)) = some (some (.slice none 0 0), 1, 24) := by kernel_rfl

/-- texts that rise, or none -/
def Readd (F : Nat → Prop) (w : World) (x : It) (e : Ending) (w' : World) : Prop :=
  ∃ v, e = .returned (.tuple #[v, .bool (readOk x)]) ∧ (readOk x = true → RowsAt (fun b => F b ∨ w.heap.size ≤ b) w' v (x.items.map It.bytes)) ∧ Below w.heap.size w w'

set_option maxRecDepth 100000 in
set_option maxHeartbeats 1000000 in
theorem read_any (F : Nat → Prop) (w : World) (d : Nat) (x : It) (il : Bool) (a1 a2 : Option Addr) (n1 c1 n2 c2 : Nat) (h : ItemAt F w (d + 1) [.bool il, .slice a1 n1 c1, .slice a2 n2 c2] x) (hlen : x.items.length ≤ 1099511627776) :
    Calls Try.prog 48 #[.agg #[.bool il, .slice a1 n1 c1, .slice a2 n2 c2]] w (Readd F w x) := by
  obtain ⟨hil, a1', n1', c1', a2', n2', c2', e1, e2, -, hn⟩ := ItemAt.form h
  simp only [Value.slice.injEq] at e1 e2
  obtain ⟨rfl, rfl, rfl⟩ := e1
  obtain ⟨rfl, rfl, rfl⟩ := e2
  have hits := ItemAt.items h
  replace hits : ItemsAt (fun b => F b ∧ b < w.heap.size) w d (.slice a2 n2 c2) x.items := ItemsAt.carry hits (fun b hb hF => ⟨hF, hb⟩) (fun _ _ _ => rfl)
  obtain ⟨l, hl⟩ : ∃ l, l = x.items := ⟨_, rfl⟩
  rw [← hl] at hits hn hlen
  rw [← hn] at hlen
  obtain ⟨i0, hi, hz0, hz1, hz2⟩ := info_parts infoRow
  have HIL := Lib.hid hil
  have HL := Lib.hid hl
  have HN := Lib.hid hn
  have HITS := Lib.hid hits
  clear hil hl hn hits h
  go_enter Try.func48, Try.ntmps48
  go_wp2
  go_loopw [4, 10] (fun s i wr => ∃ k : Nat, k ≤ n2 ∧ i = .int .i64 k ∧ Hid (flat (l.take k) = true) ∧ Hid (OwnList rowR (fun b => F b ∧ b < w.heap.size) (w.heap.size + 1) wr 25 1 s ((l.take k).map It.bytes)) ∧
      Hid (Below w.heap.size w wr ∧ wr.heap[w.heap.size]? = some (.cells #[.bool il, .slice a1 n1 c1, .slice a2 n2 c2] 65 (0, 0)))) (fun _ i _ => n2 - (intOf i).toNat)
  case atStart => exact ⟨0, Nat.zero_le _, rfl, Lib.hid rfl, OwnList.nil, Bel.alloc (Bel.refl w) _, heap_alloc_new w _⟩
  case round =>
    obtain ⟨k, hk, rfl, HFL, HO, HB⟩ := hrel
    have hN := HN.out
    by_cases hlt : k < n2
    · rcases SliceAt.split HITS.out with ⟨_, h0⟩ | ⟨b, o, rfl, -, -, -⟩
      · omega
      have hwr := ItemsAt.below HITS.out HB.out.1
      obtain ⟨x1, y1, z1, x2, y2, z2, g0, g1, g2, git⟩ := ItemsAt.cell hwr k (by omega)
      have htk : (l.take (k + 1)).map It.bytes = (l.take k).map It.bytes ++ [(l[k]'(by omega)).bytes] := by
        rw [List.take_succ_eq_append_getElem (show k < l.length by omega), List.map_append]; rfl
      have hfl := flat_take_succ l k (by omega)
      have hno := flat_no l k (by omega)
      obtain ⟨y, hy⟩ : ∃ y, y = l[k]'(by omega) := ⟨_, rfl⟩
      rw [← hy] at g0 git htk hfl hno
      have HT := Lib.hid htk
      have hby := ItemAt.bytes git
      obtain ⟨q, hq⟩ : ∃ q, q = y.isList := ⟨_, rfl⟩
      rw [← hq] at g0 hfl hno
      obtain ⟨L, hL⟩ : ∃ L, L = (l.take k).map It.bytes := ⟨_, rfl⟩
      rw [← hL] at HO HT
      have hLl : L.length = k := by rw [hL]; simp; omega
      have HLL := Lib.hid hLl
      clear hwr hy htk hL hLl hN git hq
      cases q with
      | true =>
        have HNO := Lib.hid (hno rfl)
        clear hno hfl hby
        go_wp2_with fail
        go_ret2
        have hr : readOk x = false := by unfold readOk; rw [← HL.out, HNO.out]; rfl
        exact ⟨.slice none 0 0, by rw [hr]; rfl, (fun h => by rw [hr] at h; cases h), HB.out.1.alloc HB.out.1.size _⟩
      | false =>
        have HFL1 : Hid (flat (l.take (k + 1)) = true) := Lib.hid (by rw [hfl, HFL.out]; rfl)
        have hsw := (Array.getElem?_eq_some_iff.1 HB.out.2).1
        have howr := (HO.out).own
        have HB1 : Hid (Below w.heap.size w (wr.alloc (.cells #[.bool false, .slice x1 y1 z1, .slice x2 y2 z2] 65)) ∧ (wr.alloc (.cells #[.bool false, .slice x1 y1 z1, .slice x2 y2 z2] 65)).heap[w.heap.size]? = some (.cells #[.bool il, .slice a1 n1 c1, .slice (some ⟨b, o, none⟩) n2 c2] 65 (0, 0))) :=
          Lib.hid ⟨Bel.alloc HB.out.1 _, (Below.heap_alloc _ _ _ hsw).trans HB.out.2⟩
        have hO1 := (HO.out).call carriedRow (Bel.alloc (Bel.refl wr) (.cells #[.bool false, .slice x1 y1 z1, .slice x2 y2 z2] 65))
        have hrow : rowR (fun b => F b ∧ b < w.heap.size) (wr.alloc (.cells #[.bool false, .slice x1 y1 z1, .slice x2 y2 z2] 65)) [.slice x1 y1 z1] y.bytes := ⟨_, rfl, BytesAt.below hby (Bel.alloc (Bel.refl wr) _)⟩
        obtain ⟨R, hR1, hRo, hRs, hRn⟩ := hO1.push carriedRow hrow rfl (by decide) (fun b' _ hb' => ⟨hb', fun e => by have := (howr b' e).1; have := hb'.2; omega⟩) 25
        have hle : (L.length + [y.bytes].length) * 24 ≤ 140737488355328 := by rw [HLL.out]; simp; omega
        have hbase : w.heap.size + 1 ≤ ((wr.alloc (.cells #[.bool false, .slice x1 y1 z1, .slice x2 y2 z2] 65)).alloc (.cells [.slice x1 y1 z1].toArray 25)).heap.size := by simp; omega
        simp only [World.size_alloc] at hRs
        have HRN := Lib.hid hRn
        have HRO := Lib.hid hRo
        have HRS := Lib.hid hRs
        have HR1 := Lib.hid hR1
        clear hRn hO1 howr hRo hRs hR1 hrow hno hfl hby
        go_wp2_with (at_builtin; refine wpList_append_at rfl (.tmp 16) (.tmp 19) 22 rfl (w.heap.size + 1) 25 i0 (.slice none 0 0) 1 24 underlyingRows hi hz0 hz1 hz2 rfl (by decide) (by decide) HR1.out _ L rfl HRO.out _ [y.bytes] (fun _ => True) rfl HRS.out hle hbase ?_; intro v' w2 ho hg hm)
        have HOn := Lib.hid (HRN.out _ _ ho hg hm)
        have hown := (HRO.out).own
        have HB2 : Hid (Below w.heap.size w w2 ∧ w2.heap[w.heap.size]? = some (.cells #[.bool il, .slice a1 n1 c1, .slice (some ⟨b, o, none⟩) n2 c2] 65 (0, 0))) := by
          have hb1 := HB1.out.1
          have hbx := HB1.out.2
          have hlt' := (Array.getElem?_eq_some_iff.1 hbx).1
          refine ⟨(Bel.alloc hb1 _).grown hg (by simp; omega) (fun k hk => by have := (hown k hk).1; omega), ?_⟩
          rw [hg.block _ (by simp; omega) (fun e => by have := (hown _ e.symm).1; omega), Below.heap_alloc _ _ _ hlt']
          exact hbx
        clear ho hg hm hown
        go_roundw
        case rel => exact ⟨k + 1, by omega, num_eq (by omega), HFL1, by rw [HT.out]; exact HOn.out, HB2.out⟩
        case measure => simp [intOf]; omega
    · obtain rfl : k = n2 := by omega
      have hO := HO.out
      have hfl := HFL.out
      rw [List.take_of_length_le (by omega)] at hO hfl
      have hits := hO.at carriedRow (G' := fun b => F b ∧ b < w.heap.size ∨ w.heap.size + 1 ≤ b) (fun _ h _ => .inl h) (fun b h _ => .inr h) (by decide)
      obtain ⟨va, vc, hvv, -, -, -⟩ := SliceAt.len hits
      have hll : (l.map It.bytes).length ≤ 1152921504606846976 := by simp; omega
      obtain ⟨q0, q1, q2⟩ := cells3 HB.out.2
      have hsw := (Array.getElem?_eq_some_iff.1 HB.out.2).1
      have HFL' := Lib.hid hfl
      have HITS' := Lib.hid hits
      clear hO hfl hits hN hvv
      cases il with
      | false =>
        go_wp2_with fail
        go_ret2
        have hr : readOk x = false := by unfold readOk; rw [← HIL.out]; simp
        exact ⟨_, by rw [hr]; rfl, (fun h => by rw [hr] at h; cases h), HB.out.1⟩
      | true =>
        go_wp2_with fail
        refine (rises_any _ wr _ _ HITS'.out hll).mono ?_
        rintro e w1 ⟨rfl, hb1⟩
        have hr : readOk x = rising (l.map It.bytes) := by unfold readOk; rw [← HIL.out, ← HL.out, HFL'.out]; rfl
        have HR := Lib.hid hr
        have HB1 := Lib.hid hb1
        clear hr hb1
        go_wp2_with fail
        go_ret2
        refine ⟨_, by rw [HR.out]; rfl, fun h => ?_, Bel.call HB.out.1 HB1.out⟩
        rw [← HL.out]
        exact RowsAt.carry (RowsAt.below HITS'.out HB1.out) (fun b _ hb => by rcases hb with hb | hb; exact .inl hb.1; exact .inr (by omega)) (fun _ _ _ => rfl)
end Go.Proofs.Ytndkkgkcbbmnpaa
