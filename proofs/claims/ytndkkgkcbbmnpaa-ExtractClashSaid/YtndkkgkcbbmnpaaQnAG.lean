/-
  Contracts of (*block.reader).text, word, digest.
  Contract of block.read.
  Building a header out of parts; two results of which one is a row.
  Contract of block.DecodeHeader.
  Contracts of pergolaref19.digest, number.
-/
import Derived.Test.YtndkkgkcbbmnpaaQnAF
namespace Go.Pg
open Go.RowKit
/-- s[k:] -/
theorem SliceAt.since {α : Type} {F : Nat → Prop} {w : World} {sz : Nat} {R : List Value → α → Prop} {a a2 : Option Addr} {n c : Nat} {l : List α} (h : SliceAt F w sz R (.slice a n c) l) (k : Nat) (hk : k ≤ n) (ha2 : (if c = k then a else a.map (·.add (k * sz))) = a2) :
    SliceAt F w sz R (.slice a2 (n - k) (c - k)) (l.drop k) := by
  obtain ⟨a', c', hv, h1, h2, h3, h4, h5⟩ := h
  simp only [Value.slice.injEq] at hv
  obtain ⟨rfl, rfl, rfl⟩ := hv
  have hl : (l.drop k).length = l.length - k := by simp
  refine ⟨a2, c - k, by rw [hl], by omega, by omega, fun hn => ?_, fun hp => ?_, fun b o j ha hj => ?_⟩
  · subst hn
    split at ha2
    · omega
    · simp at ha2; have := h3 ha2; omega
  · rw [hl] at hp
    obtain ⟨b, o, rfl, hF, hc⟩ := h4 (by omega)
    have hck : ¬ c = k := by omega
    rw [if_neg hck] at ha2
    have e : (⟨b, o, none⟩ : Addr).add (k * sz) = ⟨b, o + k * sz, none⟩ := by unfold Addr.add; split <;> simp_all
    simp only [Option.map_some, e] at ha2
    subst ha2
    refine ⟨b, o + k * sz, rfl, hF, fun i x hx => ?_⟩
    obtain ⟨cs, g1, g2, g3⟩ := hc (k + i) x (by rw [List.getElem?_drop] at hx; exact hx)
    exact ⟨cs, g1, g2, fun j u hu => by have := g3 j u hu; rwa [show o + k * sz + i * sz + j = o + (k + i) * sz + j by rw [Nat.add_mul]; omega]⟩
  · rw [hl] at hj
    by_cases hz : l.length = 0
    · rw [hz, Nat.zero_sub, Nat.zero_mul] at hj; omega
    obtain ⟨b', o', rfl, -, -⟩ := h4 (by omega)
    by_cases hck : c = k
    · rw [show l.length - k = 0 by omega, Nat.zero_mul] at hj; omega
    have e : (⟨b', o', none⟩ : Addr).add (k * sz) = ⟨b', o' + k * sz, none⟩ := by unfold Addr.add; split <;> simp_all
    rw [if_neg hck, Option.map_some, e, ha] at ha2
    simp only [Option.some.injEq, Addr.mk.injEq, and_true] at ha2
    obtain ⟨rfl, rfl⟩ := ha2
    have hj2 : k * sz + j < l.length * sz := by
      rw [Nat.sub_mul] at hj; omega
    have := h5 b' o' (k * sz + j) rfl hj2
    rwa [show o' + k * sz + j = o' + (k * sz + j) by omega]
/-- a reader of texts: what is told, what is left, whether all is well -/
def rText : List It → Bool → List UInt8 × List It × Bool
  | .text b :: r, ok => (b, r, ok)
  | .list x :: r, _ => ([], .list x :: r, false)
  | [], _ => ([], [], false)
def rWord (l : List It) (ok : Bool) : Nat × List It × Bool := ((readWord (rText l ok).1).1, (rText l ok).2.1, (rText l ok).2.2 && (readWord (rText l ok).1).2)
/-- 32 bytes -/
def fit32 (b : List UInt8) : List UInt8 := b.take 32 ++ List.replicate (32 - b.length) 0
def rDig (l : List It) (ok : Bool) : List UInt8 × List It × Bool := (fit32 (rText l ok).1, (rText l ok).2.1, (rText l ok).2.2 && decide ((rText l ok).1.length = 32))
end Go.Pg
namespace Go.Proofs.Ytndkkgkcbbmnpaa
open Go.RowKit Go.Pg

/-- a reader's block -/
def RdrAt (F : Nat → Prop) (w : World) (d rb : Nat) (r : List It × Bool) : Prop :=
  ∃ a n c, ItemsAt F w d (.slice a n c) r.1 ∧ w.heap[rb]? = some (.cells #[.slice a n c, .bool r.2] 78 (0, 0))
/-- a text is told -/
def TextR (F : Nat → Prop) (w : World) (d rb : Nat) (r : List UInt8 × List It × Bool) (e : Ending) (w' : World) : Prop :=
  ∃ a n c, e = .returned (.slice a n c) ∧ BytesAt F w' (.slice a n c) r.1 ∧ RdrAt F w' d rb r.2 ∧ Chg (fun k => k = rb) w w'
theorem RdrAt.carry {F : Nat → Prop} {w w' : World} {d rb : Nat} {r : List It × Bool} (h : RdrAt F w d rb r) (hF : ∀ b, F b → b < w.heap.size → w'.heap[b]? = w.heap[b]?) (hb : w'.heap[rb]? = w.heap[rb]?) : RdrAt F w' d rb r := by
  obtain ⟨a, n, c, h1, h2⟩ := h
  exact ⟨a, n, c, ItemsAt.carry h1 (fun _ _ x => x) hF, hb.trans h2⟩

set_option maxHeartbeats 1000000 in
theorem brtext_any (F : Nat → Prop) (w : World) (d rb : Nat) (l : List It) (ok : Bool) (h : RdrAt F w (d + 1) rb (l, ok)) (hF : ¬ F rb) :
    Calls Try.prog 58 #[.pointer (some ⟨rb, 0, none⟩)] w (TextR F w (d + 1) rb (rText l ok)) := by
  obtain ⟨a, n, c, hit, hk⟩ := h
  simp only at hit hk
  obtain ⟨q0, q1⟩ := cells2 hk
  have f0 := frozen_of_row w rb 0 _ _ hk
  have f1 := frozen_of_row w rb 1 _ _ hk
  have HK := Lib.hid hk
  have HIT := Lib.hid hit
  have hbad : ∀ W : World, W = w.setCell ⟨rb, 1, none⟩ (.bool false) → ∀ v, v = Value.slice none 0 0 → TextR F w (d + 1) rb ([], l, false) (.returned v) W := by
    rintro W rfl v rfl
    refine ⟨none, 0, 0, rfl, BytesAt.nil _ _, ⟨a, n, c, ItemsAt.carry hit (fun _ _ x => x) (fun b hb _ => Below.heap_setCell _ _ _ _ (fun e => hF (by rw [← show b = rb from e]; exact hb))), blk_set hk⟩, (Chg.refl (fun k => k = rb) w).atb (i := 1) _⟩
  have HBAD := Lib.hid hbad
  clear hbad hk
  cases l with
  | nil =>
    rcases SliceAt.split hit with ⟨-, rfl⟩ | ⟨b, o, -, hn, hp, -⟩
    · clear hit
      go_enter Try.func58, Try.ntmps58
      go_wp2
      go_ret
      exact HBAD.out _ rfl _ rfl
    · simp at hn; omega
  | cons x r =>
    rcases SliceAt.split hit with ⟨h0, -⟩ | ⟨b, o, rfl, hn, hp, -⟩
    · cases h0
    have hc : n ≤ c := by
      obtain ⟨a', c', hv, h1, -⟩ := hit
      simp only [Value.slice.injEq] at hv
      omega
    obtain ⟨x1, y1, z1, x2, y2, z2, g0, g1, -, git⟩ := ItemsAt.cell hit 0 (by simp)
    simp only [Nat.zero_mul, Nat.add_zero, List.getElem_cons_zero] at g0 g1 git
    obtain ⟨a2, ha2⟩ : ∃ a2, (if c = 1 then some ⟨b, o, none⟩ else (some ⟨b, o, none⟩ : Option Addr).map (·.add (1 * 3))) = a2 := ⟨_, rfl⟩
    have HS := Lib.hid (SliceAt.since hit 1 (by omega) ha2)
    have HBY := Lib.hid (ItemAt.bytes git)
    have HN := Lib.hid hn
    clear hn
    cases x with
    | list x =>
      simp only [It.isList] at g0
      clear hit git ha2
      go_enter Try.func58, Try.ntmps58
      go_wp2
      go_ret
      exact HBAD.out _ rfl _ rfl
    | text t =>
      simp only [It.isList] at g0
      have hend : ∀ aa cc, a2 = aa → c - 1 = cc → TextR F w (d + 1) rb (rText (.text t :: r) ok) (.returned (.slice x1 y1 z1)) (w.setCell ⟨rb, 0, none⟩ (.slice aa (n - 1) cc)) := by
        rintro aa cc rfl rfl
        have hcar : ∀ b, F b → b < w.heap.size → (w.setCell ⟨rb, 0, none⟩ (.slice a2 (n - 1) (c - 1))).heap[b]? = w.heap[b]? := fun b hb _ => Below.heap_setCell _ _ _ _ (fun e => hF (by rw [← show b = rb from e]; exact hb))
        exact ⟨x1, y1, z1, rfl, BytesAt.carry HBY.out (fun _ _ x => x) hcar, ⟨a2, n - 1, c - 1, ItemsAt.carry HS.out (fun _ _ x => x) hcar, blk_set HK.out⟩, (Chg.refl (fun k => k = rb) w).atb (i := 0) _⟩
      have HEND := Lib.hid hend
      have HA2 := Lib.hid ha2
      clear hit git hend ha2
      by_cases hc1 : c = 1
      · go_enter Try.func58, Try.ntmps58
        go_wp2
        go_ret
        exact HEND.out _ _ (by have := HA2.out; rw [if_pos hc1] at this; exact this.symm) (by omega)
      · go_enter Try.func58, Try.ntmps58
        go_wp2
        go_ret
        exact HEND.out _ _ (by have := HA2.out; rw [if_neg hc1] at this; exact this.symm) rfl

/-- a word is told -/
def WordR (F : Nat → Prop) (w : World) (d rb : Nat) (r : Nat × List It × Bool) (e : Ending) (w' : World) : Prop :=
  e = .returned (.int .u64 (r.1 : Int)) ∧ RdrAt F w' d rb r.2 ∧ Chg (fun k => k = rb) w w'
set_option maxHeartbeats 1000000 in
theorem brword_any (F : Nat → Prop) (w : World) (d rb : Nat) (l : List It) (ok : Bool) (h : RdrAt F w (d + 1) rb (l, ok)) (hF : ¬ F rb) :
    Calls Try.prog 57 #[.pointer (some ⟨rb, 0, none⟩)] w (WordR F w (d + 1) rb (rWord l ok)) := by
  have hlt0 : rb < w.heap.size := by obtain ⟨_, _, _, _, hk⟩ := h; exact (Array.getElem?_eq_some_iff.1 hk).1
  have HC := Lib.hid (brtext_any F w d rb l ok h hF)
  obtain ⟨r, hr⟩ : ∃ r, r = rText l ok := ⟨_, rfl⟩
  have hw : rWord l ok = ((readWord r.1).1, r.2.1, r.2.2 && (readWord r.1).2) := by unfold rWord; rw [hr]
  rw [hw]
  rw [← hr] at HC
  obtain ⟨b, l1, ok1⟩ := r
  simp only
  obtain ⟨N, hN⟩ : ∃ N, N = readWord b := ⟨_, rfl⟩
  rw [← hN]
  obtain ⟨m, ok2⟩ := N
  have HN := Lib.hid hN
  simp only
  clear hr hw h hN
  go_enter Try.func57, Try.ntmps57
  go_wp2_with fail
  refine HC.out.mono ?_
  rintro e w1 ⟨a, n, c, rfl, hb, ⟨a1, n1, c1, hit, hk⟩, hc⟩
  simp only at hb hit hk
  obtain ⟨q0, q1⟩ := cells2 hk
  have f1 := frozen_of_row w1 rb 1 _ _ hk
  have HK := Lib.hid hk
  have HIT := Lib.hid hit
  have HCH := Lib.hid hc
  have HB := Lib.hid hb
  clear hk hit hc hb
  have hcall := wread_any F w1 a n c b HB.out
  rw [← HN.out] at hcall
  have HC2 := Lib.hid hcall
  have hend : ∀ u, u = (ok1 && ok2) → WordR F w (d + 1) rb (m, l1, ok1 && ok2) (.returned (.int .u64 (m : Int))) (w1.setCell ⟨rb, 1, none⟩ (.bool u)) := by
    rintro u rfl
    exact ⟨rfl, ⟨a1, n1, c1, ItemsAt.carry HIT.out (fun _ _ x => x) (fun b hb _ => Below.heap_setCell _ _ _ _ (fun e => hF (by rw [← show b = rb from e]; exact hb))), blk_set HK.out⟩, HCH.out.atb (i := 1) _⟩
  have HEND := Lib.hid hend
  clear hcall hend
  go_wp2_with fail
  refine HC2.out.mono ?_
  rintro e w2 ⟨rfl, rfl⟩
  cases ok1 <;> cases ok2
  all_goals (go_wp2_with fail; go_ret; exact HEND.out _ rfl)

/-- a digest is told -/
def DigR (F : Nat → Prop) (w : World) (d rb : Nat) (r : List UInt8 × List It × Bool) (e : Ending) (w' : World) : Prop :=
  e = .returned (.agg (cellsOf r.1)) ∧ RdrAt F w' d rb r.2 ∧ Chg (fun k => k = rb) w w'
set_option maxRecDepth 100000 in
set_option maxHeartbeats 2000000 in
theorem brdig_any (F : Nat → Prop) (w : World) (d rb : Nat) (l : List It) (ok : Bool) (h : RdrAt F w (d + 1) rb (l, ok)) (hF : ¬ F rb) :
    Calls Try.prog 56 #[.pointer (some ⟨rb, 0, none⟩)] w (DigR F w (d + 1) rb (rDig l ok)) := by
  have hlt0 : rb < w.heap.size := by obtain ⟨_, _, _, _, hk⟩ := h; exact (Array.getElem?_eq_some_iff.1 hk).1
  obtain ⟨r, hr⟩ : ∃ r, r = rText l ok := ⟨_, rfl⟩
  have hw : rDig l ok = (fit32 r.1, r.2.1, r.2.2 && decide (r.1.length = 32)) := by unfold rDig; rw [hr]
  rw [hw]
  obtain ⟨Wz, hWz⟩ : ∃ W : World, W = w.alloc (.cells #[.int .u8 0, .int .u8 0, .int .u8 0, .int .u8 0, .int .u8 0, .int .u8 0, .int .u8 0, .int .u8 0, .int .u8 0, .int .u8 0, .int .u8 0, .int .u8 0, .int .u8 0, .int .u8 0, .int .u8 0, .int .u8 0, .int .u8 0, .int .u8 0, .int .u8 0, .int .u8 0, .int .u8 0, .int .u8 0, .int .u8 0, .int .u8 0, .int .u8 0, .int .u8 0, .int .u8 0, .int .u8 0, .int .u8 0, .int .u8 0, .int .u8 0, .int .u8 0] 37) := ⟨_, rfl⟩
  have hcz : Chg (fun k => k = rb) w Wz := by rw [hWz]; exact (Chg.refl _ w).alloc _
  have hrz : Wz.heap[w.heap.size]? = some (.cells (cellsOf (List.replicate 32 0)) 37 (0, 0)) := by rw [hWz]; exact heap_alloc_new w _
  have hkz : ∀ k, k < w.heap.size → Wz.heap[k]? = w.heap[k]? := fun k hk => by rw [hWz]; exact Below.heap_alloc _ _ _ hk
  have hz1 : w.heap.size < Wz.heap.size := (Array.getElem?_eq_some_iff.1 hrz).1
  have hcall := brtext_any (fun b => F b ∧ b < w.heap.size) Wz d rb l ok (by
    obtain ⟨a, n, c, h1, h2⟩ := h
    exact ⟨a, n, c, ItemsAt.carry h1 (fun b hlt x => ⟨x, hlt⟩) (fun b _ hlt => hkz b hlt), (hkz _ hlt0).trans h2⟩) (fun x => hF x.1)
  rw [← hr] at hcall
  obtain ⟨b, l1, ok1⟩ := r
  simp only at hcall ⊢
  have HC := Lib.hid hcall
  have HWZ := Lib.hid hWz
  have HCZ := Lib.hid hcz
  have HRZ := Lib.hid hrz
  obtain ⟨R, hR⟩ : ∃ R, R = fit32 b := ⟨_, rfl⟩
  have hRl : R.length = 32 := by rw [hR]; simp [fit32]; omega
  have HR := Lib.hid hR
  have HRL := Lib.hid (show (cellsOf R).size = 32 by rw [cellsOf_size, hRl])
  rw [← hR]
  clear hr hw h hcall hWz hcz hrz hkz hR hRl
  go_enter Try.func56, Try.ntmps56
  go_wp2_with fail
  rw [← HWZ.out]
  refine HC.out.mono ?_
  rintro e w1 ⟨a, n, c, rfl, hb, ⟨a1, n1, c1, hit, hk⟩, hc⟩
  simp only at hb hit hk
  have hk0 := (hc.block _ hz1 (fun e => by omega)).trans HRZ.out
  have hlt1 : w.heap.size < w1.heap.size := Nat.lt_of_lt_of_le hz1 hc.size
  have hc0 : Chg (fun k => k = rb) w w1 := HCZ.out.trans hc (fun _ _ x => x)
  have hnb := (BytesAt.n hb).1
  obtain ⟨q0, q1⟩ := cells2 hk
  have f1 := frozen_of_row w1 rb 1 _ _ hk
  have HK := Lib.hid hk
  have HIT := Lib.hid hit
  have HCH := Lib.hid hc0
  have HB := Lib.hid hb
  have HNB := Lib.hid hnb
  have HK0 := Lib.hid hk0
  clear hk hit hc hb hc0 hnb hk0
  have hrb1 : rb < w1.heap.size := by omega
  have hne1 : rb ≠ w1.heap.size := by omega
  have hne0 : w.heap.size ≠ rb := by omega
  obtain ⟨Z, hZ⟩ : ∃ Z : Array Value, Z = #[.int .u8 0, .int .u8 0, .int .u8 0, .int .u8 0, .int .u8 0, .int .u8 0, .int .u8 0, .int .u8 0, .int .u8 0, .int .u8 0, .int .u8 0, .int .u8 0, .int .u8 0, .int .u8 0, .int .u8 0, .int .u8 0, .int .u8 0, .int .u8 0, .int .u8 0, .int .u8 0, .int .u8 0, .int .u8 0, .int .u8 0, .int .u8 0, .int .u8 0, .int .u8 0, .int .u8 0, .int .u8 0, .int .u8 0, .int .u8 0, .int .u8 0, .int .u8 0] := ⟨_, rfl⟩
  have hZ2 : (cellsL (List.replicate 32 0)).toArray = Z := by rw [hZ]; rfl
  have hg : ∀ u, ((w1.setCell ⟨rb, 1, none⟩ u).alloc (.cells Z 37)).heap[w1.heap.size]? = some (.cells (cellsL (List.replicate 32 0)).toArray 37 (0, 0)) := fun u => by
    have := heap_alloc_new (w1.setCell ⟨rb, 1, none⟩ u) (.cells Z 37); rw [World.size_setCell] at this; rw [hZ2]; exact this
  have hold : ∀ u k, k < w1.heap.size → k ≠ rb → ((w1.setCell ⟨rb, 1, none⟩ u).alloc (.cells Z 37)).heap[k]? = w1.heap[k]? := fun u k hk hn => by
    rw [Below.heap_alloc _ _ _ (by rw [World.size_setCell]; exact hk)]; exact Below.heap_setCell _ _ _ _ hn
  have hrbk : ∀ u, ((w1.setCell ⟨rb, 1, none⟩ u).alloc (.cells Z 37)).heap[rb]? = some (.cells #[.slice a1 n1 c1, u] 78 (0, 0)) := fun u =>
    (Below.heap_alloc _ _ _ (by rw [World.size_setCell]; exact hrb1)).trans (blk_set HK.out)
  have hch : ∀ u, Chg (fun k => k = rb) w ((w1.setCell ⟨rb, 1, none⟩ u).alloc (.cells Z 37)) := fun u => (HCH.out.atb (i := 1) u).alloc _
  have hcs : ∀ u, ∃ cs : List Value, cs = cellsL (b.take 32) ∧ cs.length = Nat.min n 32 ∧ (0 < cs.length → ∃ ad, a = some ad ∧ ∀ j v, cs[j]? = some v → ((w1.setCell ⟨rb, 1, none⟩ u).alloc (.cells Z 37)).cell? (ad.add j) = some v) := fun u => by
    have hbu : BytesAt (fun _ => True) ((w1.setCell ⟨rb, 1, none⟩ u).alloc (.cells Z 37)) (.slice a n c) b := BytesAt.carry HB.out (fun _ _ _ => trivial) (fun k hk hlt => hold u k hlt (fun e => hF (by rw [← e]; exact hk.1)))
    refine ⟨_, rfl, by rw [cellsL_length, List.length_take, HNB.out]; exact Nat.min_comm _ _, fun hp => ?_⟩
    rcases SliceAt.split hbu with ⟨h0, -⟩ | ⟨b', o, rfl, -, -, -⟩
    · rw [h0] at hp; simp [cellsL] at hp
    refine ⟨_, rfl, fun j v hv => ?_⟩
    unfold cellsL at hv
    rw [List.getElem?_map, List.getElem?_take] at hv
    split at hv
    · cases hbj : b[j]? with
      | none => rw [hbj] at hv; cases hv
      | some x =>
        rw [hbj] at hv
        have hjl := (List.getElem?_eq_some_iff.1 hbj)
        obtain ⟨hjl, hx⟩ := hjl
        have := BytesAt.cell hbu j hjl
        rw [hx] at this
        have e : (⟨b', o, none⟩ : Addr).add j = ⟨b', o + j, none⟩ := by unfold Addr.add; split <;> simp_all
        rw [e, this]
        exact hv
    · cases hv
  have hspl : splice (cellsL (List.replicate 32 0)) 0 (cellsL (b.take 32)) = cellsL R := by
    rw [HR.out]
    simp only [splice, List.take_zero, List.nil_append, Nat.zero_add, cellsL, fit32, List.map_append, List.length_map, List.length_take, List.map_replicate, List.drop_replicate]
    rw [show 32 - min 32 b.length = 32 - b.length by omega]
  have HG := Lib.hid hg
  have HOLD := Lib.hid hold
  have HRBK := Lib.hid hrbk
  have HCHG := Lib.hid hch
  have HCS := Lib.hid hcs
  have HSPL := Lib.hid hspl
  have HZ := Lib.hid hZ
  clear hg hold hrbk hch hcs hspl hZ2 hZ
  have hfin : ∀ (u : Bool) (w3 : World), u = (ok1 && decide (n = 32)) → Hid (w3.heap[w1.heap.size]? = some (.cells (splice (cellsL (List.replicate 32 0)) 0 (cellsL (b.take 32))).toArray 37 (0, 0))) →
      Below w1.heap.size ((w1.setCell ⟨rb, 1, none⟩ (.bool u)).alloc (.cells Z 37)) w3 → Hid (w3.heap[w1.heap.size]? = some (.cells (cellsOf R) 37 (0, 0)) ∧ w3.heap[w.heap.size]? = some (.cells (cellsOf (List.replicate 32 0)) 37 (0, 0)) ∧
        DigR F w (d + 1) rb (R, l1, ok1 && decide (b.length = 32)) (.returned (.agg (cellsOf R))) (w3.setRow w.heap.size (cellsOf R)) ∧ (w3.setRow w.heap.size (cellsOf R)).heap[w.heap.size]? = some (.cells (cellsOf R) 37 (0, 0))) := by
    rintro u w3 hu hs hb3
    have hs2 := hs.out
    rw [HSPL.out] at hs2
    have hz3 := ((hb3.block _ hlt1).trans (HOLD.out _ _ hlt1 hne0)).trans HK0.out
    have hr3 := (hb3.block _ hrb1).trans (HRBK.out (.bool u))
    have hcar : ∀ k, F k ∧ k < w.heap.size → k < w1.heap.size → (w3.setRow w.heap.size (cellsOf R)).heap[k]? = w1.heap[k]? := fun k hk hlt => by
      rw [setRow_other _ _ _ _ (by have := hk.2; omega), hb3.block _ hlt]
      exact HOLD.out _ _ hlt (fun e => hF (by rw [← e]; exact hk.1))
    refine Lib.hid ⟨hs2, hz3, ⟨rfl, ⟨a1, n1, c1, ItemsAt.carry HIT.out (fun k _ x => x.1) hcar, ?_⟩, ?_⟩, setRow_heap w3 _ _ _ _ _ hz3⟩
    · rw [setRow_other _ _ _ _ (fun e => hne0 e.symm), hr3, hu, HNB.out]
    · have h4 : Chg (fun k => k = rb) w w3 := (HCHG.out (.bool u)).trans (M' := fun k => k = w1.heap.size) ⟨hb3.os, hb3.tape, hb3.output, hb3.size, fun k hk hn => hb3.block _ (by simp [World.setCell] at hk; omega)⟩ (fun i hi e => by omega)
      exact ⟨h4.os, h4.tape, h4.output, Nat.le_trans h4.size (by simp [World.setRow]), fun k hk hn => (setRow_other _ _ _ _ (by omega)).trans (h4.block k hk hn)⟩
  have HFIN := Lib.hid hfin
  clear hfin
  have hub : Try.prog.underlying 25 = some (.slice 5) := Try.underlying25
  have h1 : ∀ v ∈ cellsL (b.take 32), v.oneCell' = true := by
    intro v hv
    simp only [cellsL, List.mem_map] at hv
    obtain ⟨x, -, rfl⟩ := hv
    rfl
  have HUB := Lib.hid hub
  have H1 := Lib.hid h1
  have HCZ0 : Hid (splice (cellsL (List.replicate 32 0)) 0 (cellsL (b.take 32)) = splice (cellsL (List.replicate 32 0)) 0 (cellsL (b.take 32))) := Lib.hid rfl
  have HFIT : Hid (0 + (cellsL (b.take 32)).length ≤ (cellsL (List.replicate 32 0)).length) := Lib.hid (by rw [cellsL_length, cellsL_length]; simp; omega)
  clear hub h1
  cases ok1 with
  | false =>
    go_wp2_with (first
      | (rw [← HZ.out]; obtain ⟨cs, rfl, g1, g2⟩ := HCS.out (.bool false); (refine wpList_copy_splice rfl (.tmp 19) (.tmp 20) 25 25 rfl 5 HUB.out (by kernel_rfl) (some ⟨w1.heap.size, 0, none⟩) a 32 32 n c rfl rfl w1.heap.size 0 (cellsL (List.replicate 32 0)) 37 (HG.out _) (cellsL (b.take 32)) g1 (fun hp => ⟨rfl, g2 hp⟩) HFIT.out H1.out w1.heap.size _ ⟨rfl, rfl, rfl, Nat.le_refl _, fun _ _ => rfl⟩ (Nat.le_refl _) ?_); intro w3 h3 hb3; have HX := HFIN.out false w3 (by simp) h3 hb3; clear h3 hb3 g1 g2)
      | (refine wpList_load_row rfl 37 (.tmp 4) rfl w1.heap.size rfl 37 (cellsOf R) (0, 0) (.array 32 5) HX.out.1 underlyingDig rfl (by rw [HRL.out]; exact infoDig) ?_)
      | (refine wpList_store_row rfl 37 (.tmp 2) (.tmp 22) rfl w.heap.size (cellsOf R) rfl rfl 37 (cellsOf (List.replicate 32 0)) HX.out.2.1 (by rw [HRL.out]; exact infoDig) (by rw [HRL.out]; rfl) (cellsOf_one R) ?_))

    refine bodyPost_ret (v := .agg (cellsOf R)) (results_cell_row rfl _ _ w.heap.size 37 (cellsOf R) (0, 0) (.array 32 5) rfl HX.out.2.2.2 underlyingDig rfl (by rw [HRL.out]; exact infoDig)) rfl ?_
    exact HX.out.2.2.1
  | true =>
    by_cases h32 : n = 32
    · subst h32
      go_wp2_with (first
        | (rw [← HZ.out]; obtain ⟨cs, rfl, g1, g2⟩ := HCS.out (.bool true); (refine wpList_copy_splice rfl (.tmp 19) (.tmp 20) 25 25 rfl 5 HUB.out (by kernel_rfl) (some ⟨w1.heap.size, 0, none⟩) a 32 32 32 c rfl rfl w1.heap.size 0 (cellsL (List.replicate 32 0)) 37 (HG.out _) (cellsL (b.take 32)) g1 (fun hp => ⟨rfl, g2 hp⟩) HFIT.out H1.out w1.heap.size _ ⟨rfl, rfl, rfl, Nat.le_refl _, fun _ _ => rfl⟩ (Nat.le_refl _) ?_); intro w3 h3 hb3; have HX := HFIN.out true w3 (by simp) h3 hb3; clear h3 hb3 g1 g2)
        | (refine wpList_load_row rfl 37 (.tmp 4) rfl w1.heap.size rfl 37 (cellsOf R) (0, 0) (.array 32 5) HX.out.1 underlyingDig rfl (by rw [HRL.out]; exact infoDig) ?_)
        | (refine wpList_store_row rfl 37 (.tmp 2) (.tmp 22) rfl w.heap.size (cellsOf R) rfl rfl 37 (cellsOf (List.replicate 32 0)) HX.out.2.1 (by rw [HRL.out]; exact infoDig) (by rw [HRL.out]; rfl) (cellsOf_one R) ?_))
      refine bodyPost_ret (v := .agg (cellsOf R)) (results_cell_row rfl _ _ w.heap.size 37 (cellsOf R) (0, 0) (.array 32 5) rfl HX.out.2.2.2 underlyingDig rfl (by rw [HRL.out]; exact infoDig)) rfl ?_
      exact HX.out.2.2.1
    · have h32' : ¬ (n : Int) = 32 := by omega
      have HEQ : Hid (((n : Int) == 32) = (true && decide (n = 32))) := Lib.hid (by rw [decide_eq_false h32]; simp [h32'])
      go_wp2_with (first
        | (rw [← HZ.out]; obtain ⟨cs, rfl, g1, g2⟩ := HCS.out (.bool ((n : Int) == 32)); (refine wpList_copy_splice rfl (.tmp 19) (.tmp 20) 25 25 rfl 5 HUB.out (by kernel_rfl) (some ⟨w1.heap.size, 0, none⟩) a 32 32 n c rfl rfl w1.heap.size 0 (cellsL (List.replicate 32 0)) 37 (HG.out _) (cellsL (b.take 32)) g1 (fun hp => ⟨rfl, g2 hp⟩) HFIT.out H1.out w1.heap.size _ ⟨rfl, rfl, rfl, Nat.le_refl _, fun _ _ => rfl⟩ (Nat.le_refl _) ?_); intro w3 h3 hb3; have HX := HFIN.out ((n : Int) == 32) w3 HEQ.out h3 hb3; clear h3 hb3 g1 g2)
        | (refine wpList_load_row rfl 37 (.tmp 4) rfl w1.heap.size rfl 37 (cellsOf R) (0, 0) (.array 32 5) HX.out.1 underlyingDig rfl (by rw [HRL.out]; exact infoDig) ?_)
        | (refine wpList_store_row rfl 37 (.tmp 2) (.tmp 22) rfl w.heap.size (cellsOf R) rfl rfl 37 (cellsOf (List.replicate 32 0)) HX.out.2.1 (by rw [HRL.out]; exact infoDig) (by rw [HRL.out]; rfl) (cellsOf_one R) ?_))
      refine bodyPost_ret (v := .agg (cellsOf R)) (results_cell_row rfl _ _ w.heap.size 37 (cellsOf R) (0, 0) (.array 32 5) rfl HX.out.2.2.2 underlyingDig rfl (by rw [HRL.out]; exact infoDig)) rfl ?_
      exact HX.out.2.2.1
end Go.Proofs.Ytndkkgkcbbmnpaa
namespace Go.Pg
open Go.RowKit
def rOpen (bs : List UInt8) (many : Nat) : List It × Bool := ((rdWhole bs).2.items, (decide ((rdWhole bs).1 = 0) && (rdWhole bs).2.isList) && decide ((rdWhole bs).2.items.length = many))
end Go.Pg
namespace Go.Proofs.Ytndkkgkcbbmnpaa
open Go.RowKit Go.Pg

/-- a reader is made -/
def Opened (w : World) (r : List It × Bool) (e : Ending) (w' : World) : Prop :=
  ∃ rb, e = .returned (.pointer (some ⟨rb, 0, none⟩)) ∧ w.heap.size ≤ rb ∧ RdrAt (fun b => w.heap.size ≤ b ∧ b ≠ rb) w' 8 rb r ∧ Below w.heap.size w w'

set_option maxRecDepth 100000 in
set_option maxHeartbeats 2000000 in
theorem bread_any (F : Nat → Prop) (w : World) (a : Option Addr) (n c many : Nat) (bs : List UInt8) (h : BytesAt F w (.slice a n c) bs) (hn : n ≤ 140737488351232) :
    Calls Try.prog 55 #[.slice a n c, .int .i64 (many : Int)] w (Opened w (rOpen bs many)) := by
  obtain ⟨r, hr⟩ : ∃ r, r = rdWhole bs := ⟨_, rfl⟩
  have hcall := decode_any F w a n c bs h hn
  rw [← hr] at hcall
  have ho : rOpen bs many = (r.2.items, (decide (r.1 = 0) && r.2.isList) && decide (r.2.items.length = many)) := by unfold rOpen; rw [hr]
  rw [ho]
  obtain ⟨e1, x⟩ := r
  simp only at hcall ⊢
  have HC := Lib.hid hcall
  obtain ⟨X, hX⟩ : ∃ X, X = (x.items, (decide (e1 = 0) && x.isList) && decide (x.items.length = many)) := ⟨_, rfl⟩
  rw [← hX]
  have HX := Lib.hid hX
  clear hcall ho hr h hX
  go_enter Try.func55, Try.ntmps55
  go_wp2_with fail
  refine HC.out.mono ?_
  rintro e w5 ⟨il, a1, n1, c1, a3, n3, c3, rfl, hit, hb⟩
  simp only at hit
  obtain ⟨hil, _, _, _, _, _, _, e1', e2', -, hn3⟩ := ItemAt.form hit
  simp only [Value.slice.injEq] at e1' e2'
  obtain ⟨rfl, rfl, rfl⟩ := e1'
  obtain ⟨rfl, rfl, rfl⟩ := e2'
  have hits := ItemAt.items hit
  obtain ⟨L, hL⟩ : ∃ L, L = x.items := ⟨_, rfl⟩
  obtain ⟨q, hq⟩ : ∃ q, q = x.isList := ⟨_, rfl⟩
  rw [← hL] at hits hn3
  rw [← hq] at hil
  have HL := Lib.hid hL
  have HQ := Lib.hid hq
  have HB := Lib.hid hb
  have HIT := Lib.hid hits
  have HN := Lib.hid hn3
  clear hL hq hits hit hb hn3 HC
  subst hil
  have hfin : ∀ u, u = ((decide (e1 = 0) && il) && decide (n3 = many)) → Opened w X (.returned (.pointer (some ⟨w5.heap.size + 1, 0, none⟩))) ((w5.alloc (.cells #[.bool il, .slice a1 n1 c1, .slice a3 n3 c3] 65)).alloc (.cells #[.slice a3 n3 c3, .bool u] 78)) := by
    rintro u hu
    have hx2 : X = (L, u) := by rw [HX.out, hu, HL.out, HQ.out, HN.out, HL.out]
    rw [hx2]
    have hsz := HB.out.size
    have hbl : Below w5.heap.size w5 ((w5.alloc (.cells #[.bool il, .slice a1 n1 c1, .slice a3 n3 c3] 65)).alloc (.cells #[.slice a3 n3 c3, .bool u] 78)) := Bel.alloc (Bel.alloc (Bel.refl w5) _) _
    refine ⟨_, rfl, by omega, ⟨a3, n3, c3, ItemsAt.carry HIT.out (fun b hlt hF => ⟨hF, by omega⟩) (fun b _ hlt => hbl.block b hlt), ?_⟩, Bel.call HB.out hbl⟩
    have := heap_alloc_new (w5.alloc (.cells #[.bool il, .slice a1 n1 c1, .slice a3 n3 c3] 65)) (.cells #[.slice a3 n3 c3, .bool u] 78)
    rw [World.size_alloc] at this
    exact this
  have HFIN := Lib.hid hfin
  clear hfin
  by_cases he : e1 = 0
  · subst he
    cases il with
    | false =>
      go_wp2
      go_ret
      exact HFIN.out _ (by simp)
    | true =>
      go_wp2
      go_ret
      exact HFIN.out _ (by
        by_cases hm : n3 = many
        · subst hm; simp
        · have hm' : ¬ (n3 : Int) = many := by omega
          simp [hm, hm'])
  · have he' : ¬ (e1 : Int) = 0 := by omega
    go_wp2
    go_ret
    exact HFIN.out _ (by simp [he])
end Go.Proofs.Ytndkkgkcbbmnpaa
namespace Go.Pg
open Go.RowKit
theorem fill_fold (off : Nat) (post : List Value) : ∀ (l : List Value) (k : Nat) (pre old : List Value), pre.length = off + k → old.length = l.length →
    (l.zipIdx k).foldl (fun (cs : Array Value) (x : Value × Nat) => cs.setIfInBounds (off + x.2) x.1) (pre ++ old ++ post).toArray = (pre ++ l ++ post).toArray
  | [], k, pre, old, _, ho => by
    obtain rfl : old = [] := List.eq_nil_of_length_eq_zero ho
    rfl
  | v :: l, k, pre, [], _, ho => by simp at ho
  | v :: l, k, pre, u :: old, hp, ho => by
    have ih := fill_fold off post l (k + 1) (pre ++ [v]) old (by simp; omega) (by simpa using ho)
    simp only [List.zipIdx_cons, List.foldl_cons]
    have hs : (pre ++ u :: old ++ post).toArray.setIfInBounds (off + k) v = (pre ++ [v] ++ old ++ post).toArray := by
      rw [List.setIfInBounds_toArray, ← hp]
      congr 1
      simp
    rw [hs, ih]
    congr 1
    simp
theorem fill_one (place : Nat → Option (Nat × Nat)) (i off : Nat) (l pre old post : List Value) (rest : List (Nat × Value)) (hi : place i = some (off, l.length)) (hp : pre.length = off) (ho : old.length = l.length) :
    Instr.fill place (pre ++ old ++ post).toArray ((i, .agg l.toArray) :: rest) = Instr.fill place (pre ++ l ++ post).toArray rest := by
  conv => lhs; unfold Instr.fill
  simp only [hi]
  rw [if_neg (by simp [Value.cells]; omega)]
  have := fill_fold off post l 0 pre old (by omega) ho
  simp only [Value.cells]
  rw [← this, ← Array.foldl_toList]
  simp
theorem fill_int (place : Nat → Option (Nat × Nat)) (i off : Nat) (k : IntKind) (v : Int) (u : Value) (pre post : List Value) (rest : List (Nat × Value)) (hi : place i = some (off, 1)) (hp : pre.length = off) :
    Instr.fill place (pre ++ [u] ++ post).toArray ((i, .int k v) :: rest) = Instr.fill place (pre ++ [Value.int k v] ++ post).toArray rest := by
  conv => lhs; unfold Instr.fill
  simp only [hi]
  rw [if_neg (by simp [Value.cells]; omega)]
  have := fill_fold off post [.int k v] 0 pre [u] (by omega) rfl
  simp only [Value.cells]
  rw [← this, ← Array.foldl_toList]
  simp
section
variable {P : Program}
theorem wpList_build_to {ops : Array Oper} {rest : List Oper} {o : Oper} {a : Act} {w : World} {Q : Exit → Act → World → Prop} (hg : o.guard = none) (t : TypeId) (parts : Array (Nat × Operand)) (ho : o.op = .build t parts)
    (vs : List (Nat × Value)) (hv : (parts.map fun (i, x) => (i, a.eval x)).toList = vs) (cells : Array Value) (hb : P.built t vs = some cells)
    (h : wpList P ops Q rest (a.put o.dst (.agg cells)) w) : wpList P ops Q (o :: rest) a w :=
  wpList_build hg t parts ho (by rw [hv, hb]; rfl) (by rw [hv, hb]; exact h)
theorem results_cell_row_tmp {fn : Func} {p q : Tmp} {ty : TypeId} (h : fn.results = #[.cell p ty, .tmp q]) (tmps : Array Value) (w : World) (g : Nat) (t : TypeId) (cs : Array Value) (fr : Nat × Nat) (d : TypeDesc)
    (hp : tmps.getD p undef = .pointer (some ⟨g, 0, none⟩)) (hg : w.heap[g]? = some (.cells cs t fr))
    (hu : P.underlying ty = some d) (hd : (match d with | .struct _ | .array _ _ => true | _ => false) = true) (hi : (P.info? ty).map (·.size) = some cs.size) (v : Value) (hv : tmps.getD q undef = v) :
    (results fn tmps).run P w = .ok (.tuple #[.agg cs, v]) w := by
  subst hv
  have hp' : tmps[p]?.getD undef = .pointer (some ⟨g, 0, none⟩) := by simpa using hp
  simp [results, h, hp', asAddr, run_loadVar_row w g t ty cs fr d hg hu hd hi]
end
/-- an empty header -/
def hdr0 : Hdr := ⟨List.replicate 32 0, 0, 0, 0, List.replicate 32 0, List.replicate 32 0, List.replicate 32 0⟩
theorem hdr0_ok : hdr0.ok := ⟨rfl, rfl, rfl, rfl, by decide, by decide, by decide⟩
/-- a header's fields, read out of a list -/
def rHdr (l : List It) (ok : Bool) : Hdr × Bool :=
  let r1 := rDig l ok
  let r2 := rWord r1.2.1 r1.2.2
  let r3 := rWord r2.2.1 r2.2.2
  let r4 := rWord r3.2.1 r3.2.2
  let r5 := rDig r4.2.1 r4.2.2
  let r6 := rDig r5.2.1 r5.2.2
  let r7 := rDig r6.2.1 r6.2.2
  (⟨r1.1, r2.1, r3.1, r4.1, r5.1, r6.1, r7.1⟩, r7.2.2)
def hdrDecode (bs : List UInt8) : Hdr × Nat :=
  if (rOpen bs 7).2 = true ∧ (rHdr (rOpen bs 7).1 true).2 = true then ((rHdr (rOpen bs 7).1 true).1, 0) else (hdr0, 190)
theorem fit32_length (b : List UInt8) : (fit32 b).length = 32 := by simp [fit32]; omega
theorem readWord_lt (b : List UInt8) : ((readWord b).1 : Int) < 18446744073709551616 := by
  unfold readWord
  split
  · decide
  · rename_i h
    have h8 : b.length ≤ 8 := by omega
    have h1 := beNum_lt b
    have h2 : 256 ^ b.length ≤ 256 ^ 8 := Nat.pow_le_pow_right (by omega) h8
    have h3 : beNum b < 256 ^ 8 := Nat.lt_of_lt_of_le h1 h2
    simp only
    omega
theorem rHdr_ok (l : List It) (ok : Bool) : (rHdr l ok).1.ok :=
  ⟨fit32_length _, fit32_length _, fit32_length _, fit32_length _, readWord_lt _, readWord_lt _, readWord_lt _⟩
theorem hdrDecode_ok (bs : List UInt8) : (hdrDecode bs).1.ok := by
  unfold hdrDecode
  split
  · exact rHdr_ok _ _
  · exact hdr0_ok
end Go.Pg
namespace Go.Proofs.Ytndkkgkcbbmnpaa
open Go.RowKit Go.Pg
theorem builtHdr (parts : List (Nat × Value)) : Try.prog.built 47 parts = Instr.fill (#[(0, 32), (32, 1), (33, 1), (34, 1), (35, 32), (67, 32), (99, 32)][·]?) (hdrCells hdr0) parts := by kernel_rfl
theorem builtHdr0 : Try.prog.built 47 [] = some (hdrCells hdr0) := builtHdr []
theorem builtHdrAll (h : Hdr) (ho : h.ok) : Try.prog.built 47 [(0, .agg (cellsOf h.p)), (1, .int .u64 h.nn), (2, .int .u64 h.bb), (3, .int .u64 h.gg), (4, .agg (cellsOf h.tx)), (5, .agg (cellsOf h.st)), (6, .agg (cellsOf h.rc))] = some (hdrCells h) := by
  have l0 : (cellsL h.p).length = 32 := by rw [cellsL_length, ho.p]
  have l1 : (cellsL h.tx).length = 32 := by rw [cellsL_length, ho.tx]
  have l2 : (cellsL h.st).length = 32 := by rw [cellsL_length, ho.st]
  have l3 : (cellsL h.rc).length = 32 := by rw [cellsL_length, ho.rc]
  have z0 : (cellsL (List.replicate 32 0)).length = 32 := by rw [cellsL_length]; simp
  rw [builtHdr]
  obtain ⟨p, nn, bb, gg, tx, st, rc⟩ := h
  simp only at l0 l1 l2 l3 ⊢
  obtain ⟨Z, hZ⟩ : ∃ Z, Z = cellsL (List.replicate 32 0) := ⟨_, rfl⟩
  have hz : hdrCells hdr0 = (Z ++ [Value.int .u64 0] ++ [Value.int .u64 0] ++ [Value.int .u64 0] ++ Z ++ Z ++ Z).toArray := by rw [hZ]; rfl
  have hh : hdrCells ⟨p, nn, bb, gg, tx, st, rc⟩ = (cellsL p ++ [Value.int .u64 (nn : Int)] ++ [Value.int .u64 (bb : Int)] ++ [Value.int .u64 (gg : Int)] ++ cellsL tx ++ cellsL st ++ cellsL rc).toArray := by unfold hdrCells; simp
  rw [← hZ] at z0
  rw [hz, hh]
  obtain ⟨A, hA⟩ : ∃ A, A = cellsL p := ⟨_, rfl⟩
  obtain ⟨B, hB⟩ : ∃ B, B = cellsL tx := ⟨_, rfl⟩
  obtain ⟨C, hC⟩ : ∃ C, C = cellsL st := ⟨_, rfl⟩
  obtain ⟨D, hD⟩ : ∃ D, D = cellsL rc := ⟨_, rfl⟩
  have eA : cellsOf p = A.toArray := by rw [hA]; rfl
  have eB : cellsOf tx = B.toArray := by rw [hB]; rfl
  have eC : cellsOf st = C.toArray := by rw [hC]; rfl
  have eD : cellsOf rc = D.toArray := by rw [hD]; rfl
  rw [eA, eB, eC, eD, ← hA, ← hB, ← hC, ← hD]
  rw [← hA] at l0; rw [← hB] at l1; rw [← hC] at l2; rw [← hD] at l3
  have s1 := fill_one (#[(0, 32), (32, 1), (33, 1), (34, 1), (35, 32), (67, 32), (99, 32)][·]?) 0 0 A [] Z ([Value.int .u64 0] ++ [Value.int .u64 0] ++ [Value.int .u64 0] ++ Z ++ Z ++ Z) [(1, .int .u64 nn), (2, .int .u64 bb), (3, .int .u64 gg), (4, .agg B.toArray), (5, .agg C.toArray), (6, .agg D.toArray)] (by rw [l0]; rfl) rfl (by omega)
  have s2 := fill_int (#[(0, 32), (32, 1), (33, 1), (34, 1), (35, 32), (67, 32), (99, 32)][·]?) 1 32 .u64 nn (.int .u64 0) A ([Value.int .u64 0] ++ [Value.int .u64 0] ++ Z ++ Z ++ Z) [(2, .int .u64 bb), (3, .int .u64 gg), (4, .agg B.toArray), (5, .agg C.toArray), (6, .agg D.toArray)] rfl l0
  have s3 := fill_int (#[(0, 32), (32, 1), (33, 1), (34, 1), (35, 32), (67, 32), (99, 32)][·]?) 2 33 .u64 bb (.int .u64 0) (A ++ [Value.int .u64 (nn : Int)]) ([Value.int .u64 0] ++ Z ++ Z ++ Z) [(3, .int .u64 gg), (4, .agg B.toArray), (5, .agg C.toArray), (6, .agg D.toArray)] rfl (by simp [l0])
  have s4 := fill_int (#[(0, 32), (32, 1), (33, 1), (34, 1), (35, 32), (67, 32), (99, 32)][·]?) 3 34 .u64 gg (.int .u64 0) (A ++ [Value.int .u64 (nn : Int)] ++ [Value.int .u64 (bb : Int)]) (Z ++ Z ++ Z) [(4, .agg B.toArray), (5, .agg C.toArray), (6, .agg D.toArray)] rfl (by simp [l0])
  have s5 := fill_one (#[(0, 32), (32, 1), (33, 1), (34, 1), (35, 32), (67, 32), (99, 32)][·]?) 4 35 B (A ++ [Value.int .u64 (nn : Int)] ++ [Value.int .u64 (bb : Int)] ++ [Value.int .u64 (gg : Int)]) Z (Z ++ Z) [(5, .agg C.toArray), (6, .agg D.toArray)] (by rw [l1]; rfl) (by simp [l0]) (by omega)
  have s6 := fill_one (#[(0, 32), (32, 1), (33, 1), (34, 1), (35, 32), (67, 32), (99, 32)][·]?) 5 67 C (A ++ [Value.int .u64 (nn : Int)] ++ [Value.int .u64 (bb : Int)] ++ [Value.int .u64 (gg : Int)] ++ B) Z Z [(6, .agg D.toArray)] (by rw [l2]; rfl) (by simp [l0, l1]) (by omega)
  have s7 := fill_one (#[(0, 32), (32, 1), (33, 1), (34, 1), (35, 32), (67, 32), (99, 32)][·]?) 6 99 D (A ++ [Value.int .u64 (nn : Int)] ++ [Value.int .u64 (bb : Int)] ++ [Value.int .u64 (gg : Int)] ++ B ++ C) Z [] [] (by rw [l3]; rfl) (by simp [l0, l1, l2]) (by omega)
  simp only [List.nil_append, List.append_nil, List.append_assoc] at s1 s2 s3 s4 s5 s6 s7 ⊢
  rw [s1, s2, s3, s4, s5, s6, s7]
  rfl
end Go.Proofs.Ytndkkgkcbbmnpaa
namespace Go.Proofs.Ytndkkgkcbbmnpaa
open Go.RowKit Go.Pg

theorem hdrCells_one (h : Hdr) : (hdrCells h).all (·.oneCell') = true := by
  apply Array.all_eq_true_iff_forall_mem.2
  intro u hu
  simp only [hdrCells, cellsL, List.mem_toArray, List.mem_append, List.mem_map, List.mem_cons, List.not_mem_nil, or_false] at hu
  rcases hu with (((⟨x, -, rfl⟩ | rfl | rfl | rfl) | ⟨x, -, rfl⟩) | ⟨x, -, rfl⟩) | ⟨x, -, rfl⟩ <;> rfl
/-- a header is told, or an empty one and a fault -/
def HdrD (w : World) (r : Hdr × Nat) (e : Ending) (w' : World) : Prop := e = .returned (.tuple #[.agg (hdrCells r.1), .int .i64 (r.2 : Int)]) ∧ Below w.heap.size w w'

set_option maxRecDepth 100000 in
set_option maxHeartbeats 4000000 in
theorem bhdec_any (F : Nat → Prop) (w : World) (a : Option Addr) (n c : Nat) (bs : List UInt8) (h : BytesAt F w (.slice a n c) bs) (hn : n ≤ 140737488351232) :
    Calls Try.prog 25 #[.slice a n c] w (HdrD w (hdrDecode bs)) := by
  obtain ⟨ZR, hZR⟩ : ∃ ZR : Array Value, ZR = Try.zeroCells47 := ⟨_, rfl⟩
  have hZR2 : ZR = hdrCells hdr0 := by rw [hZR]; rfl
  obtain ⟨Wz, hWz⟩ : ∃ W : World, W = w.alloc (.cells ZR 47) := ⟨_, rfl⟩
  have hbz : Below w.heap.size w Wz := by rw [hWz]; exact Bel.alloc (Bel.refl w) _
  have hrz : Wz.heap[w.heap.size]? = some (.cells ZR 47 (0, 0)) := by rw [hWz]; exact heap_alloc_new w _
  have hzs : Wz.heap.size = w.heap.size + 1 := by rw [hWz]; simp
  have hcall := bread_any _ Wz a n c 7 bs (BytesAt.below h (by rw [hWz]; exact Bel.alloc (Bel.refl w) _)) hn
  obtain ⟨O, hO⟩ : ∃ O, O = rOpen bs 7 := ⟨_, rfl⟩
  rw [← hO] at hcall
  have hres : hdrDecode bs = if O.2 = true ∧ (rHdr O.1 true).2 = true then ((rHdr O.1 true).1, 0) else (hdr0, 190) := by unfold hdrDecode; rw [hO]
  obtain ⟨X, hX⟩ : ∃ X, X = hdrDecode bs := ⟨_, rfl⟩
  rw [← hX]
  rw [← hX] at hres
  obtain ⟨l0, k0⟩ := O
  simp only at hres hcall
  obtain ⟨fs, hu⟩ := underlyingHdr
  have HU := Lib.hid hu
  have HC := Lib.hid hcall
  have HRES := Lib.hid hres
  have HZR := Lib.hid hZR
  have HZR2 := Lib.hid hZR2
  have HWZ := Lib.hid hWz
  have HBZ := Lib.hid hbz
  have HRZ := Lib.hid hrz
  have HSZ := Lib.hid (show ∀ h : Hdr, h.ok → (Try.prog.info? 47).map (·.size) = some (hdrCells h).size from fun h ho => by rw [hdrCells_size h ho]; exact infoHdr)
  clear hu hcall hres hX hO hZR hZR2 hWz hbz hrz h
  go_enter Try.func25, Try.ntmps25
  go_wp2_with fail
  rw [← HZR.out, ← HWZ.out]
  refine HC.out.mono ?_
  rintro e w1 ⟨rb, rfl, hrb, hr1, hb1⟩
  have hk1 := (hb1.block _ (by omega)).trans HRZ.out
  have hbl1 := Bel.call HBZ.out hb1
  obtain ⟨a1, n1, c1, hit, hk⟩ := id hr1
  simp only at hit hk
  obtain ⟨q0, q1⟩ := cells2 hk
  have HK1 := Lib.hid hk1
  have HBL1 := Lib.hid hbl1
  have HR1 := Lib.hid hr1
  clear hk1 hbl1 hr1 hit hk HC hb1
  have hiz : (Try.prog.info? 47).map (·.size) = some (Try.zeroCells47).size := by kernel_rfl
  have hoz : (Try.zeroCells47).all (·.oneCell') = true := by kernel_rfl
  have HIZ := Lib.hid hiz
  have HOZ := Lib.hid hoz
  clear hiz hoz
  have hbad : ∀ W : World, Below w.heap.size w W → W.heap[w.heap.size]? = some (.cells ZR 47 (0, 0)) → X = (hdr0, 190) →
      (W.setRow w.heap.size Try.zeroCells47).heap[w.heap.size]? = some (.cells Try.zeroCells47 47 (0, 0)) ∧ HdrD w X (.returned (.tuple #[.agg Try.zeroCells47, .int .i64 190])) (W.setRow w.heap.size Try.zeroCells47) := by
    intro W hb hk hX
    refine ⟨setRow_heap W _ _ _ _ _ hk, ?_, below_setRow hb (Nat.le_refl _) _⟩
    rw [hX, ← HZR.out, HZR2.out]; rfl
  have HBAD := Lib.hid hbad
  clear hbad
  cases k0 with
  | false =>
    have hX : X = (hdr0, 190) := by rw [HRES.out, if_neg]; rintro ⟨x, -⟩; cases x
    have HX := Lib.hid (HBAD.out w1 HBL1.out HK1.out hX)
    clear hX
    go_wp2_with (refine wpList_store_row rfl 47 (.tmp 2) (.tmp 13) rfl w.heap.size Try.zeroCells47 rfl rfl 47 ZR HK1.out HIZ.out (by rw [HZR.out]) HOZ.out ?_)
    refine bodyPost_ret (v := .tuple #[.agg Try.zeroCells47, .int .i64 190]) (results_cell_row_tmp rfl _ _ w.heap.size 47 Try.zeroCells47 (0, 0) (.struct fs) rfl HX.out.1 HU.out rfl HIZ.out _ rfl) rfl ?_
    exact HX.out.2
  | true =>
    obtain ⟨b1, l1, k1, h1⟩ : ∃ b l k, rDig l0 true = (b, l, k) := ⟨_, _, _, rfl⟩
    obtain ⟨b2, l2, k2, h2⟩ : ∃ b l k, rWord l1 k1 = (b, l, k) := ⟨_, _, _, rfl⟩
    obtain ⟨b3, l3, k3, h3⟩ : ∃ b l k, rWord l2 k2 = (b, l, k) := ⟨_, _, _, rfl⟩
    obtain ⟨b4, l4, k4, h4⟩ : ∃ b l k, rWord l3 k3 = (b, l, k) := ⟨_, _, _, rfl⟩
    obtain ⟨b5, l5, k5, h5⟩ : ∃ b l k, rDig l4 k4 = (b, l, k) := ⟨_, _, _, rfl⟩
    obtain ⟨b6, l6, k6, h6⟩ : ∃ b l k, rDig l5 k5 = (b, l, k) := ⟨_, _, _, rfl⟩
    obtain ⟨b7, l7, k7, h7⟩ : ∃ b l k, rDig l6 k6 = (b, l, k) := ⟨_, _, _, rfl⟩
    have hH : rHdr l0 true = (⟨b1, b2, b3, b4, b5, b6, b7⟩, k7) := by unfold rHdr; simp only [h1, h2, h3, h4, h5, h6, h7]
    obtain ⟨H, hHe⟩ : ∃ H : Hdr, H = ⟨b1, b2, b3, b4, b5, b6, b7⟩ := ⟨_, rfl⟩
    rw [← hHe] at hH
    have hok : H.ok := by have := rHdr_ok l0 true; rw [hH] at this; exact this
    have hbu := builtHdrAll H hok
    rw [hHe] at hbu
    simp only at hbu
    rw [← hHe] at hbu
    have hX : X = if k7 = true then (H, 0) else (hdr0, 190) := by rw [HRES.out, hH]; simp
    have hoc : (hdrCells H).all (·.oneCell') = true := hdrCells_one H
    have hsh : (hdrCells H).size = (Try.zeroCells47).size := by rw [hdrCells_size H hok]; kernel_rfl
    have HX := Lib.hid hX
    have HBU := Lib.hid hbu
    have HOC := Lib.hid hoc
    have HSH := Lib.hid hsh
    have HIH := Lib.hid (HSZ.out H hok)
    have H1 := Lib.hid h1
    have H2 := Lib.hid h2
    have H3 := Lib.hid h3
    have H4 := Lib.hid h4
    have H5 := Lib.hid h5
    have H6 := Lib.hid h6
    have H7 := Lib.hid h7
    clear hH hHe hok hbu hX hoc hsh h1 h2 h3 h4 h5 h6 h7
    have HCH1 : Hid (Chg (fun k => k = rb) w1 w1) := Lib.hid (Chg.refl _ _)
    have hc1 := brdig_any (fun b => Wz.heap.size ≤ b ∧ b ≠ rb) w1 7 rb l0 true HR1.out (fun x => x.2 rfl)
    rw [H1.out] at hc1
    have HC1 := Lib.hid hc1
    clear hc1
    go_wp2_with fail
    refine HC1.out.mono ?_
    rintro e w2 ⟨rfl, hr2, hch2⟩
    simp only at hr2 ⊢
    have HR2 := Lib.hid hr2
    have HCH2 := Lib.hid (HCH1.out.trans hch2 (fun _ _ x => x))
    clear hr2 hch2 HC1
    have hc2 := brword_any (fun b => Wz.heap.size ≤ b ∧ b ≠ rb) w2 7 rb l1 k1 HR2.out (fun x => x.2 rfl)
    rw [H2.out] at hc2
    have HC2 := Lib.hid hc2
    clear hc2
    go_wp2_with fail
    refine HC2.out.mono ?_
    rintro e w3 ⟨rfl, hr3, hch3⟩
    simp only at hr3 ⊢
    have HR3 := Lib.hid hr3
    have HCH3 := Lib.hid (HCH2.out.trans hch3 (fun _ _ x => x))
    clear hr3 hch3 HC2
    have hc3 := brword_any (fun b => Wz.heap.size ≤ b ∧ b ≠ rb) w3 7 rb l2 k2 HR3.out (fun x => x.2 rfl)
    rw [H3.out] at hc3
    have HC3 := Lib.hid hc3
    clear hc3
    go_wp2_with fail
    refine HC3.out.mono ?_
    rintro e w4 ⟨rfl, hr4, hch4⟩
    simp only at hr4 ⊢
    have HR4 := Lib.hid hr4
    have HCH4 := Lib.hid (HCH3.out.trans hch4 (fun _ _ x => x))
    clear hr4 hch4 HC3
    have hc4 := brword_any (fun b => Wz.heap.size ≤ b ∧ b ≠ rb) w4 7 rb l3 k3 HR4.out (fun x => x.2 rfl)
    rw [H4.out] at hc4
    have HC4 := Lib.hid hc4
    clear hc4
    go_wp2_with fail
    refine HC4.out.mono ?_
    rintro e w5 ⟨rfl, hr5, hch5⟩
    simp only at hr5 ⊢
    have HR5 := Lib.hid hr5
    have HCH5 := Lib.hid (HCH4.out.trans hch5 (fun _ _ x => x))
    clear hr5 hch5 HC4
    have hc5 := brdig_any (fun b => Wz.heap.size ≤ b ∧ b ≠ rb) w5 7 rb l4 k4 HR5.out (fun x => x.2 rfl)
    rw [H5.out] at hc5
    have HC5 := Lib.hid hc5
    clear hc5
    go_wp2_with fail
    refine HC5.out.mono ?_
    rintro e w6 ⟨rfl, hr6, hch6⟩
    simp only at hr6 ⊢
    have HR6 := Lib.hid hr6
    have HCH6 := Lib.hid (HCH5.out.trans hch6 (fun _ _ x => x))
    clear hr6 hch6 HC5
    have hc6 := brdig_any (fun b => Wz.heap.size ≤ b ∧ b ≠ rb) w6 7 rb l5 k5 HR6.out (fun x => x.2 rfl)
    rw [H6.out] at hc6
    have HC6 := Lib.hid hc6
    clear hc6
    go_wp2_with fail
    refine HC6.out.mono ?_
    rintro e w7 ⟨rfl, hr7, hch7⟩
    simp only at hr7 ⊢
    have HR7 := Lib.hid hr7
    have HCH7 := Lib.hid (HCH6.out.trans hch7 (fun _ _ x => x))
    clear hr7 hch7 HC6
    have hc7 := brdig_any (fun b => Wz.heap.size ≤ b ∧ b ≠ rb) w7 7 rb l6 k6 HR7.out (fun x => x.2 rfl)
    rw [H7.out] at hc7
    have HC7 := Lib.hid hc7
    clear hc7
    go_wp2_with fail
    refine HC7.out.mono ?_
    rintro e w8 ⟨rfl, hr8, hch8⟩
    simp only at hr8 ⊢
    have HR8 := Lib.hid hr8
    have HCH8 := Lib.hid (HCH7.out.trans hch8 (fun _ _ x => x))
    clear hr8 hch8 HC7
    obtain ⟨a8, n8, c8, hit8, hk8⟩ := HR8.out
    simp only at hk8
    have hlt1 : w.heap.size < w1.heap.size := (Array.getElem?_eq_some_iff.1 HK1.out).1
    have hrbw : rb < w8.heap.size := (Array.getElem?_eq_some_iff.1 hk8).1
    have hlt8 : w.heap.size < w8.heap.size := Nat.lt_of_lt_of_le hlt1 HCH8.out.size
    have hk80 := (HCH8.out.block _ hlt1 (fun e => by omega)).trans HK1.out
    have hbl8 : Below w.heap.size w w8 := HBL1.out.trans (HCH8.out.toBelowAt (by omega) (fun k hk e => by omega))
    obtain ⟨W9, hW9⟩ : ∃ W : World, W = (w8.alloc (.cells Try.zeroCells47 47)).setRow w8.heap.size (hdrCells H) := ⟨_, rfl⟩
    have hk9 : W9.heap[w8.heap.size]? = some (.cells (hdrCells H) 47 (0, 0)) := by rw [hW9]; exact setRow_heap _ _ _ _ _ _ (heap_alloc_new w8 _)
    have ho9 : ∀ k, k < w8.heap.size → W9.heap[k]? = w8.heap[k]? := fun k hk => by rw [hW9, setRow_other _ _ _ _ (by omega), Below.heap_alloc _ _ _ hk]
    have hrb9 := (ho9 _ hrbw).trans hk8
    have hz9 := (ho9 _ hlt8).trans hk80
    have hbl9 : Below w.heap.size w W9 := by rw [hW9]; exact below_setRow (hbl8.alloc hbl8.size _) (by omega) _
    obtain ⟨q0', q1'⟩ := cells2 hrb9
    have HW9 := Lib.hid hW9
    have HK9 := Lib.hid hk9
    have HZ9 := Lib.hid hz9
    have HB9 := Lib.hid hbl9
    have HA8 := Lib.hid (heap_alloc_new w8 (.cells Try.zeroCells47 47))
    clear hit8 hk8 hk80 hbl8 hW9 hk9 ho9 hrb9 hz9 hbl9 q0 q1
    cases k7 with
    | false =>
      have hXX : X = (hdr0, 190) := by rw [HX.out, if_neg]; intro x; cases x
      have HXX := Lib.hid (HBAD.out W9 HB9.out HZ9.out hXX)
      clear hXX
      go_wp2_with (first
        | (refine wpList_build_to rfl 47 #[(0, .tmp 15), (1, .tmp 17), (2, .tmp 19), (3, .tmp 21), (4, .tmp 23), (5, .tmp 25), (6, .tmp 27)] rfl _ (by kernel_rfl) (hdrCells H) HBU.out ?_)
        | (refine wpList_store_row rfl 47 (.tmp 5) (.tmp 28) rfl w8.heap.size (hdrCells H) rfl rfl 47 _ HA8.out HIH.out HSH.out.symm HOC.out ?_; rw [← HW9.out])
        | (refine wpList_store_row rfl 47 (.tmp 2) (.tmp 34) rfl w.heap.size Try.zeroCells47 rfl rfl 47 ZR HZ9.out HIZ.out (by rw [HZR.out]) HOZ.out ?_))
      refine bodyPost_ret (v := .tuple #[.agg Try.zeroCells47, .int .i64 190]) (results_cell_row_tmp rfl _ _ w.heap.size 47 Try.zeroCells47 (0, 0) (.struct fs) rfl HXX.out.1 HU.out rfl HIZ.out _ rfl) rfl ?_
      exact HXX.out.2
    | true =>
      have HXX : Hid (X = (H, 0)) := Lib.hid (by rw [HX.out, if_pos rfl])
      go_wp2_with (first
        | (refine wpList_build_to rfl 47 #[(0, .tmp 15), (1, .tmp 17), (2, .tmp 19), (3, .tmp 21), (4, .tmp 23), (5, .tmp 25), (6, .tmp 27)] rfl _ (by kernel_rfl) (hdrCells H) HBU.out ?_)
        | (refine wpList_store_row rfl 47 (.tmp 5) (.tmp 28) rfl w8.heap.size (hdrCells H) rfl rfl 47 _ HA8.out HIH.out HSH.out.symm HOC.out ?_; rw [← HW9.out])
        | (refine wpList_load_row rfl 47 (.tmp 5) rfl w8.heap.size rfl 47 (hdrCells H) (0, 0) (.struct fs) HK9.out HU.out rfl HIH.out ?_)
        | (refine wpList_store_row rfl 47 (.tmp 2) (.tmp 35) rfl w.heap.size (hdrCells H) rfl rfl 47 ZR HZ9.out HIH.out (by rw [HZR.out]; exact HSH.out.symm) HOC.out ?_))
      refine bodyPost_ret (v := .tuple #[.agg (hdrCells H), .int .i64 0]) (results_cell_row_tmp rfl _ _ w.heap.size 47 (hdrCells H) (0, 0) (.struct fs) rfl (setRow_heap W9 _ _ _ _ _ HZ9.out) HU.out rfl HIH.out _ rfl) rfl ?_
      rw [HXX.out]
      exact ⟨rfl, below_setRow HB9.out (Nat.le_refl _) _⟩
end Go.Proofs.Ytndkkgkcbbmnpaa
namespace Go.Pg
open Go.RowKit
theorem fit32_len (b : List UInt8) : (fit32 b).length = 32 := by simp [fit32]; omega
theorem fit32_get (b : List UInt8) (k : Nat) (h1 : k < b.length) (h2 : k < 32) : (fit32 b)[k]'(by rw [fit32_len]; exact h2) = b[k] := by
  unfold fit32
  rw [List.getElem_append_left (by rw [List.length_take]; omega), List.getElem_take]
theorem filling_fit32 (b : List UInt8) (k : Nat) (h : k = b.length ∧ k ≤ 32 ∨ k = 32) : filling (fit32 b) k = fit32 b := by
  rcases h with ⟨rfl, h⟩ | rfl
  · have e : fit32 b = b ++ List.replicate (32 - b.length) 0 := by unfold fit32; rw [List.take_of_length_le h]
    unfold filling
    rw [fit32_len, e, List.take_left]
  · have := filling_all (fit32 b)
    rwa [fit32_len] at this
end Go.Pg
namespace Go.Proofs.Ytndkkgkcbbmnpaa
open Go.RowKit Go.Pg

theorem rnumber_any (F : Nat → Prop) (w : World) (a : Option Addr) (n c : Nat) (bs : List UInt8) (h : BytesAt F w (.slice a n c) bs) :
    Calls Try.prog 60 #[.slice a n c] w fun e w' => e = .returned (.int .u64 ((readWord bs).1 : Int)) ∧ Below w.heap.size w w' := by
  have hcall := rread_any F w a n c bs h
  obtain ⟨N, hN⟩ : ∃ N, N = readWord bs := ⟨_, rfl⟩
  rw [← hN] at hcall ⊢
  obtain ⟨m, q⟩ := N
  have HC := Lib.hid hcall
  clear hcall hN h
  go_enter Try.func60, Try.ntmps60
  go_wp2_with fail
  refine HC.out.mono ?_
  rintro e w1 ⟨rfl, hb⟩
  have HB := Lib.hid hb
  clear hb
  go_wp2
  go_ret
  exact ⟨rfl, HB.out⟩

set_option maxRecDepth 100000 in
set_option maxHeartbeats 2000000 in
theorem rdig19_any (F : Nat → Prop) (w : World) (a : Option Addr) (n c : Nat) (bs : List UInt8) (h : BytesAt F w (.slice a n c) bs) :
    Calls Try.prog 59 #[.slice a n c] w (DigD w (fit32 bs)) := by
  have hnl := (BytesAt.n h).1
  obtain ⟨R, hR⟩ : ∃ R, R = fit32 bs := ⟨_, rfl⟩
  have hRl : R.length = 32 := by rw [hR]; exact fit32_len bs
  have hRg : ∀ k (h1 : k < bs.length) (h2 : k < R.length), R[k] = bs[k] := by subst hR; intro k h1 h2; exact fit32_get bs k h1 (by rw [fit32_len] at h2; exact h2)
  have hRf : ∀ k, (k = bs.length ∧ k ≤ 32 ∨ k = 32) → filling R k = R := by rw [hR]; exact filling_fit32 bs
  rw [← hR]
  obtain ⟨Wz, hWz⟩ : ∃ W : World, W = (w.alloc (.cells #[.int .u8 0, .int .u8 0, .int .u8 0, .int .u8 0, .int .u8 0, .int .u8 0, .int .u8 0, .int .u8 0, .int .u8 0, .int .u8 0, .int .u8 0, .int .u8 0, .int .u8 0, .int .u8 0, .int .u8 0, .int .u8 0, .int .u8 0, .int .u8 0, .int .u8 0, .int .u8 0, .int .u8 0, .int .u8 0, .int .u8 0, .int .u8 0, .int .u8 0, .int .u8 0, .int .u8 0, .int .u8 0, .int .u8 0, .int .u8 0, .int .u8 0, .int .u8 0] 37)).alloc (.cells #[.int .u8 0, .int .u8 0, .int .u8 0, .int .u8 0, .int .u8 0, .int .u8 0, .int .u8 0, .int .u8 0, .int .u8 0, .int .u8 0, .int .u8 0, .int .u8 0, .int .u8 0, .int .u8 0, .int .u8 0, .int .u8 0, .int .u8 0, .int .u8 0, .int .u8 0, .int .u8 0, .int .u8 0, .int .u8 0, .int .u8 0, .int .u8 0, .int .u8 0, .int .u8 0, .int .u8 0, .int .u8 0, .int .u8 0, .int .u8 0, .int .u8 0, .int .u8 0] 37) := ⟨_, rfl⟩
  have hbz : Below w.heap.size w Wz := by rw [hWz]; exact Bel.alloc (Bel.alloc (Bel.refl w) _) _
  have hr0 : Wz.heap[w.heap.size]? = some (.cells (cellsOf (List.replicate 32 0)) 37 (0, 0)) := by rw [hWz, Below.heap_alloc _ _ _ (by simp)]; exact heap_alloc_new w _
  have hr1 : Wz.heap[w.heap.size + 1]? = some (.cells (cellsOf (filling R 0)) 37 (0, 0)) := by
    rw [filling_zero, hRl, hWz]; have := heap_alloc_new (w.alloc (.cells #[.int .u8 0, .int .u8 0, .int .u8 0, .int .u8 0, .int .u8 0, .int .u8 0, .int .u8 0, .int .u8 0, .int .u8 0, .int .u8 0, .int .u8 0, .int .u8 0, .int .u8 0, .int .u8 0, .int .u8 0, .int .u8 0, .int .u8 0, .int .u8 0, .int .u8 0, .int .u8 0, .int .u8 0, .int .u8 0, .int .u8 0, .int .u8 0, .int .u8 0, .int .u8 0, .int .u8 0, .int .u8 0, .int .u8 0, .int .u8 0, .int .u8 0, .int .u8 0] 37)) (.cells #[.int .u8 0, .int .u8 0, .int .u8 0, .int .u8 0, .int .u8 0, .int .u8 0, .int .u8 0, .int .u8 0, .int .u8 0, .int .u8 0, .int .u8 0, .int .u8 0, .int .u8 0, .int .u8 0, .int .u8 0, .int .u8 0, .int .u8 0, .int .u8 0, .int .u8 0, .int .u8 0, .int .u8 0, .int .u8 0, .int .u8 0, .int .u8 0, .int .u8 0, .int .u8 0, .int .u8 0, .int .u8 0, .int .u8 0, .int .u8 0, .int .u8 0, .int .u8 0] 37); rw [World.size_alloc] at this; exact this
  have HW := Lib.hid hWz
  have HST := Lib.hid (And.intro hbz (And.intro hr0 hr1))
  have HNL := Lib.hid hnl
  have HB := Lib.hid h
  have HRL := Lib.hid hRl
  have HRG := Lib.hid hRg
  have HRF := Lib.hid hRf
  have HRS := Lib.hid (show (cellsOf R).size = 32 by rw [cellsOf_size, hRl])
  clear hWz hbz hr0 hr1 hnl h hR hRl hRg hRf
  go_enter Try.func59, Try.ntmps59
  go_wp2
  rw [← HW.out]
  go_loopw [4] (fun i wr => ∃ k : Nat, i = .int .i64 (k : Int) ∧ k ≤ n ∧ k ≤ 32 ∧ Hid (Below w.heap.size w wr ∧ wr.heap[w.heap.size]? = some (.cells (cellsOf (List.replicate 32 0)) 37 (0, 0)) ∧ wr.heap[w.heap.size + 1]? = some (.cells (cellsOf (filling R k)) 37 (0, 0)))) (fun i _ => 32 - (intOf i).toNat)
  case atStart => exact ⟨0, rfl, Nat.zero_le _, by omega, HST.out⟩
  case round =>
    obtain ⟨k, rfl, hkn, hk32, H⟩ := hrel
    have hN := HNL.out
    have hex : (k = n ∧ k ≤ 32 ∨ k = 32) → ((wr.setRow w.heap.size (cellsOf R)).heap[w.heap.size]? = some (.cells (cellsOf R) 37 (0, 0)) ∧ wr.heap[w.heap.size + 1]? = some (.cells (cellsOf R) 37 (0, 0)) ∧ DigD w R (.returned (.agg (cellsOf R))) (wr.setRow w.heap.size (cellsOf R))) := by
      intro hk
      have hf := HRF.out k (by omega)
      obtain ⟨h1, h2, h3⟩ := H.out
      rw [hf] at h3
      exact ⟨setRow_heap wr _ _ _ _ _ h2, h3, rfl, below_setRow h1 (Nat.le_refl _) _⟩
    by_cases hgo : k < n ∧ k < 32
    · obtain ⟨g1, g2⟩ := hgo
      have hb := BytesAt.below HB.out H.out.1
      rcases SliceAt.split hb with ⟨-, h0⟩ | ⟨b, o, rfl, -, -, -⟩
      · omega
      have q0 := BytesAt.cell hb k (by omega)
      obtain ⟨x, hx⟩ : ∃ x, x = bs[k]'(by omega) := ⟨_, rfl⟩
      rw [← hx] at q0
      have hkR : k < (filling R k).length := by rw [filling_length, HRL.out]; exact g2
      have q1 : wr.cell? ⟨w.heap.size + 1, k, none⟩ = some (.int .u8 (((filling R k)[k]'hkR).toNat : Int)) := (cell_of_row _ _ _ _ _ _ H.out.2.2).trans (cellsOf_get _ _ hkR)
      obtain ⟨y, hy⟩ : ∃ y, y = (filling R k)[k]'hkR := ⟨_, rfl⟩
      rw [← hy] at q1
      have f1 := frozen_of_row wr (w.heap.size + 1) k _ _ H.out.2.2
      have hnext : Hid (Below w.heap.size w (wr.setCell ⟨w.heap.size + 1, k, none⟩ (.int .u8 (x.toNat : Int))) ∧ (wr.setCell ⟨w.heap.size + 1, k, none⟩ (.int .u8 (x.toNat : Int))).heap[w.heap.size]? = some (.cells (cellsOf (List.replicate 32 0)) 37 (0, 0)) ∧ (wr.setCell ⟨w.heap.size + 1, k, none⟩ (.int .u8 (x.toNat : Int))).heap[w.heap.size + 1]? = some (.cells (cellsOf (filling R (k + 1))) 37 (0, 0))) := by
        obtain ⟨h1, h2, h3⟩ := H.out
        refine Lib.hid ⟨⟨h1.os, h1.tape, h1.output, by rw [World.size_setCell]; exact h1.size, fun i hi => (Below.heap_setCell _ _ _ _ (by simp; omega)).trans (h1.block i hi)⟩, (Below.heap_setCell _ _ _ _ (by simp)).trans h2, ?_⟩
        have := blk_set (i := k) (v := .int .u8 (x.toNat : Int)) h3
        rw [cellsOf_set, hx, ← HRG.out k (by omega) (by rw [HRL.out]; exact g2), filling_step R k (by rw [HRL.out]; exact g2)] at this
        rw [hx, ← HRG.out k (by omega) (by rw [HRL.out]; exact g2)]
        exact this
      have hk1 : (k : Int) < 32 := by omega
      have hkn1 : (k : Int) < (n : Int) := by omega
      have hx2 : w.heap.size + 1 < wr.heap.size := (Array.getElem?_eq_some_iff.1 H.out.2.2).1
      clear hb hx hy hex hN
      go_wp2
      go_roundw
      case rel => exact ⟨k + 1, num_eq (by omega), by omega, by omega, hnext⟩
      case measure => simp [intOf]; omega
    · have HEX := Lib.hid (hex (by omega))
      clear hex hN
      have hcase : ¬ (k : Int) < (n : Int) ∨ ((k : Int) < (n : Int) ∧ ¬ (k : Int) < 32) := by omega
      rcases hcase with h1 | ⟨h1, h2⟩
      all_goals
        go_wp2_with (first
          | (refine wpList_load_row rfl 37 (.tmp 3) rfl (w.heap.size + 1) rfl 37 (cellsOf R) (0, 0) (.array 32 5) HEX.out.2.1 underlyingDig rfl (by rw [HRS.out]; exact infoDig) ?_)
          | (refine wpList_store_row rfl 37 (.tmp 2) (.tmp 21) rfl w.heap.size (cellsOf R) rfl rfl 37 (cellsOf (List.replicate 32 0)) H.out.2.1 (by rw [HRS.out]; exact infoDig) (by rw [HRS.out]; rfl) (cellsOf_one R) ?_))
        refine bodyPost_ret (v := .agg (cellsOf R)) (results_cell_row rfl _ _ w.heap.size 37 (cellsOf R) (0, 0) (.array 32 5) rfl HEX.out.1 underlyingDig rfl (by rw [HRS.out]; exact infoDig)) rfl ?_
        exact HEX.out.2.2
end Go.Proofs.Ytndkkgkcbbmnpaa
