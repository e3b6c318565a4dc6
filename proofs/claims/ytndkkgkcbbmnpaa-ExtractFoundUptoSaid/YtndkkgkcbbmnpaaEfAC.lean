/-
  Two unlike texts of one digest: what is sought, in plain words; a map of digests, as the walk holds it; bytes.Equal.
  Contract of pergolaref01.Put.
  Contract of extract.Told.
-/
import Derived.Test.YtndkkgkcbbmnpaaEfAB
import Derived.Maps.OwnSet
import Derived.Maps.OwnOps
import Derived.DeepKeys4
namespace Go.Pg
open Go.RowKit
/-- the place of the first text of a digest -/
def firstOf (l : List (List UInt8)) (d : List UInt8) : Option Nat := l.findIdx? fun x => decide (digestOf x = d)
/-- pre: the texts that have been met; the first one of the rest that is unlike the first one of its digest, and that one -/
def clashFrom : List (List UInt8) → List (List UInt8) → Option (List UInt8 × List UInt8)
  | _, [] => none
  | pre, x :: r =>
    match firstOf pre (digestOf x) with
    | none => clashFrom (pre ++ [x]) r
    | some j => if pre.getD j [] = x then clashFrom (pre ++ [x]) r else some (pre.getD j [], x)
def clash (l : List (List UInt8)) : Option (List UInt8 × List UInt8) := clashFrom [] l
theorem firstOf_snoc (l : List (List UInt8)) (x d : List UInt8) : firstOf (l ++ [x]) d = (firstOf l d).or (if digestOf x = d then some l.length else none) := by
  unfold firstOf
  rw [List.findIdx?_append]
  simp only [List.findIdx?_cons, List.findIdx?_nil]
  by_cases h : digestOf x = d <;> simp [h]
theorem firstOf_some (l : List (List UInt8)) (d : List UInt8) (j : Nat) (h : firstOf l d = some j) : ∃ hj : j < l.length, digestOf l[j] = d ∧ ∀ k, (hk : k < j) → digestOf (l[k]'(by omega)) ≠ d := by
  unfold firstOf at h
  rw [List.findIdx?_eq_some_iff_getElem] at h
  obtain ⟨h1, h2, h3⟩ := h
  exact ⟨h1, by simpa using h2, fun k hk => by simpa using h3 k hk⟩
theorem firstOf_none (l : List (List UInt8)) (d : List UInt8) : firstOf l d = none ↔ ∀ x ∈ l, digestOf x ≠ d := by
  unfold firstOf
  rw [List.findIdx?_eq_none_iff]
  simp
theorem clashFrom_next (l : List (List UInt8)) (k : Nat) (h : k < l.length) : clashFrom (l.take k) (l.drop k) =
    match firstOf (l.take k) (digestOf l[k]) with
    | none => clashFrom (l.take (k + 1)) (l.drop (k + 1))
    | some j => if l.getD j [] = l[k] then clashFrom (l.take (k + 1)) (l.drop (k + 1)) else some (l.getD j [], l[k]) := by
  rw [List.drop_eq_getElem_cons h, List.take_succ_eq_append_getElem h]
  simp only [clashFrom]
  cases hf : firstOf (l.take k) (digestOf l[k]) with
  | none => rfl
  | some j =>
    obtain ⟨hj, -⟩ := firstOf_some _ _ _ hf
    rw [List.length_take] at hj
    have : (l.take k).getD j [] = l.getD j [] := by
      rw [List.getD_eq_getElem?_getD, List.getD_eq_getElem?_getD, List.getElem?_take, if_pos (by omega)]
    simp only [this]
theorem clashFrom_end (l : List (List UInt8)) : clashFrom (l.take l.length) (l.drop l.length) = none := by
  rw [List.drop_length]; rfl

/-! ## Values themselves as what a map's elements read as -/
def heldR (v : Value) : Option (DataW Value × List MemPlace) := some (.held v, [])
end Go.Pg
namespace Go.Proofs.Ytndkkgkcbbmnpaa
open Go.RowKit Go.Pg
open Go.Maps (Keyed)

theorem laidOutX : laidOutB Try.prog = true := by kernel_rfl
theorem digKeyed : Keyed Try.prog 37 := Keyed.of_law (deep_law_laid laidOutX (m := 2) (by omega) (k := 37) (of_decide_eq_true (by kernel_rfl)) (by kernel_rfl) (by kernel_rfl))
theorem digKey (d : List UInt8) (hd : d.length = 32) : ∃ kl, keyOf Try.prog 37 (.agg (cellsOf d)) = some kl := by
  obtain ⟨m, hm⟩ : ∃ m, Try.prog.types.size + 1 = m + 2 := ⟨Try.prog.types.size - 1, by have : 1 ≤ Try.prog.types.size := of_decide_eq_true (by kernel_rfl); omega⟩
  have hu := underlyingDig
  have c32 : Try.prog.cellsOf 37 = 32 := by kernel_rfl
  have c1 : Try.prog.cellsOf 5 = 1 := by kernel_rfl
  have hk : Try.prog.keyType 37 = true := by kernel_rfl
  have hl : (cellsOf d).toList.length = 32 := by simp [cellsOf, hd]
  have hf : (Value.agg (cellsOf d)).formed Try.prog 37 = true := by simp [Value.formed, hu, c32, cellsOf_size, hd]
  have hone : ∀ i, i < 32 → ∃ x, Try.prog.keyLits (m + 1) 5 (((cellsOf d).toList.drop i).take 1) = some x := fun i hi => by
    obtain ⟨b, hb⟩ : ∃ b : UInt8, ((cellsOf d).toList.drop i).take 1 = [.int .u8 (b.toNat : Int)] := by
      refine ⟨d[i]'(by omega), ?_⟩
      have e : (cellsOf d).toList = d.map fun x => Value.int .u8 (x.toNat : Int) := by simp [cellsOf]
      rw [e, List.drop_eq_getElem_cons (by simp; omega)]
      simp
    rw [hb]
    refine ⟨[.int .u8 (b.toNat : Int)], ?_⟩
    have hw : (Lit.int .u8 (b.toNat : Int)).wf = true := by
      have := b.toNat_lt
      simp [Lit.wf, IntKind.min, IntKind.max, IntKind.signed, IntKind.bits]; omega
    simp [Program.keyLits, Try.underlying5, hw]
  have hmap : ∃ xs, (List.range 32).mapM (fun i => Try.prog.keyLits (m + 1) 5 (((cellsOf d).toList.drop (i * 1)).take 1)) = some xs := by
    have : ∀ l : List Nat, (∀ i ∈ l, i < 32) → ∃ xs, l.mapM (fun i => Try.prog.keyLits (m + 1) 5 (((cellsOf d).toList.drop (i * 1)).take 1)) = some xs := by
      intro l
      induction l with
      | nil => intro _; exact ⟨[], rfl⟩
      | cons i r ih =>
        intro h
        obtain ⟨x, hx⟩ := hone i (h i (List.mem_cons_self ..))
        obtain ⟨xs, hxs⟩ := ih fun j hj => h j (List.mem_cons_of_mem _ hj)
        refine ⟨x :: xs, ?_⟩
        rw [List.mapM_cons, Nat.mul_one, hx, hxs]
        rfl
    exact this _ fun i hi => List.mem_range.1 hi
  obtain ⟨xs, hxs⟩ := hmap
  refine ⟨.string (keyBytes xs.flatten), ?_⟩
  unfold keyOf
  rw [hu]
  simp only [hk, hf, Bool.and_self, if_true]
  rw [hm]
  have hkl : Try.prog.keyLits (m + 2) 37 (Value.agg (cellsOf d)).cells.toList = some xs.flatten := by
    show Try.prog.keyLits (m + 2) 37 (cellsOf d).toList = some xs.flatten
    unfold Program.keyLits
    rw [hu]
    simp only [c1, c32, hl, if_true, hxs, Option.map_some]
  rw [hkl]
  rfl
theorem digKey_ne {d d' : List UInt8} {k k' : Lit} (h : keyOf Try.prog 37 (.agg (cellsOf d)) = some k) (h' : keyOf Try.prog 37 (.agg (cellsOf d')) = some k') (hne : d' ≠ d) : k' ≠ k := by
  rintro rfl
  have := digKeyed.inj h h'
  simp only [Value.agg.injEq] at this
  refine hne ?_
  have h2 : ∀ a b : List UInt8, cellsOf a = cellsOf b → a = b := fun a b hab => by
    have h3 : a.map (fun x : UInt8 => Value.int .u8 (x.toNat : Int)) = b.map fun x : UInt8 => Value.int .u8 (x.toNat : Int) := by simpa [cellsOf] using hab
    refine (List.map_inj_right (fun x y e => ?_)).1 h3
    simp only [Value.int.injEq, true_and, Int.ofNat_inj] at e
    exact UInt8.toNat_inj.1 e
  exact (h2 _ _ this).symm

/-- block b is a map of digests that tells f -/
def Known (w : World) (b n : Nat) (f : List UInt8 → Option Value) : Prop :=
  ∃ D : DataW Value, w.ownsMap Try.prog 37 heldR b n D ∧ ∀ d kl, keyOf Try.prog 37 (.agg (cellsOf d)) = some kl → Maps.has D kl = (f d).isSome ∧ ∀ v z, f d = some v → D.atKey kl z = .held v
theorem Known.made (w : World) : Known (w.alloc (.map #[] 0)) w.heap.size 0 fun _ => none :=
  ⟨.map [], World.ownsMap_made _ _ _ _, fun d kl _ => ⟨rfl, fun v z h => by cases h⟩⟩
theorem Known.kept {w w' : World} {b n : Nat} {f : List UInt8 → Option Value} {row : Option Nat} (h : Known w b n f) (hg : w.grownBy w' row) (hne : some b ≠ row) : Known w' b n f :=
  let ⟨D, h1, h2⟩ := h; ⟨D, h1.kept hg hne, h2⟩
theorem Known.below {w w' : World} {b n : Nat} {f : List UInt8 → Option Value} (h : Known w b n f) (hb : Below w.heap.size w w') : Known w' b n f :=
  h.kept (row := none) ⟨hb.os, hb.tape, hb.output, hb.size, fun k hk _ => hb.block k hk⟩ (by simp)
theorem Known.ext {w : World} {b n : Nat} {f g : List UInt8 → Option Value} (h : Known w b n f) (he : ∀ d, d.length = 32 → f d = g d) : Known w b n g := by
  obtain ⟨D, h1, h2⟩ := h
  refine ⟨D, h1, fun d kl hk => ?_⟩
  have hd : d.length = 32 := by
    unfold keyOf at hk
    rw [underlyingDig] at hk
    simp only at hk
    split at hk
    · rename_i hc
      simp only [Bool.and_eq_true] at hc
      have h3 := hc.2
      have c32 : Try.prog.cellsOf 37 = 32 := by kernel_rfl
      simpa [Value.formed, underlyingDig, c32, cellsOf_size] using h3
    · cases hk
  rw [← he d hd]
  exact h2 d kl hk
section
variable {ops : Array Oper} {rest : List Oper} {o : Oper} {a : Act} {Q : Exit → Act → World → Prop} {w : World}
theorem wpL_lookup_known (m x : Operand) (b n : Nat) (f : List UInt8 → Option Value) (d : List UInt8)
    (hc : o.guard = none ∧ o.op = Op.lookup 83 m x true ∧ a.eval m = .map (some b) ∧ a.eval x = .agg (cellsOf d)) (h : Known w b n f ∧ d.length = 32)
    (hK : wpList Try.prog ops Q rest (a.put o.dst (.tuple #[(f d).getD (.slice none 0 0), .bool (f d).isSome])) w) : wpList Try.prog ops Q (o :: rest) a w := by
  obtain ⟨kl, hkl⟩ := digKey d h.2
  obtain ⟨D, h1, h2⟩ := h.1
  obtain ⟨g1, g2⟩ := h2 d kl hkl
  refine wpList_lookup_own_ok w hc.1 m x 83 hc.2.1 37 25 digKeyed Try.underlying83 heldR (z := .slice none 0 0) (by kernel_rfl) (.held (.slice none 0 0)) [] rfl b n D hc.2.2.1 h1 _ kl hc.2.2.2 hkl fun v ps hv => ?_
  rw [g1]
  cases hf : f d with
  | none =>
    rw [hf] at g1
    rw [Maps.atKey_of_not_has g1] at hv
    simp only [heldR, Option.some.injEq, Prod.mk.injEq, DataW.held.injEq] at hv
    rw [hv.1]
    rw [hf] at hK; exact hK
  | some u =>
    rw [g2 u _ hf] at hv
    simp only [heldR, Option.some.injEq, Prod.mk.injEq, DataW.held.injEq] at hv
    rw [hv.1]
    rw [hf] at hK; exact hK
theorem wpL_update_known (m x v : Operand) (b n : Nat) (f : List UInt8 → Option Value) (d : List UInt8) (val : Value)
    (hc : o.guard = none ∧ o.op = Op.mapUpdate 83 m x v ∧ a.eval m = .map (some b) ∧ a.eval x = .agg (cellsOf d) ∧ a.eval v = val) (h : Known w b n f ∧ d.length = 32 ∧ n < maxLen)
    (hK : ∀ w', Known w' b (n + 1) (fun y => if y = d then some val else f y) → w.grownBy w' (some b) → wpList Try.prog ops Q rest (a.put o.dst undef) w') : wpList Try.prog ops Q (o :: rest) a w := by
  obtain ⟨kl, hkl⟩ := digKey d h.2.1
  obtain ⟨D, h1, h2⟩ := h.1
  have hm := h1.isMap
  have hkk := digKeyed.key hkl
  refine wpList_mapUpdate_own w hc.1 m x v 83 hc.2.1 37 25 digKeyed Try.underlying83 heldR b n D hc.2.2.1 h1 h.2.2 _ val kl hc.2.2.2.1 hc.2.2.2.2 hkl (.held val) [] rfl fun w' g1 g2 => hK w' ⟨_, g1, fun y ky hy => ?_⟩ g2
  dsimp only
  by_cases he : y = d
  · subst he
    rw [hkl] at hy
    cases hy
    rw [if_pos rfl]
    exact ⟨by rw [Maps.has_put_same hm hkk]; rfl, fun v z hv => by cases hv; exact Maps.atKey_put_same hm hkk _ _⟩
  · have hne := digKey_ne hkl hy he
    rw [if_neg he]
    obtain ⟨g3, g4⟩ := h2 y ky hy
    exact ⟨by rw [Maps.has_put_other hne]; exact g3, fun v z hv => by rw [Maps.atKey_put_other hne]; exact g4 v z hv⟩
end

set_option maxRecDepth 100000 in
theorem bEqual_any (F G : Nat → Prop) (w : World) (u v : Value) (x y : List UInt8) (h : BytesAt F w u x) (k : BytesAt G w v y) :
    Calls Try.prog 62 #[u, v] w fun e w' => e = .returned (.bool (x == y)) ∧ w = w' := by
  obtain ⟨a, c, rfl, -, -, -⟩ := SliceAt.len h
  obtain ⟨a', c', rfl, -, -, -⟩ := SliceAt.len k
  have s1 := run_string_at (P := Try.prog) h 25 5 9 Try.underlying25 Try.underlying5 Try.underlying9
  have s2 := run_string_at (P := Try.prog) k 25 5 9 Try.underlying25 Try.underlying5 Try.underlying9
  obtain ⟨n, hn⟩ : ∃ n, n = x.length := ⟨_, rfl⟩
  obtain ⟨n', hn'⟩ : ∃ n, n = y.length := ⟨_, rfl⟩
  rw [← hn] at s1 ⊢
  rw [← hn'] at s2 ⊢
  by_cases hxy : x = y
  · subst hxy
    rw [beq_self_eq_true]
    clear hn hn' h k
    go_enter Try.func62, Try.ntmps62
    go_wp2
    go_ret
    exact ⟨rfl, rfl⟩
  · have hb1 : (x == y) = false := by simp [hxy]
    rw [hb1]
    clear hn hn' h k hxy
    go_enter Try.func62, Try.ntmps62
    go_wp2
    go_ret
    exact ⟨rfl, rfl⟩
end Go.Proofs.Ytndkkgkcbbmnpaa
namespace Go.Pg
open Go.RowKit
/-- a text laid into rising ones -/
def put : List (List UInt8) → List UInt8 → List (List UInt8)
  | [], b => [b]
  | x :: r, b => if Lib.compareBytes x b < 0 then x :: put r b else if x = b then x :: r else b :: x :: r
theorem put_at : ∀ (l : List (List UInt8)) (b : List UInt8) (k : Nat) (_ : ∀ j, j < k → ∀ hj : j < l.length, Lib.compareBytes l[j] b < 0) (_ : k ≤ l.length) (_ : k = l.length ∨ ∃ h : k < l.length, ¬ Lib.compareBytes l[k] b < 0),
    put l b = if h : ∃ h : k < l.length, l[k] = b then l else l.take k ++ [b] ++ l.drop k
  | [], b, k, h1, h2, h3 => by
    obtain rfl : k = 0 := by simpa using h2
    rw [dif_neg (fun e => by obtain ⟨h, -⟩ := e; simp at h)]
    rfl
  | x :: r, b, 0, h1, h2, h3 => by
    have hx : ¬ Lib.compareBytes x b < 0 := by
      rcases h3 with h3 | ⟨g, h3⟩
      · simp at h3
      · simpa using h3
    simp only [put]
    rw [if_neg hx]
    by_cases he : x = b
    · rw [if_pos he, dif_pos ⟨by simp, by simpa using he⟩]
    · rw [if_neg he, dif_neg (fun e => he (by obtain ⟨g, e⟩ := e; simpa using e))]
      simp
  | x :: r, b, k + 1, h1, h2, h3 => by
    have hx : Lib.compareBytes x b < 0 := h1 0 (by omega) (by simp)
    have ih := put_at r b k (fun j hj hl => by have := h1 (j + 1) (by omega) (by simp; omega); simpa using this) (by simpa using h2) (by
      rcases h3 with h3 | ⟨g, h3⟩
      · exact .inl (by simpa using h3)
      · exact .inr ⟨by simpa using g, by simpa using h3⟩)
    simp only [put]
    rw [if_pos hx, ih]
    by_cases he : ∃ h : k < r.length, r[k] = b
    · rw [dif_pos he, dif_pos (by obtain ⟨g, e⟩ := he; exact ⟨by simp; omega, by simpa using e⟩)]
    · rw [dif_neg he, dif_neg (fun e => he (by obtain ⟨g, e⟩ := e; exact ⟨by simpa using g, by simpa using e⟩))]
      simp
section
variable {α : Type} {A : (Nat → Prop) → World → List Value → α → Prop} {G : Nat → Prop} {n : Nat} {W : World} {e : TypeId} {sz : Nat} {v : Value} {l : List α}
/-- more, out of another slice -/
theorem OwnList.join (hA : Carried A) (h : OwnList A G n W e sz v l) {H : Nat → Prop} {u : Value} {m : List α} (hs : SliceAt H W sz (A H W) u m) (hH : ∀ b, b < W.heap.size → H b → G b ∧ v.ownBlock ≠ some b) (hsz : 0 < sz := by decide) :
    ∃ R : List Value → α → Prop, (∀ cs x, R cs x → ∀ u ∈ cs, u.oneCell' = true) ∧ OwnAt W n e sz R v l ∧ SliceAt H W sz R u m ∧
      ∀ v' W2, OwnAt W2 n e sz R v' (l ++ m) → W.grownBy W2 v.ownBlock → Moved W v v' → OwnList A G n W2 e sz v' (l ++ m) := by
  obtain ⟨F, h1, h2, h3⟩ := h
  refine ⟨A (fun b => F b ∨ (H b ∧ b < W.heap.size)) W, hA.one, h3.mono fun cs x _ hx => hA.carry hx (fun b _ hb => .inl hb) (fun _ _ _ => rfl), SliceAt.carry hs hsz (fun _ _ x => x) (fun _ _ _ => rfl) (fun cs x _ hx => hA.carry hx (fun b hlt hb => .inr ⟨hb, hlt⟩) (fun _ _ _ => rfl)), fun v' W2 ho hg hm => ?_⟩
  have hs := hg.size
  refine ⟨fun b => F b ∨ (H b ∧ b < W.heap.size), ?_, ?_, ?_⟩
  · rintro b (hb | hb)
    · exact ⟨(h1 b hb).1, by have := (h1 b hb).2; omega⟩
    · exact ⟨(hH b hb.2 hb.1).1, by omega⟩
  · intro g hg' hb
    rcases hm g hg' with hv | hv
    · rcases hb with hb | hb
      · exact h2 g hv hb
      · exact (hH g hb.2 hb.1).2 hv
    · rcases hb with hb | hb
      · have := (h1 g hb).2; omega
      · omega
  · refine ho.mono fun cs y _ hy => hA.carry hy (fun _ _ x => x) fun b hb hlt => ?_
    rw [hg.block b hlt (fun e => ?_)]
    rcases hb with hb | hb
    · exact h2 b e.symm hb
    · exact (hH b hb.2 hb.1).2 e.symm
end
/-- l[:k] of rows -/
theorem RowsAt.upto {F : Nat → Prop} {w : World} {a : Option Addr} {n c : Nat} {l : List (List UInt8)} (h : RowsAt F w (.slice a n c) l) (k : Nat) (hk : k ≤ n) : RowsAt F w (.slice a k c) (l.take k) := by
  obtain ⟨a', c', hv, h1, h2, h3, h4, h5⟩ := h
  simp only [Value.slice.injEq] at hv
  obtain ⟨rfl, rfl, rfl⟩ := hv
  have hl : (l.take k).length = k := by simp; omega
  refine ⟨a, c, by rw [hl], by omega, h2, h3, fun hp => ?_, fun b o j ha hj => h5 b o j ha (by rw [hl] at hj; omega)⟩
  obtain ⟨b, o, ha, hF, hc⟩ := h4 (by omega)
  refine ⟨b, o, ha, hF, fun i x hx => hc i x ?_⟩
  rw [List.getElem?_take] at hx
  split at hx
  · exact hx
  · cases hx
/-- l[k:] of rows -/
theorem RowsAt.since {F : Nat → Prop} {w : World} {a a2 : Option Addr} {n c : Nat} {l : List (List UInt8)} (h : RowsAt F w (.slice a n c) l) (k : Nat) (hk : k ≤ n) (ha2 : (if c = k then a else a.map (·.add k)) = a2) :
    RowsAt F w (.slice a2 (n - k) (c - k)) (l.drop k) := by
  obtain ⟨a', c', hv, h1, h2, h3, h4, h5⟩ := h
  simp only [Value.slice.injEq] at hv
  obtain ⟨rfl, rfl, rfl⟩ := hv
  have hl : (l.drop k).length = l.length - k := by simp
  refine ⟨a2, c - k, by rw [hl], by omega, by omega, fun hn => ?_, fun hp => ?_, fun b o j ha hj => ?_⟩
  · subst hn
    split at ha2
    · omega
    · simp at ha2; have := h3 ha2; omega
  · rw [hl] at hp
    obtain ⟨b, o, rfl, hF, hc⟩ := h4 (by omega)
    have hck : ¬ c = k := by omega
    rw [if_neg hck] at ha2
    have e : (⟨b, o, none⟩ : Addr).add k = ⟨b, o + k, none⟩ := by unfold Addr.add; split <;> simp_all
    simp only [Option.map_some, e] at ha2
    subst ha2
    refine ⟨b, o + k, rfl, hF, fun i x hx => ?_⟩
    obtain ⟨cs, g1, g2, g3⟩ := hc (k + i) x (by rw [List.getElem?_drop] at hx; exact hx)
    exact ⟨cs, g1, g2, fun j u hu => by have := g3 j u hu; rwa [show o + k + i * 1 + j = o + (k + i) * 1 + j by omega]⟩
  · rw [hl] at hj
    obtain ⟨b', o', rfl, -, -⟩ := h4 (by omega)
    have hck : ¬ c = k := by omega
    have e : (⟨b', o', none⟩ : Addr).add k = ⟨b', o' + k, none⟩ := by unfold Addr.add; split <;> simp_all
    rw [if_neg hck, Option.map_some, e, ha] at ha2
    simp only [Option.some.injEq, Addr.mk.injEq, and_true] at ha2
    obtain ⟨rfl, rfl⟩ := ha2
    have := h5 b' o' (k + j) rfl (by omega)
    rwa [show o' + k + j = o' + (k + j) by omega]
end Go.Pg
namespace Go.Proofs.Ytndkkgkcbbmnpaa
open Go.RowKit Go.Pg

/-- rows are told, of old memory and new -/
def PutD (F : Nat → Prop) (w : World) (l : List (List UInt8)) (e : Ending) (w' : World) : Prop :=
  ∃ a n c, e = .returned (.slice a n c) ∧ RowsAt (fun b => F b ∨ w.heap.size ≤ b) w' (.slice a n c) l ∧ Below w.heap.size w w'

set_option maxRecDepth 100000 in
set_option maxHeartbeats 8000000 in
theorem put_any (F G : Nat → Prop) (w : World) (a : Option Addr) (n c : Nat) (l : List (List UInt8)) (ab : Option Addr) (nb cb : Nat) (b : List UInt8) (h0 : RowsAt F w (.slice a n c) l) (hb : BytesAt G w (.slice ab nb cb) b) (hlen : n ≤ 1099511627776) (hbl : b.length ≤ 70368744177664)
    (hx : ∀ x ∈ l, x.length ≤ 70368744177664) : Calls Try.prog 67 #[.slice a n c, .slice ab nb cb] w (PutD F w (put l b)) := by
  have h : RowsAt (fun x => F x ∧ x < w.heap.size) w (.slice a n c) l := RowsAt.carry h0 (fun x hlt hx => ⟨hx, hlt⟩) (fun _ _ _ => rfl)
  have hn : n = l.length ∧ n ≤ c := by
    obtain ⟨a', c', hv, h1, -⟩ := SliceAt.len h
    simp only [Value.slice.injEq] at hv
    exact ⟨hv.2.1, by omega⟩
  have hnc := hn.2
  obtain ⟨i0, hi, hz0, hz1, hz2⟩ := info_parts infoRow
  have HN := Lib.hid hn.1
  have HX := Lib.hid hx
  have HH := Lib.hid h
  have HBB := Lib.hid hb
  have HBL := Lib.hid hbl
  clear hn hx h h0 hb hbl
  go_enter Try.func67, Try.ntmps67
  go_wp2
  go_loopw [5] (fun i wr => ∃ k : Nat, k ≤ n ∧ i = .int .i64 k ∧ Hid (∀ j, j < k → ∀ hj : j < l.length, Lib.compareBytes l[j] b < 0) ∧ Hid (∃ q, wr = w.drewN q)) (fun i _ => n - (intOf i).toNat)
  case atStart => exact ⟨0, Nat.zero_le _, rfl, Lib.hid (fun j hj => absurd hj (Nat.not_lt_zero _)), Lib.hid ⟨0, rfl⟩⟩
  case round =>
    obtain ⟨k, hk, rfl, HLT, HK⟩ := hrel
    by_cases hlt : k < n
    · rcases SliceAt.split HH.out with ⟨_, h00⟩ | ⟨rb0, ro0, rfl, -, -, -⟩
      · omega
      have hrw : RowsAt (fun x => F x ∧ x < w.heap.size) wr (.slice (some ⟨rb0, ro0, none⟩) n c) l ∧ BytesAt G wr (.slice ab nb cb) b := by
        obtain ⟨q, hq⟩ := HK.out
        rw [hq]; exact ⟨RowsAt.carry HH.out (fun _ _ x => x) (fun _ _ _ => rfl), BytesAt.carry HBB.out (fun _ _ x => x) (fun _ _ _ => rfl)⟩
      have hkl : k < l.length := by have := HN.out; omega
      obtain ⟨u, c0, t0⟩ := RowsAt.cell hrw.1 k hkl
      have hxl := HX.out l[k] (List.getElem_mem _)
      obtain ⟨p, hp⟩ : ∃ p, p = decide (Lib.compareBytes l[k] b < 0) := ⟨_, rfl⟩
      have hcall := ahead_any _ G wr u (.slice ab nb cb) l[k] b t0 hrw.2 (by omega)
      rw [← hp] at hcall
      have HCALL := Lib.hid hcall
      have HP := Lib.hid hp
      have hkz : (0 : Int) ≤ (k : Int) := by omega
      have hkn : (k : Int) < (n : Int) := by omega
      obtain ⟨au0, cu0, hu0, -, -, -⟩ := SliceAt.len t0
      subst hu0
      obtain ⟨mu0, hmu0⟩ : ∃ m, m = (l[k]).length := ⟨_, rfl⟩
      rw [← hmu0] at c0 HCALL
      clear hrw t0 hxl hcall hp hmu0
      go_wp2_with fail
      refine HCALL.out.mono ?_
      rintro e w1 ⟨rfl, q1, hw1⟩
      have HK1 : Hid (∃ q, w1 = w.drewN q) := Lib.hid (by obtain ⟨q, hq⟩ := HK.out; rw [hw1, hq]; exact ⟨_, World.drewN_drewN _ _ _⟩)
      clear hw1 c0
      cases p with
      | true =>
        have HLT2 : Hid (∀ j, j < k + 1 → ∀ hj : j < l.length, Lib.compareBytes l[j] b < 0) := Lib.hid fun j hj hl => by
          by_cases hjk : j = k
          · subst hjk; exact of_decide_eq_true HP.out.symm
          · exact HLT.out j (by omega) hl
        go_wp2_with fail
        go_roundw
        case rel => exact ⟨k + 1, by omega, num_eq (by omega), HLT2, HK1⟩
        case measure => simp [intOf]; omega
      | false =>
        have HNLT : Hid (¬ Lib.compareBytes (l[k]'(by have := HN.out; omega)) b < 0) := Lib.hid (of_decide_eq_false HP.out.symm)
        obtain ⟨wr, rfl⟩ : ∃ W, W = w1 := ⟨_, rfl⟩
        replace HK := HK1
        clear HK1 HCALL hkz hkn
        have hq := HK.out
        obtain ⟨q, hq⟩ := hq
        have hbwr : Below w.heap.size w wr := by rw [hq]; exact ⟨rfl, rfl, rfl, Nat.le_refl _, fun _ _ => rfl⟩
        have hwrs : wr.heap.size = w.heap.size := by rw [hq]; rfl
        have hRr := RowsAt.below HH.out hbwr
        have hBr := BytesAt.below HBB.out hbwr
        have hput := put_at l b k HLT.out (by have := HN.out; omega) (.inr ⟨by have := HN.out; omega, HNLT.out⟩)
        have HRR := Lib.hid hRr
        have HBR := Lib.hid hBr
        have HBW := Lib.hid hbwr
        have HWS := Lib.hid hwrs
        clear hq hbwr hwrs
        obtain ⟨x, hxx⟩ : ∃ x, x = l[k]'(by have := HN.out; omega) := ⟨_, rfl⟩
        obtain ⟨u, c0, t0⟩ := RowsAt.cell HRR.out k (by have := HN.out; omega)
        rw [← hxx] at t0
        obtain ⟨ax, cx, rfl, -, -, -⟩ := SliceAt.len t0
        have s1 := fun nq => run_string_at (P := Try.prog) (BytesAt.draws t0 nq) 25 5 9 Try.underlying25 Try.underlying5 Try.underlying9
        have s2 := fun nq => run_string_at (P := Try.prog) (BytesAt.draws HBR.out nq) 25 5 9 Try.underlying25 Try.underlying5 Try.underlying9
        have hkn' : (k : Int) < (n : Int) := by omega
        have hkz' : (0 : Int) ≤ (k : Int) := by omega
        by_cases hsame : k < l.length ∧ x = b
        · have hput2 : put l b = l := by rw [hput, dif_pos ⟨by have := HN.out; omega, by rw [← hxx]; exact hsame.2⟩]
          obtain rfl := hsame.2
          have HPUT := Lib.hid hput2
          clear hput hput2 hRr hBr hsame hxx t0
          go_wp2_with fail
          go_quiet (fail)
          go_wp2
          go_ret
          rw [HPUT.out]
          refine ⟨_, _, _, rfl, RowsAt.carry HRR.out (fun b hlt hb => .inl hb.1) (fun _ _ _ => rfl), ?_⟩
          have := HBW.out
          exact ⟨this.os, this.tape, this.output, this.size, this.block⟩
        · rw [dif_neg (fun e => hsame ⟨by have := HN.out; omega, by rw [hxx]; exact e.2⟩)] at hput
          have HPUT := Lib.hid hput
          have hb1 : (x == b) = false := by
            have : ¬ x = b := fun e => hsame ⟨by have := HN.out; omega, e⟩
            simp [this]
          clear hput hRr hBr hsame hxx t0
          go_wp2_with fail
          go_quiet (fail)
          clear s1 s2 hb1
          obtain ⟨W, hW⟩ : ∃ W' : World, W' = wr.drewN nq := ⟨_, rfl⟩
          have hbW : Below w.heap.size w W := by rw [hW]; have := HBW.out; exact ⟨this.os, this.tape, this.output, this.size, this.block⟩
          have hsW : W.heap.size = w.heap.size := by rw [hW]; exact HWS.out
          obtain ⟨W1, hW1⟩ : ∃ W' : World, W' = W.alloc (.cells #[] 25) := ⟨_, rfl⟩
          have hb1 : Below W.heap.size W W1 := by rw [hW1]; exact Bel.alloc (Bel.refl W) _
          have hk1 : W1.heap[W.heap.size]? = some (.cells #[] 25 (0, 0)) := by rw [hW1]; exact heap_alloc_new W _
          have hs1 : W1.heap.size = W.heap.size + 1 := by rw [hW1]; simp
          have ho1 : OwnList rowR (fun b => (F b ∧ b < w.heap.size) ∨ w.heap.size ≤ b) W.heap.size W1 25 1 (.slice (some ⟨W.heap.size, 0, none⟩) 0 0) ([] : List (List UInt8)) := OwnList.empty W.heap.size 0 (Nat.le_refl _) (by decide) _ hk1 rfl
          have hsrc := RowsAt.below (RowsAt.upto (RowsAt.below HH.out hbW) k (by omega)) hb1
          obtain ⟨R1, j1, j2, j3, j4⟩ := ho1.join carriedRow hsrc (fun b hlt hb => ⟨.inl hb, fun e => by simp [Value.ownBlock] at e; have := hb.2; omega⟩)
          have hle1 : (([] : List (List UInt8)).length + (l.take k).length) * 24 ≤ 140737488355328 := by simp; omega
          have HWE := Lib.hid hW
          have HW1 := Lib.hid hW1
          have HBW1 := Lib.hid (hbW.trans (hb1.mono (by omega)))
          have HJ1 := Lib.hid j1
          have HJ2 := Lib.hid j2
          have HJ3 := Lib.hid j3
          have HJ4 := Lib.hid j4
          have HL1 := Lib.hid hle1
          have hgeW : W.heap.size ≤ W1.heap.size := by omega
          have HSW := Lib.hid hsW
          have HS1 := Lib.hid hs1
          clear hbW hsW hb1 hk1 ho1 hsrc j1 j2 j3 j4 hle1 hW1 hW hs1
          try rw [← HWE.out]
          go_wp2_with (at_builtin; (try rw [← HWE.out]); (try rw [← HW1.out]); refine wpList_append_at rfl (.tmp 37) (.tmp 40) 22 rfl W.heap.size 25 i0 (.slice none 0 0) 1 24 underlyingRows hi hz0 hz1 hz2 rfl (by decide) (by decide) HJ1.out (.slice (some ⟨W.heap.size, 0, none⟩) 0 0) [] rfl HJ2.out _ (l.take k) _ rfl HJ3.out HL1.out hgeW ?nexta1)
          case nexta1 =>
          intro v2 w2 ho hg hm
          have ho2 := HJ4.out _ _ ho hg hm
          have hown1 := (OwnAt.own HJ2.out)
          obtain ⟨a2, c2, hv2, -, -, -⟩ := ho2.len
          obtain ⟨m2, hm2⟩ : ∃ m, m = ([] ++ l.take k).length := ⟨_, rfl⟩
          rw [← hm2] at hv2
          subst hv2
          have hb2 : Below w.heap.size w w2 := HBW1.out.grown hg HBW1.out.size (fun j hj => by have := (hown1 j hj).1; have := HSW.out; omega)
          rw [List.nil_append] at ho2
          have HO2 := Lib.hid ho2
          have HB2 := Lib.hid hb2
          have hm2b : m2 ≤ 1099511627776 := by rw [hm2]; simp; omega
          clear ho hg hm ho2 hb2 hown1 hm2
          obtain ⟨i8, hi8, hy0, hy1, hy2⟩ := info_parts infoU8
          obtain ⟨W2, hW2⟩ : ∃ W' : World, W' = w2.alloc (.cells #[] 5) := ⟨_, rfl⟩
          have hb22 : Below w2.heap.size w2 W2 := by rw [hW2]; exact Bel.alloc (Bel.refl w2) _
          have hown8 : OwnAt W2 w2.heap.size 5 1 byteR (.slice (some ⟨w2.heap.size, 0, none⟩) 0 0) ([] : List UInt8) := by
            rw [hW2]; exact ⟨[], World.ownsRow_made w2 #[] 0 (Nat.le_refl _) (by decide) rfl, Rows.nil _ _⟩
          have hsrc8 := BytesAt.below (BytesAt.below HBB.out HB2.out) hb22
          have hle8 : (([] : List UInt8).length + b.length) * 1 ≤ 140737488355328 := by have := HBL.out; simp; omega
          have HW2 := Lib.hid hW2
          have HO22 := Lib.hid (HO2.out.call carriedRow hb22)
          have HB22 := Lib.hid hb22
          have hs22 := hb22.size
          have HOWN8 := Lib.hid hown8
          have HSRC8 := Lib.hid hsrc8
          have HLE8 := Lib.hid hle8
          clear hb22 hown8 hsrc8 hle8 hW2
          go_wp2_with (at_builtin; (try rw [← HW2.out]); refine wpList_append_at rfl (.tmp 43) (.tmp 44) 25 rfl w2.heap.size 5 i8 (.int .u8 0) 1 1 underlying25 hi8 hy0 hy1 hy2 rfl (by decide) (by decide) byteR.one (.slice (some ⟨w2.heap.size, 0, none⟩) 0 0) [] rfl HOWN8.out _ b _ rfl HSRC8.out HLE8.out hs22 ?nextb1)
          case nextb1 =>
          intro v3 w3 ho hg hm
          have hown8 := HOWN8.out.own
          obtain ⟨a3, c3, hv3, -, -, -⟩ := ho.len
          have hat3 := ho.at (F := fun x => w2.heap.size ≤ x) (fun _ _ h _ => h) (by decide)
          obtain ⟨m3, hm3⟩ : ∃ m, m = b.length := ⟨_, rfl⟩
          subst hv3
          try simp only [List.nil_append] at hat3 ⊢
          rw [← hm3] at hat3 ⊢
          have hb3 : Below w2.heap.size w2 w3 := HB22.out.grown hg HB22.out.size (fun j hj => (hown8 j hj).1)
          have ho3 := HO2.out.call carriedRow hb3
          have hown2 := HO2.out.own
          obtain ⟨R3, j1, j2, j3, j4⟩ := ho3.push carriedRow (H := fun x => w2.heap.size ≤ x) (cs := [.slice a3 m3 c3]) (x := b) ⟨_, rfl, hat3⟩ rfl (by decide) (fun x _ hx => ⟨.inr (by have := HB2.out.size; omega), fun e => by have := (hown2 x e).2; omega⟩) 25
          have hle3 : ((l.take k).length + [b].length) * 24 ≤ 140737488355328 := by simp; omega
          have hbase3 : W.heap.size ≤ (w3.alloc (.cells [.slice a3 m3 c3].toArray 25)).heap.size := by have := HB2.out.size; have := hb3.size; have := HSW.out; simp; omega
          have HB3 := Lib.hid (Bel.call HB2.out hb3)
          have HJ5 := Lib.hid j1
          have HJ6 := Lib.hid j2
          have HJ7 := Lib.hid j3
          have HJ8 := Lib.hid j4
          have HL3 := Lib.hid hle3
          have HBASE3 := Lib.hid hbase3
          clear ho hg hm hown8 hat3 hb3 ho3 j1 j2 j3 j4 hle3 hbase3 hown2 hm3
          go_wp2_with (at_builtin; refine wpList_append_at rfl (.tmp 42) (.tmp 46) 22 rfl W.heap.size 25 i0 (.slice none 0 0) 1 24 underlyingRows hi hz0 hz1 hz2 rfl (by decide) (by decide) HJ5.out (.slice a2 m2 c2) (l.take k) rfl HJ6.out _ [b] (fun _ => True) rfl HJ7.out HL3.out HBASE3.out ?nextc1)
          case nextc1 =>
          intro v4 w4 ho hg hm
          have ho4 := HJ8.out _ _ ho hg hm
          have hown6 := OwnAt.own HJ6.out
          obtain ⟨a4, c4, hv4, -, -, -⟩ := ho4.len
          obtain ⟨m4, hm4⟩ : ∃ m, m = (l.take k ++ [b]).length := ⟨_, rfl⟩
          rw [← hm4] at hv4
          subst hv4
          have hb4 : Below w.heap.size w w4 := (Bel.alloc HB3.out _).grown hg (by have := HB3.out.size; simp; omega) (fun j hj => by have := (hown6 j hj).1; have := HSW.out; omega)
          have hsrc4 := RowsAt.since (RowsAt.below HH.out hb4) k (by omega) (a2 := some ⟨rb0, ro0 + k, none⟩) (by rw [if_neg (by omega)]; exact congrArg some (by unfold Addr.add; split <;> simp_all))
          have hown4 := ho4.own
          obtain ⟨R5, j1, j2, j3, j4⟩ := ho4.join carriedRow hsrc4 (fun x hlt hx => ⟨.inl hx, fun e => by have := (hown4 x e).1; have := hx.2; have := HSW.out; omega⟩)
          have hle4 : ((l.take k ++ [b]).length + (l.drop k).length) * 24 ≤ 140737488355328 := by have := HN.out; simp; omega
          have hbase4 : W.heap.size ≤ w4.heap.size := by have := hb4.size; have := HSW.out; omega
          have HB4 := Lib.hid hb4
          have HJ9 := Lib.hid j1
          have HJA := Lib.hid j2
          have HJB := Lib.hid j3
          have HJC := Lib.hid j4
          have HL4 := Lib.hid hle4
          have HOWN4 := Lib.hid hown4
          clear ho hg hm ho4 hown6 hm4 hb4 hsrc4 hown4 j1 j2 j3 j4 hle4
          go_wp2_with (at_builtin; refine wpList_append_at rfl (.tmp 48) (.tmp 51) 22 rfl W.heap.size 25 i0 (.slice none 0 0) 1 24 underlyingRows hi hz0 hz1 hz2 rfl (by decide) (by decide) HJ9.out (.slice a4 m4 c4) (l.take k ++ [b]) rfl HJA.out (.slice (some ⟨rb0, ro0 + k, none⟩) (n - k) (c - k)) (l.drop k) _ rfl HJB.out HL4.out hbase4 ?nextd1)
          case nextd1 =>
          intro v6 w6 ho hg hm
          try rw [List.append_cons] at ho
          have ho6 := HJC.out _ _ ho hg hm
          obtain ⟨a6, c6, hv6, -, -, -⟩ := ho6.len
          have hrows : RowsAt (fun x => F x ∨ w.heap.size ≤ x) w6 v6 (l.take k ++ [b] ++ l.drop k) := ho6.at carriedRow (fun x hx _ => by rcases hx with hx | hx; exact .inl hx.1; exact .inr hx) (fun x hx _ => .inr (by have := HSW.out; omega)) (by decide)
          obtain ⟨m6, hm6⟩ : ∃ m, m = (l.take k ++ [b] ++ l.drop k).length := ⟨_, rfl⟩
          rw [← hm6] at hv6
          subst hv6
          have hb6 : Below w.heap.size w w6 := HB4.out.grown hg HB4.out.size (fun j hj => by have := (HOWN4.out j hj).1; have := HSW.out; omega)
          have HROWS := Lib.hid hrows
          have HB6 := Lib.hid hb6
          clear ho hg hm ho6 hrows hm6 hb6
          go_wp2_with fail
          go_ret
          rw [HPUT.out]
          exact ⟨a6, m6, c6, rfl, HROWS.out, HB6.out⟩
    · obtain rfl : n = k := by omega
      obtain ⟨k, rfl⟩ : ∃ k, k = n := ⟨_, rfl⟩
      have hq := HK.out
      obtain ⟨q, hq⟩ := hq
      have hbwr : Below w.heap.size w wr := by rw [hq]; exact ⟨rfl, rfl, rfl, Nat.le_refl _, fun _ _ => rfl⟩
      have hwrs : wr.heap.size = w.heap.size := by rw [hq]; rfl
      have hRr := RowsAt.below HH.out hbwr
      have hBr := BytesAt.below HBB.out hbwr
      have hput := put_at l b k HLT.out (by have := HN.out; omega) (.inl (by have := HN.out; omega))
      have HRR := Lib.hid hRr
      have HBR := Lib.hid hBr
      have HBW := Lib.hid hbwr
      have HWS := Lib.hid hwrs
      clear hq hbwr hwrs
      by_cases hsame : False
      · exact hsame.elim
      · rw [dif_neg (fun e => absurd e.1 (by have := HN.out; omega))] at hput
        have HPUT := Lib.hid hput
        clear hput hRr hBr
        clear hsame
        go_wp2_with fail
        go_quiet (fail)
        obtain ⟨W, hW⟩ : ∃ W' : World, W' = wr.drewN nq := ⟨_, rfl⟩
        have hbW : Below w.heap.size w W := by rw [hW]; have := HBW.out; exact ⟨this.os, this.tape, this.output, this.size, this.block⟩
        have hsW : W.heap.size = w.heap.size := by rw [hW]; exact HWS.out
        obtain ⟨W1, hW1⟩ : ∃ W' : World, W' = W.alloc (.cells #[] 25) := ⟨_, rfl⟩
        have hb1 : Below W.heap.size W W1 := by rw [hW1]; exact Bel.alloc (Bel.refl W) _
        have hk1 : W1.heap[W.heap.size]? = some (.cells #[] 25 (0, 0)) := by rw [hW1]; exact heap_alloc_new W _
        have hs1 : W1.heap.size = W.heap.size + 1 := by rw [hW1]; simp
        have ho1 : OwnList rowR (fun b => (F b ∧ b < w.heap.size) ∨ w.heap.size ≤ b) W.heap.size W1 25 1 (.slice (some ⟨W.heap.size, 0, none⟩) 0 0) ([] : List (List UInt8)) := OwnList.empty W.heap.size 0 (Nat.le_refl _) (by decide) _ hk1 rfl
        have hsrc := RowsAt.below (RowsAt.upto (RowsAt.below HH.out hbW) k (by omega)) hb1
        obtain ⟨R1, j1, j2, j3, j4⟩ := ho1.join carriedRow hsrc (fun b hlt hb => ⟨.inl hb, fun e => by simp [Value.ownBlock] at e; have := hb.2; omega⟩)
        have hle1 : (([] : List (List UInt8)).length + (l.take k).length) * 24 ≤ 140737488355328 := by simp; omega
        have HWE := Lib.hid hW
        have HW1 := Lib.hid hW1
        have HBW1 := Lib.hid (hbW.trans (hb1.mono (by omega)))
        have HJ1 := Lib.hid j1
        have HJ2 := Lib.hid j2
        have HJ3 := Lib.hid j3
        have HJ4 := Lib.hid j4
        have HL1 := Lib.hid hle1
        have hgeW : W.heap.size ≤ W1.heap.size := by omega
        have HSW := Lib.hid hsW
        have HS1 := Lib.hid hs1
        clear hbW hsW hb1 hk1 ho1 hsrc j1 j2 j3 j4 hle1 hW1 hW hs1
        try rw [← HWE.out]
        go_wp2_with (at_builtin; (try rw [← HWE.out]); (try rw [← HW1.out]); refine wpList_append_at rfl (.tmp 37) (.tmp 40) 22 rfl W.heap.size 25 i0 (.slice none 0 0) 1 24 underlyingRows hi hz0 hz1 hz2 rfl (by decide) (by decide) HJ1.out (.slice (some ⟨W.heap.size, 0, none⟩) 0 0) [] rfl HJ2.out _ (l.take k) _ rfl HJ3.out HL1.out hgeW ?nexta2)
        case nexta2 =>
        intro v2 w2 ho hg hm
        have ho2 := HJ4.out _ _ ho hg hm
        have hown1 := (OwnAt.own HJ2.out)
        obtain ⟨a2, c2, hv2, -, -, -⟩ := ho2.len
        obtain ⟨m2, hm2⟩ : ∃ m, m = ([] ++ l.take k).length := ⟨_, rfl⟩
        rw [← hm2] at hv2
        subst hv2
        have hb2 : Below w.heap.size w w2 := HBW1.out.grown hg HBW1.out.size (fun j hj => by have := (hown1 j hj).1; have := HSW.out; omega)
        rw [List.nil_append] at ho2
        have HO2 := Lib.hid ho2
        have HB2 := Lib.hid hb2
        have hm2b : m2 ≤ 1099511627776 := by rw [hm2]; simp; omega
        clear ho hg hm ho2 hb2 hown1 hm2
        obtain ⟨i8, hi8, hy0, hy1, hy2⟩ := info_parts infoU8
        obtain ⟨W2, hW2⟩ : ∃ W' : World, W' = w2.alloc (.cells #[] 5) := ⟨_, rfl⟩
        have hb22 : Below w2.heap.size w2 W2 := by rw [hW2]; exact Bel.alloc (Bel.refl w2) _
        have hown8 : OwnAt W2 w2.heap.size 5 1 byteR (.slice (some ⟨w2.heap.size, 0, none⟩) 0 0) ([] : List UInt8) := by
          rw [hW2]; exact ⟨[], World.ownsRow_made w2 #[] 0 (Nat.le_refl _) (by decide) rfl, Rows.nil _ _⟩
        have hsrc8 := BytesAt.below (BytesAt.below HBB.out HB2.out) hb22
        have hle8 : (([] : List UInt8).length + b.length) * 1 ≤ 140737488355328 := by have := HBL.out; simp; omega
        have HW2 := Lib.hid hW2
        have HO22 := Lib.hid (HO2.out.call carriedRow hb22)
        have HB22 := Lib.hid hb22
        have hs22 := hb22.size
        have HOWN8 := Lib.hid hown8
        have HSRC8 := Lib.hid hsrc8
        have HLE8 := Lib.hid hle8
        clear hb22 hown8 hsrc8 hle8 hW2
        go_wp2_with (at_builtin; (try rw [← HW2.out]); refine wpList_append_at rfl (.tmp 43) (.tmp 44) 25 rfl w2.heap.size 5 i8 (.int .u8 0) 1 1 underlying25 hi8 hy0 hy1 hy2 rfl (by decide) (by decide) byteR.one (.slice (some ⟨w2.heap.size, 0, none⟩) 0 0) [] rfl HOWN8.out _ b _ rfl HSRC8.out HLE8.out hs22 ?nextb2)
        case nextb2 =>
        intro v3 w3 ho hg hm
        have hown8 := HOWN8.out.own
        obtain ⟨a3, c3, hv3, -, -, -⟩ := ho.len
        have hat3 := ho.at (F := fun x => w2.heap.size ≤ x) (fun _ _ h _ => h) (by decide)
        obtain ⟨m3, hm3⟩ : ∃ m, m = b.length := ⟨_, rfl⟩
        subst hv3
        try simp only [List.nil_append] at hat3 ⊢
        rw [← hm3] at hat3 ⊢
        have hb3 : Below w2.heap.size w2 w3 := HB22.out.grown hg HB22.out.size (fun j hj => (hown8 j hj).1)
        have ho3 := HO2.out.call carriedRow hb3
        have hown2 := HO2.out.own
        obtain ⟨R3, j1, j2, j3, j4⟩ := ho3.push carriedRow (H := fun x => w2.heap.size ≤ x) (cs := [.slice a3 m3 c3]) (x := b) ⟨_, rfl, hat3⟩ rfl (by decide) (fun x _ hx => ⟨.inr (by have := HB2.out.size; omega), fun e => by have := (hown2 x e).2; omega⟩) 25
        have hle3 : ((l.take k).length + [b].length) * 24 ≤ 140737488355328 := by simp; omega
        have hbase3 : W.heap.size ≤ (w3.alloc (.cells [.slice a3 m3 c3].toArray 25)).heap.size := by have := HB2.out.size; have := hb3.size; have := HSW.out; simp; omega
        have HB3 := Lib.hid (Bel.call HB2.out hb3)
        have HJ5 := Lib.hid j1
        have HJ6 := Lib.hid j2
        have HJ7 := Lib.hid j3
        have HJ8 := Lib.hid j4
        have HL3 := Lib.hid hle3
        have HBASE3 := Lib.hid hbase3
        clear ho hg hm hown8 hat3 hb3 ho3 j1 j2 j3 j4 hle3 hbase3 hown2 hm3
        go_wp2_with (at_builtin; refine wpList_append_at rfl (.tmp 42) (.tmp 46) 22 rfl W.heap.size 25 i0 (.slice none 0 0) 1 24 underlyingRows hi hz0 hz1 hz2 rfl (by decide) (by decide) HJ5.out (.slice a2 m2 c2) (l.take k) rfl HJ6.out _ [b] (fun _ => True) rfl HJ7.out HL3.out HBASE3.out ?nextc2)
        case nextc2 =>
        intro v4 w4 ho hg hm
        have ho4 := HJ8.out _ _ ho hg hm
        have hown6 := OwnAt.own HJ6.out
        obtain ⟨a4, c4, hv4, -, -, -⟩ := ho4.len
        obtain ⟨m4, hm4⟩ : ∃ m, m = (l.take k ++ [b]).length := ⟨_, rfl⟩
        rw [← hm4] at hv4
        subst hv4
        have hb4 : Below w.heap.size w w4 := (Bel.alloc HB3.out _).grown hg (by have := HB3.out.size; simp; omega) (fun j hj => by have := (hown6 j hj).1; have := HSW.out; omega)
        obtain ⟨a5, ha5⟩ : ∃ a5, (if c = k then (a : Option Addr) else (a : Option Addr).map (·.add k)) = a5 := ⟨_, rfl⟩
        have hsrc4 := RowsAt.since (RowsAt.below HH.out hb4) k (by omega) ha5
        rw [Nat.sub_self] at hsrc4
        have hown4 := ho4.own
        obtain ⟨R5, j1, j2, j3, j4⟩ := ho4.join carriedRow hsrc4 (fun x hlt hx => ⟨.inl hx, fun e => by have := (hown4 x e).1; have := hx.2; have := HSW.out; omega⟩)
        have hle4 : ((l.take k ++ [b]).length + (l.drop k).length) * 24 ≤ 140737488355328 := by have := HN.out; simp; omega
        have hbase4 : W.heap.size ≤ w4.heap.size := by have := hb4.size; have := HSW.out; omega
        have HB4 := Lib.hid hb4
        have HJ9 := Lib.hid j1
        have HJA := Lib.hid j2
        have HJB := Lib.hid j3
        have HJC := Lib.hid j4
        have HL4 := Lib.hid hle4
        have HOWN4 := Lib.hid hown4
        clear ho hg hm ho4 hown6 hm4 hb4 hsrc4 hown4 j1 j2 j3 j4 hle4
        go_wp2_with (at_builtin; refine wpList_append_at rfl (.tmp 48) (.tmp 51) 22 rfl W.heap.size 25 i0 (.slice none 0 0) 1 24 underlyingRows hi hz0 hz1 hz2 rfl (by decide) (by decide) HJ9.out (.slice a4 m4 c4) (l.take k ++ [b]) rfl HJA.out (.slice a5 0 (c - k)) (l.drop k) _ rfl HJB.out HL4.out hbase4 ?nextd2)
        case nextd2 =>
        intro v6 w6 ho hg hm
        try rw [List.append_cons] at ho
        have ho6 := HJC.out _ _ ho hg hm
        obtain ⟨a6, c6, hv6, -, -, -⟩ := ho6.len
        have hrows : RowsAt (fun x => F x ∨ w.heap.size ≤ x) w6 v6 (l.take k ++ [b] ++ l.drop k) := ho6.at carriedRow (fun x hx _ => by rcases hx with hx | hx; exact .inl hx.1; exact .inr hx) (fun x hx _ => .inr (by have := HSW.out; omega)) (by decide)
        obtain ⟨m6, hm6⟩ : ∃ m, m = (l.take k ++ [b] ++ l.drop k).length := ⟨_, rfl⟩
        rw [← hm6] at hv6
        subst hv6
        have hb6 : Below w.heap.size w w6 := HB4.out.grown hg HB4.out.size (fun j hj => by have := (HOWN4.out j hj).1; have := HSW.out; omega)
        have HROWS := Lib.hid hrows
        have HB6 := Lib.hid hb6
        clear ho hg hm ho6 hrows hm6 hb6
        go_wp2_with fail
        go_ret
        rw [HPUT.out]
        exact ⟨a6, m6, c6, rfl, HROWS.out, HB6.out⟩
end Go.Proofs.Ytndkkgkcbbmnpaa
namespace Go.Pg
theorem whole_memE (l : List (List UInt8)) (x : List UInt8) (h : x ∈ l) : x.length ≤ It.wholes (l.map .text) := by
  induction l with
  | nil => cases h
  | cons y r ih =>
    simp only [List.map_cons, It.wholes]
    rcases List.mem_cons.1 h with rfl | h
    · have := It.body_le_whole (.text x); simp only [It.body] at this; omega
    · have := ih h; omega
theorem textsI_leE (l : List (List UInt8)) : It.wholes (l.map .text) ≤ (textsI l).whole := by
  have := sz_ge (It.wholes (l.map .text))
  unfold textsI; simp only [It.whole]; omega
theorem witI_leE (N C : List (List UInt8)) : (textsI N).whole + (textsI C).whole ≤ (witI N C).whole := by
  have := sz_ge (It.wholes [textsI N, textsI C])
  unfold witI; simp only [It.whole]
  have : It.wholes [textsI N, textsI C] = (textsI N).whole + (textsI C).whole := by simp [It.wholes]
  omega
/-- what was read is no more than its bytes -/
theorem witDecode_smallE (B : List UInt8) (N C : List (List UInt8)) (h : witDecode B = (N, C, 0)) : (witI N C).whole = B.length ∧ N.length ≤ B.length ∧ C.length ≤ B.length ∧ (∀ x ∈ N, x.length ≤ B.length) ∧ (∀ x ∈ C, x.length ≤ B.length) := by
  obtain ⟨-, h2, -⟩ := witDecode_sound B N C h
  obtain ⟨h3, -⟩ := rdWhole_sound B _ h2
  have hw : (witI N C).whole = B.length := by rw [← It.enc_length, ← h3]
  have h4 := witI_leE N C
  have h5 := textsI_leE N
  have h6 := textsI_leE C
  have h7 := It.length_le_wholes (N.map .text)
  have h8 := It.length_le_wholes (C.map .text)
  rw [List.length_map] at h7 h8
  exact ⟨hw, by omega, by omega, fun x hx => by have := whole_memE N x hx; omega, fun x hx => by have := whole_memE C x hx; omega⟩
theorem witDecode_len (B : List UInt8) : (witDecode B).1.length ≤ B.length ∧ (witDecode B).2.1.length ≤ B.length ∧ (∀ x ∈ (witDecode B).1, x.length ≤ B.length) ∧ (∀ x ∈ (witDecode B).2.1, x.length ≤ B.length) := by
  rcases witDecode_cases B with ⟨N, C, h⟩ | h
  · obtain ⟨-, h2, h3, h4, h5⟩ := witDecode_smallE B N C h
    rw [h]; exact ⟨h2, h3, h4, h5⟩
  · rw [h]; simp
theorem OwnList.one {G : Nat → Prop} {n : Nat} {W : World} {e : TypeId} {v : Value} {l : List (List UInt8)} (h : OwnList rowR G n W e 1 v l) : OwnAt W n e 1 (rowR G W) v l := by
  obtain ⟨F, h1, h2, h3⟩ := h
  exact h3.mono fun cs x _ hx => carriedRow.carry hx (fun b _ hb => (h1 b hb).1) (fun _ _ _ => rfl)
end Go.Pg
namespace Go.Proofs.Ytndkkgkcbbmnpaa
open Go.RowKit Go.Pg

set_option maxRecDepth 100000 in
set_option maxHeartbeats 4000000 in
theorem told_any (F : Nat → Prop) (w : World) (a : Option Addr) (n c : Nat) (bs : List UInt8) (h : BytesAt F w (.slice a n c) bs) (hn : n ≤ 1073741824) :
    Calls Try.prog 38 #[.slice a n c] w (SortD w ((witDecode bs).1 ++ (witDecode bs).2.1)) := by
  have hnl := (BytesAt.n h).1
  obtain ⟨l1, l2, l3, l4⟩ := witDecode_len bs
  have hd := wdecodeO_any F w a n c bs h (by omega)
  obtain ⟨N, C, d, hD⟩ : ∃ N C d, witDecode bs = (N, C, d) := ⟨_, _, _, rfl⟩
  rw [hD] at l1 l2 l3 l4 hd
  rw [hD]
  simp only at l1 l2 l3 l4 ⊢
  obtain ⟨i0, hi, hz0, hz1, hz2⟩ := info_parts infoRow
  have HL1 := Lib.hid l1
  have HL2 := Lib.hid l2
  have HL3 := Lib.hid l3
  have HL4 := Lib.hid l4
  have HNL := Lib.hid hnl
  have HDEC := Lib.hid hd
  clear l1 l2 l3 l4 hnl hd hD h
  go_enter Try.func38, Try.ntmps38
  go_wp2_with fail
  refine HDEC.out.mono ?_
  rintro e w3 ⟨N0, a1, n1, c1, a2, n2, c2, rfl, hN0, ho1, ho2, hb3⟩
  try simp only at ho1 ho2 ⊢
  obtain ⟨W3, hW3⟩ : ∃ W : World, W = w3.alloc (.cells #[.slice a1 n1 c1, .slice a2 n2 c2] 24) := ⟨_, rfl⟩
  have hbx : Below w3.heap.size w3 W3 := by rw [hW3]; exact Bel.alloc (Bel.refl w3) _
  have hk3 : W3.heap[w3.heap.size]? = some (.cells #[.slice a1 n1 c1, .slice a2 n2 c2] 24 (0, 0)) := by rw [hW3]; exact heap_alloc_new w3 _
  have hsW : W3.heap.size = w3.heap.size + 1 := by rw [hW3]; simp
  obtain ⟨p0, p1⟩ := cells2 hk3
  have hO1 := (ho1.call carriedRow hbx)
  have hO2 := (ho2.call carriedRow hbx)
  have hbase : N0 ≤ W3.heap.size ∨ (a1 = none ∧ a2 = none) := by
    by_cases hle : N0 ≤ W3.heap.size
    · exact .inl hle
    · refine .inr ⟨?_, ?_⟩
      · cases a1 with
        | none => rfl
        | some ad => have := ho1.own ad.block rfl; omega
      · cases a2 with
        | none => rfl
        | some ad => have := ho2.own ad.block rfl; omega
  have hlow1 : OwnList rowR (fun b => w.heap.size ≤ b ∧ b < N0) (min N0 W3.heap.size) W3 25 1 (.slice a1 n1 c1) N := hO1.weaken (fun _ h => h) (Nat.min_le_left _ _)
  have hown := OwnList.one hlow1
  have hsrc : SliceAt (fun _ => True) W3 1 (rowR (fun b => w.heap.size ≤ b ∧ b < N0) W3) (.slice a2 n2 c2) C := (OwnList.one hO2).at (fun _ _ _ _ => trivial) (by decide)
  have hle : (N.length + C.length) * 24 ≤ 140737488355328 := by have := HL1.out; have := HL2.out; have := HNL.out; omega
  have HW3 := Lib.hid hW3
  have HOWN := Lib.hid hown
  have HSRC := Lib.hid hsrc
  have HB3 := Lib.hid (Bel.call hb3 hbx)
  have HO1 := Lib.hid hO1
  have HBASE := Lib.hid hbase
  have HN0 := Lib.hid hN0
  clear ho1 ho2 hb3 hbx hk3 hsW hO1 hO2 hlow1 hown hsrc hbase hN0 hW3
  go_wp2_with (at_builtin; (try rw [← HW3.out]); refine wpList_append_at rfl (.tmp 11) (.tmp 13) 22 rfl (min N0 W3.heap.size) 25 i0 (.slice none 0 0) 1 24 underlyingRows hi hz0 hz1 hz2 rfl (by decide) (by decide) (fun cs x hx => rowR.one cs x hx) (.slice a1 n1 c1) N rfl HOWN.out (.slice a2 n2 c2) C (fun _ => True) rfl HSRC.out hle (Nat.min_le_right _ _) ?next)
  case next =>
  intro v' w4 ho hg hm
  have hrows : RowsAt (fresh w) w4 v' (N ++ C) := by
    have h1 : OwnAt w4 (min N0 W3.heap.size) 25 1 (rowR (fresh w) w4) v' (N ++ C) := ho.mono fun cs x _ hx => carriedRow.carry hx (fun b _ hb => hb.1) (fun b hb hlt => hg.block b hlt (fun e => by
      have h2 := (HO1.out.own b e.symm).1
      have h3 := hb.2
      omega))
    exact h1.at (fun b _ hb _ => by
      have h2 := HN0.out
      have h3 := HB3.out.size
      show w.heap.size ≤ b
      have : min N0 W3.heap.size ≤ b := hb
      omega) (by decide)
  obtain ⟨a4, c4, hv4, -, -, -⟩ := ho.len
  obtain ⟨m4, hm4⟩ : ∃ m, m = (N ++ C).length := ⟨_, rfl⟩
  rw [← hm4] at hv4
  subst hv4
  have hb4 : Below w.heap.size w w4 := HB3.out.grown hg HB3.out.size (fun k hk => by have := (HO1.out.own k hk).1; have := HN0.out; omega)
  have hm4b : m4 ≤ 1099511627776 := by rw [hm4, List.length_append]; have := HL1.out; have := HL2.out; have := HNL.out; omega
  have hcall := sorted_any (fresh w) w4 a4 m4 c4 (N ++ C) hrows hm4b (fun x hx => by
    have := HNL.out
    rcases List.mem_append.1 hx with hx | hx
    · have := HL3.out x hx; omega
    · have := HL4.out x hx; omega)
  have HCALL := Lib.hid hcall
  have HB4 := Lib.hid hb4
  clear ho hg hm hrows hm4 hb4 hcall p0 p1
  go_wp2_with fail
  refine HCALL.out.mono ?_
  rintro e w5 ⟨a5, n5, c5, ts, rfl, r1, r2, hb5⟩
  have HR1 := Lib.hid r1
  have HR2 := Lib.hid r2
  have HB5 := Lib.hid hb5
  clear r1 r2 hb5
  go_wp2_with fail
  go_ret
  exact ⟨a5, n5, c5, ts, rfl, RowsAt.carry HR1.out (fun b _ hb => Nat.le_trans HB4.out.size hb) (fun _ _ _ => rfl), HR2.out, Bel.call HB4.out HB5.out⟩
end Go.Proofs.Ytndkkgkcbbmnpaa
