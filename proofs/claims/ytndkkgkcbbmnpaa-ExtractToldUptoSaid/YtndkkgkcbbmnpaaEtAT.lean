/-
  The frame of a law's proof: how arguments open (bytes, rows of bytes), what the bound on their bulk gives, that arguments read behind the call as before.
-/
import Derived.Test.YtndkkgkcbbmnpaaEtAS
import Derived.Test.YtndkkgkcbbmnpaaRows
import Derived.ProofKit
import Derived.OpenShut
import Derived.JoinedCond
import Derived.ChangeSame
import Derived.Carry
import Derived.Deep.Matrix
import Derived.Lib.SmallJoins
namespace Go.Proofs.Ytndkkgkcbbmnpaa
open Go.ChangeShapes Go.WideShapes Go.ChangeAt Go.RowKit Go.Pg

/-! ## What the bound gives -/
theorem bulk_one {H : Type} (d : DataW H) : 1 ≤ Rows.uptoBulk d := by
  cases d with
  | lit l => cases l <;> simp [Rows.uptoBulk]
  | nil => simp [Rows.uptoBulk]
  | ptr d => simp [Rows.uptoBulk]
  | slice elems spare => simp [Rows.uptoBulk]
  | agg parts => simp [Rows.uptoBulk]
  | iface t d => simp [Rows.uptoBulk]
  | map entries => simp [Rows.uptoBulk]
  | held h => simp [Rows.uptoBulk]
theorem bulk_len {H : Type} (l : List (DataW H)) : l.length ≤ Rows.uptoBulkAll l := by
  induction l with
  | nil => simp [Rows.uptoBulkAll]
  | cons x r ih => have := bulk_one x; simp only [Rows.uptoBulkAll, List.length_cons]; omega
theorem bulk_map {H α : Type} (g : α → DataW H) (f : α → Nat) (l : List α) (h : ∀ r, r ∈ l → f r ≤ Rows.uptoBulk (g r)) : (l.map f).sum ≤ Rows.uptoBulkAll (l.map g) := by
  induction l with
  | nil => simp
  | cons x r ih =>
    have h1 := h x (List.mem_cons_self ..)
    have h2 := ih (fun y hy => h y (List.mem_cons_of_mem _ hy))
    simp only [List.map_cons, List.sum_cons, Rows.uptoBulkAll]; omega
theorem bulk_bound {H : Type} {l : List (DataW H)} (hk : Rows.uptoSmall H l = true) : Rows.uptoBulkAll l ≤ 1048576 := of_decide_eq_true hk
/-- how much rows of bytes take, each with its own place -/
def rowsSum (l : List (List UInt8)) : Nat := (l.map fun x => x.length + 1).sum
theorem rowsSum_len (l : List (List UInt8)) : l.length ≤ rowsSum l := by
  unfold rowsSum
  induction l with
  | nil => simp
  | cons x r ih => simp only [List.map_cons, List.sum_cons, List.length_cons]; omega
theorem rowsSum_mem (l : List (List UInt8)) (x : List UInt8) (h : x ∈ l) : x.length ≤ rowsSum l := by
  unfold rowsSum
  induction l with
  | nil => cases h
  | cons y r ih =>
    simp only [List.map_cons, List.sum_cons]
    rcases List.mem_cons.1 h with rfl | h
    · omega
    · have := ih h; omega

/-! ## How arguments open -/
section
variable {H : Type} {enc : TypeId × Value → H} {P : Program} {w : World} {held : Bool}
theorem byte_of_wf {n : Int} (h : (Lit.int .u8 n).wf = true) : ((UInt8.ofNat n.toNat).toNat : Int) = n := by
  have h1 : 0 ≤ n ∧ n ≤ 255 := by simpa [Lit.wf, IntKind.min, IntKind.max, IntKind.signed, IntKind.bits] using h
  rw [UInt8.toNat_ofNat']
  omega
theorem cell_spot {a : Addr} {v : Value} (h : w.cell? a = some v) : a = ⟨a.block, a.off, none⟩ := by
  unfold World.cell? at h
  split at h
  · split at h
    · cases h
    · rename_i hs
      obtain ⟨b, o, s⟩ := a
      cases s with
      | none => rfl
      | some x => simp at hs
  · cases h
theorem add_at (b o k : Nat) : (⟨b, o, none⟩ : Addr).add k = ⟨b, o + k, none⟩ := by unfold Addr.add; split <;> simp_all
theorem add_zero' (a : Addr) : a.add 0 = a := by unfold Addr.add; rw [if_pos rfl]
/-- cells of bytes, as a slice of them -/
theorem bytes_at {A : Option Addr} {L C : Nat} {Z : List Int} (hLC : L ≤ C) (hC : C ≤ maxLen) (hZ : Z.length = C) (hwf : ∀ n ∈ Z, (Lit.int .u8 n).wf = true) (hA : A = none → C = 0)
    (hc : ∀ a, A = some a → ∀ c, c < C → w.cell? (a.add c) = some (.int .u8 (Z.getD c 0))) (hfz : ∀ a, A = some a → ∀ c, c < C → w.frozen? ⟨a.block, a.off + c, none⟩ = false) :
    BytesAt (fun b => b < w.heap.size) w (.slice A L C) ((Z.take L).map fun n => UInt8.ofNat n.toNat) := by
  have hlen : ((Z.take L).map fun n => UInt8.ofNat n.toNat).length = L := by rw [List.length_map, List.length_take]; omega
  refine ⟨A, C, by rw [hlen], by omega, hC, hA, fun hp => ?_, fun b o j ha hj => by subst ha; exact hfz _ rfl j (by rw [hlen] at hj; omega)⟩
  cases A with
  | none => have := hA rfl; omega
  | some a =>
    have h0 := hc a rfl 0 (by omega)
    rw [add_zero'] at h0
    have hs := cell_spot h0
    refine ⟨a.block, a.off, by rw [← hs], cell_lt (by rw [← hs]; exact h0), fun i x hx => ?_⟩
    rw [List.getElem?_map, Option.map_eq_some_iff] at hx
    obtain ⟨n, hn, rfl⟩ := hx
    rw [List.getElem?_take] at hn
    split at hn
    · rename_i hi
      have hcell := hc a rfl i (by omega)
      rw [hs, add_at] at hcell
      have hg : Z.getD i 0 = n := by rw [List.getD_eq_getElem?_getD, hn]; rfl
      refine ⟨[.int .u8 ((UInt8.ofNat n.toNat).toNat : Int)], rfl, rfl, fun j u hu => ?_⟩
      match j, hu with
      | 0, hu =>
        have hw := byte_of_wf (hwf n (List.mem_of_getElem? hn))
        simp only [List.getElem?_cons_zero, Option.some.injEq] at hu
        subst hu
        rw [hw, ← hg]
        simpa using hcell
    · cases hn
/-- an argument that is a slice of bytes -/
theorem open_bytes {t e : TypeId} {fuel : Nat} {v : Value} {x : DataW H × List MemPlace} (ht : P.underlying t = some (.slice e)) (he : P.underlying e = some (.int .u8)) (hc : P.cellsOf e = 1)
    (h : DataW.trod enc P w 0 (fun _ => true) held fuel t [v] = some x) (hfz : ∀ b o, MemPlace.cell b o ∈ x.2 → w.frozen? ⟨b, o, none⟩ = false) :
    ∃ bs a c, v = .slice a bs.length c ∧ BytesAt (fun b => b < w.heap.size) w v bs ∧ bs.length + 1 ≤ Rows.uptoBulk x.1 := by
  rcases open_ints ht he hc h with ⟨hv, rfl⟩ | ⟨a, len, cap, zs, hv, -, hl, hm, hz, rfl, hcell, hwf⟩
  · simp only [List.cons.injEq, and_true] at hv
    subst hv
    exact ⟨[], none, 0, rfl, BytesAt.nil _ _, by simp [Rows.uptoBulk]⟩
  · simp only [List.cons.injEq, and_true] at hv
    subst hv
    simp only [if_true] at hz
    have hb := bytes_at (w := w) (A := some a) (L := len) (C := cap) (Z := zs) hl hm hz hwf (fun h => by cases h) (fun a' ha c hc => by cases ha; exact hcell c (by omega)) (fun a' ha c hc => by cases ha; exact hfz _ _ (List.mem_map.2 ⟨c, List.mem_range.2 (by omega), rfl⟩))
    have hlen : ((zs.take len).map fun n => UInt8.ofNat n.toNat).length = len := by rw [List.length_map, List.length_take]; omega
    refine ⟨_, some a, cap, by rw [hlen], hb, ?_⟩
    have h1 := bulk_len (H := H) (lits .u8 (zs.take len))
    have h2 : (lits (H := H) .u8 (zs.take len)).length = len := by simp [lits]; omega
    simp only [Rows.uptoBulk]; omega
/-- an argument that is a slice of slices of bytes -/
theorem open_rows {t e q : TypeId} {fuel : Nat} {v : Value} {x : DataW H × List MemPlace} (ht : P.underlying t = some (.slice e)) (he : P.underlying e = some (.slice q)) (hq : P.underlying q = some (.int .u8))
    (ce : P.cellsOf e = 1) (cq : P.cellsOf q = 1) (h : DataW.trod enc P w 0 (fun _ => true) held fuel t [v] = some x) (hfz : ∀ b o, MemPlace.cell b o ∈ x.2 → w.frozen? ⟨b, o, none⟩ = false) :
    ∃ l a c, v = .slice a l.length c ∧ RowsAt (fun b => b < w.heap.size) w v l ∧ rowsSum l + 1 ≤ Rows.uptoBulk x.1 := by
  rcases Deep.open_int_rows ht he hq ce cq h with ⟨hv, rfl⟩ | ⟨a, len, cap, A, L, C, Z, hv, -, hl, hm, rfl, hr⟩
  · simp only [List.cons.injEq, and_true] at hv
    subst hv
    exact ⟨[], none, 0, rfl, SliceAt.nil _ _ _ _, by simp [Rows.uptoBulk, rowsSum]⟩
  · simp only [List.cons.injEq, and_true] at hv
    subst hv
    have hlen : ((List.range len).map fun r => ((Z r).take (L r)).map fun n => UInt8.ofNat n.toNat).length = len := by simp
    have hrl : ∀ r, r < cap → (((Z r).take (L r)).map fun n => UInt8.ofNat n.toNat).length = L r := fun r hr' => by
      obtain ⟨-, h1, -, h2, -⟩ := hr r hr'
      rw [List.length_map, List.length_take]; omega
    refine ⟨(List.range len).map fun r => ((Z r).take (L r)).map fun n => UInt8.ofNat n.toNat, some a, cap, by rw [hlen], ?_, ?_⟩
    · refine ⟨some a, cap, by rw [hlen], by omega, hm, (fun h => by cases h), fun hp => ?_, fun b o j ha hj => ?_⟩
      rotate_left
      · simp only [Option.some.injEq] at ha
        subst ha
        exact hfz _ _ (List.mem_append_left _ (List.mem_map.2 ⟨j, List.mem_range.2 (by rw [hlen] at hj; omega), rfl⟩))
      have h0 := (hr 0 (by omega)).1
      rw [add_zero'] at h0
      have hs := cell_spot h0
      refine ⟨a.block, a.off, by rw [← hs], cell_lt (by rw [← hs]; exact h0), fun i y hy => ?_⟩
      rw [List.getElem?_map, Option.map_eq_some_iff] at hy
      obtain ⟨r, hr1, rfl⟩ := hy
      obtain ⟨hi, rfl⟩ := List.getElem?_eq_some_iff.1 hr1
      simp only [List.getElem_range, List.length_range] at hi ⊢
      obtain ⟨g1, g2, g3, g4, g5, g6, g7⟩ := hr i (by omega)
      rw [hs, add_at] at g1
      refine ⟨[.slice (A i) (L i) (C i)], rfl, ⟨_, rfl, bytes_at g2 g3 g4 g5 g6 (fun a' ha c hc => (g7 a' ha).2 c hc) (fun a' ha c hc => hfz _ _ (List.mem_append_right _ (List.mem_flatMap.2 ⟨i, List.mem_range.2 (by omega), by unfold Deep.intRowPlaces; rw [ha]; exact List.mem_map.2 ⟨c, List.mem_range.2 (by omega), rfl⟩⟩)))⟩, fun j u hu => ?_⟩
      match j, hu with
      | 0, hu => simp at hu; subst hu; simpa using g1
    · simp only [Rows.uptoBulk]
      have h1 := bulk_map (H := H) (fun r => Deep.intRow .u8 (A r) (L r) (Z r)) (fun r => (((Z r).take (L r)).map fun n => UInt8.ofNat n.toNat).length + 1) (List.range len) (fun r hr' => by
        have hrc : r < cap := by have := List.mem_range.1 hr'; omega
        rw [hrl r hrc]
        obtain ⟨-, g2, -, g4, -, g6, -⟩ := hr r hrc
        unfold Deep.intRow
        cases hA : A r with
        | none => have := g6 hA; simp only [Rows.uptoBulk]; omega
        | some a' =>
          simp only [Rows.uptoBulk]
          have h1 := bulk_len (H := H) (lits .u8 ((Z r).take (L r)))
          have h2 : (lits (H := H) .u8 ((Z r).take (L r))).length = L r := by simp [lits]; omega
          omega)
      have h2 : rowsSum ((List.range len).map fun r => ((Z r).take (L r)).map fun n => UInt8.ofNat n.toNat) = ((List.range len).map fun r => (((Z r).take (L r)).map fun n => UInt8.ofNat n.toNat).length + 1).sum := by
        unfold rowsSum; rw [List.map_map]; rfl
      rw [h2]
      omega
end

/-! ## The end of a law -/
section
variable {H : Type} {enc : TypeId × Value → H} {P : Program}
theorem args_stay (hl : laidOutB P = true) {W W' : World} (hb : Below W.heap.size W W') {sp : Nat → Bool} : ∀ {ts : List TypeId} {vs : List Value} {ds : List (DataW H)} {ps : List MemPlace},
    (∀ t ∈ ts, P.readableRec t = true ∧ t < P.types.size) → DataW.TrodAll enc P W 0 (fun _ => true) true ts vs ds ps → (∀ p ∈ ps, p.block < W.heap.size) → (∀ p ∈ ps, sp p.block = true) → DataW.TrodAll enc P W' 0 sp true ts vs ds ps
  | [], vs, ds, ps, _, h, _, _ => by
    obtain ⟨rfl, rfl, rfl⟩ := trodAll_nil h
    exact trodAll_mk0
  | t :: ts, vs, ds, ps, ht, h, hlt, hs => by
    obtain ⟨v, vs1, d, ds1, a, b, rfl, rfl, rfl, h1, h2⟩ := trodAll_cons h
    obtain ⟨r1, r2⟩ := ht t (List.mem_cons_self ..)
    refine trodAll_cons_mk (WideElems.Trod_stays hl r1 r2 h1 (fun x hx => hb.same (hlt x (List.mem_append_left _ hx))) (fun x hx => hs x (List.mem_append_left _ hx))) ?_
    exact args_stay hl hb (fun t' ht' => ht t' (List.mem_cons_of_mem _ ht')) h2 (fun x hx => hlt x (List.mem_append_right _ hx)) (fun x hx => hs x (List.mem_append_right _ hx))
/-- the law has told true, and nothing of what came in has turned -/
theorem law_done {f : Func} {s : ChangeSpec} {apart fresh handsOn again : Bool} {W W' : World} {args : Array Value} {ds gs : List (DataW H)} {before : List MemPlace} {tb : TypeId}
    (hl : laidOutB P = true) (hts : ∀ t ∈ f.params.toList, P.readableRec t = true ∧ t < P.types.size) (htb : P.underlying tb = some .bool) (hres : f.resultTypes = #[tb]) (hvs : s.vars = [])
    (hW : DataW.Whole enc P f.params.toList s.vars apart W args.toList ds gs before) (hfn : s.fn H (ds ++ gs) = { results := [.lit (.bool true)], args := ds }) (hb : Below W.heap.size W W') :
    s.post enc P f apart fresh handsOn again W args (.bool true) W' := by
  have hW' := hW
  obtain ⟨p, q, hA, hV, rfl, hfz, hnd⟩ := hW
  rw [hvs] at hV
  obtain ⟨rfl, rfl⟩ := trodVars_none hV
  have hlt : ∀ x ∈ p ++ [], x.block < W.heap.size := fun x hx => hW'.lt x hx
  have hold : ∀ x ∈ p ++ [], (fun b => decide (b < W.heap.size)) x.block = true := fun x hx => by simpa using hlt x hx
  have hargs : ∀ sp : Nat → Bool, (∀ x ∈ p ++ [], sp x.block = true) → DataW.TrodAll enc P W' 0 sp true f.params.toList args.toList (s.fn H (ds ++ [])).args p := fun sp hsp => by
    rw [hfn]
    exact args_stay hl hb hts hA (fun x hx => hlt x (by simpa using hx)) (fun x hx => hsp x (by simpa using hx))
  have hres' : ∀ (b : Nat) (sp : Nat → Bool) (hd : Bool), DataW.TrodAll enc P W' b sp hd f.resultTypes.toList ((Value.bool true).resultList f.resultTypes.size) (s.fn H (ds ++ [])).results [] := fun b sp hd => by
    rw [hres, hfn]
    exact trodAll_cons_mk (shut_bool htb _) trodAll_mk0
  have hvars : ∀ sp : Nat → Bool, (∀ x ∈ p ++ [], sp x.block = true) → DataW.TrodVars enc P W' sp s.vars (s.fn H (ds ++ [])).vars [] := fun sp _ => by
    rw [hfn, hvs]; rfl
  refine ⟨ds, [], p ++ [], [], p, [], hW', hres' _ _ _, hargs _ hold, hvars _ hold, World.keptBut_mono (fun x hx => ⟨hx, ?_⟩) (hb.frame (· ∈ p ++ [])), fun _ => ?_⟩
  · exact Or.inr (by simpa using hx)
  · refine ⟨ok_one hres rfl (okWide_bool_mk htb _), _, _, ([] ++ p) ++ [], ⟨[] ++ p, [], trodAll_append (hargs _ (fun _ _ => rfl)) (hres' _ _ _), hvars _ (fun _ _ => rfl), rfl, ?_, ?_⟩, ?_⟩
    · intro b off hp
      have hin : MemPlace.cell b off ∈ p ++ [] := by simpa using hp
      rw [hb.frozen (hlt _ hin)]
      exact hfz b off hin
    · intro ha
      simpa using hnd ha
    · intro x hx _
      simpa using hx
end
end Go.Proofs.Ytndkkgkcbbmnpaa
