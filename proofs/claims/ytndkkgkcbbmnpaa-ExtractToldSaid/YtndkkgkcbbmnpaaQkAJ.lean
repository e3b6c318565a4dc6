/-
  Contract of extract.Told.
  Contract of pergolaref23.Told.
  Contract of extract.Clash.
  Contract of pergolalaw23.alive.
  Every Told tells what a witness has, or nothing (the statement ExtractTold).
-/
import Derived.Test.YtndkkgkcbbmnpaaQkAI
namespace Go.Pg
theorem whole_memE (l : List (List UInt8)) (x : List UInt8) (h : x ∈ l) : x.length ≤ It.wholes (l.map .text) := by
  induction l with
  | nil => cases h
  | cons y r ih =>
    simp only [List.map_cons, It.wholes]
    rcases List.mem_cons.1 h with rfl | h
    · have := It.body_le_whole (.text x); simp only [It.body] at this; omega
    · have := ih h; omega
theorem textsI_leE (l : List (List UInt8)) : It.wholes (l.map .text) ≤ (textsI l).whole := by
  have := sz_ge (It.wholes (l.map .text))
  unfold textsI; simp only [It.whole]; omega
theorem witI_leE (N C : List (List UInt8)) : (textsI N).whole + (textsI C).whole ≤ (witI N C).whole := by
  have := sz_ge (It.wholes [textsI N, textsI C])
  unfold witI; simp only [It.whole]
  have : It.wholes [textsI N, textsI C] = (textsI N).whole + (textsI C).whole := by simp [It.wholes]
  omega
/-- what was read is small, however long the bytes are -/
theorem witDecode_smallE (B : List UInt8) (N C : List (List UInt8)) (h : witDecode B = (N, C, 0)) : N.length ≤ 16777215 ∧ C.length ≤ 16777215 ∧ (∀ x ∈ N, x.length ≤ 16777215) ∧ (∀ x ∈ C, x.length ≤ 16777215) := by
  obtain ⟨-, -, h2⟩ := witDecode_sound B N C h
  have hw := fits_body h2
  have h3 : (witI N C).body = (textsI N).whole + (textsI C).whole := by simp [witI, It.body, It.wholes]
  have h5 := textsI_leE N
  have h6 := textsI_leE C
  have h7 := It.length_le_wholes (N.map .text)
  have h8 := It.length_le_wholes (C.map .text)
  rw [List.length_map] at h7 h8
  exact ⟨by omega, by omega, fun x hx => by have := whole_memE N x hx; omega, fun x hx => by have := whole_memE C x hx; omega⟩
theorem witDecode_len (B : List UInt8) : (witDecode B).1.length ≤ 16777215 ∧ (witDecode B).2.1.length ≤ 16777215 ∧ (∀ x ∈ (witDecode B).1, x.length ≤ 16777215) ∧ (∀ x ∈ (witDecode B).2.1, x.length ≤ 16777215) := by
  rcases witDecode_cases B with ⟨N, C, h⟩ | h
  · rw [h]; exact witDecode_smallE B N C h
  · rw [h]; simp
theorem OwnList.one {G : Nat → Prop} {n : Nat} {W : World} {e : TypeId} {v : Value} {l : List (List UInt8)} (h : OwnList rowR G n W e 1 v l) : OwnAt W n e 1 (rowR G W) v l := by
  obtain ⟨F, h1, h2, h3⟩ := h
  exact h3.mono fun cs x _ hx => carriedRow.carry hx (fun b _ hb => (h1 b hb).1) (fun _ _ _ => rfl)
end Go.Pg
namespace Go.Proofs.Ytndkkgkcbbmnpaa
open Go.RowKit Go.Pg

set_option maxRecDepth 100000 in
set_option maxHeartbeats 4000000 in
theorem told_any (F : Nat → Prop) (w : World) (a : Option Addr) (n c : Nat) (bs : List UInt8) (h : BytesAt F w (.slice a n c) bs) (hn : n ≤ 140737488351232) :
    Calls Try.prog 38 #[.slice a n c] w (SortD w ((witDecode bs).1 ++ (witDecode bs).2.1)) := by
  have hnl := (BytesAt.n h).1
  obtain ⟨l1, l2, l3, l4⟩ := witDecode_len bs
  have hd := wdecodeO_any F w a n c bs h (by omega)
  obtain ⟨N, C, d, hD⟩ : ∃ N C d, witDecode bs = (N, C, d) := ⟨_, _, _, rfl⟩
  rw [hD] at l1 l2 l3 l4 hd
  rw [hD]
  simp only at l1 l2 l3 l4 ⊢
  obtain ⟨i0, hi, hz0, hz1, hz2⟩ := info_parts infoRow
  have HL1 := Lib.hid l1
  have HL2 := Lib.hid l2
  have HL3 := Lib.hid l3
  have HL4 := Lib.hid l4
  have HNL := Lib.hid hnl
  have HDEC := Lib.hid hd
  clear l1 l2 l3 l4 hnl hd hD h
  go_enter Try.func38, Try.ntmps38
  go_wp2_with fail
  refine HDEC.out.mono ?_
  rintro e w3 ⟨N0, a1, n1, c1, a2, n2, c2, rfl, hN0, ho1, ho2, hb3⟩
  try simp only at ho1 ho2 ⊢
  obtain ⟨W3, hW3⟩ : ∃ W : World, W = w3.alloc (.cells #[.slice a1 n1 c1, .slice a2 n2 c2] 24) := ⟨_, rfl⟩
  have hbx : Below w3.heap.size w3 W3 := by rw [hW3]; exact Bel.alloc (Bel.refl w3) _
  have hk3 : W3.heap[w3.heap.size]? = some (.cells #[.slice a1 n1 c1, .slice a2 n2 c2] 24 (0, 0)) := by rw [hW3]; exact heap_alloc_new w3 _
  have hsW : W3.heap.size = w3.heap.size + 1 := by rw [hW3]; simp
  obtain ⟨p0, p1⟩ := cells2 hk3
  have hO1 := (ho1.call carriedRow hbx)
  have hO2 := (ho2.call carriedRow hbx)
  have hbase : N0 ≤ W3.heap.size ∨ (a1 = none ∧ a2 = none) := by
    by_cases hle : N0 ≤ W3.heap.size
    · exact .inl hle
    · refine .inr ⟨?_, ?_⟩
      · cases a1 with
        | none => rfl
        | some ad => have := ho1.own ad.block rfl; omega
      · cases a2 with
        | none => rfl
        | some ad => have := ho2.own ad.block rfl; omega
  have hlow1 : OwnList rowR (fun b => w.heap.size ≤ b ∧ b < N0) (min N0 W3.heap.size) W3 25 1 (.slice a1 n1 c1) N := hO1.weaken (fun _ h => h) (Nat.min_le_left _ _)
  have hown := OwnList.one hlow1
  have hsrc : SliceAt (fun _ => True) W3 1 (rowR (fun b => w.heap.size ≤ b ∧ b < N0) W3) (.slice a2 n2 c2) C := (OwnList.one hO2).at (fun _ _ _ _ => trivial) (by decide)
  have hle : (N.length + C.length) * 24 ≤ 140737488355328 := by have := HL1.out; have := HL2.out; have := HNL.out; omega
  have HW3 := Lib.hid hW3
  have HOWN := Lib.hid hown
  have HSRC := Lib.hid hsrc
  have HB3 := Lib.hid (Bel.call hb3 hbx)
  have HO1 := Lib.hid hO1
  have HBASE := Lib.hid hbase
  have HN0 := Lib.hid hN0
  clear ho1 ho2 hb3 hbx hk3 hsW hO1 hO2 hlow1 hown hsrc hbase hN0 hW3
  go_wp2_with (at_builtin; (try rw [← HW3.out]); refine wpList_append_at rfl (.tmp 11) (.tmp 13) 22 rfl (min N0 W3.heap.size) 25 i0 (.slice none 0 0) 1 24 underlyingRows hi hz0 hz1 hz2 rfl (by decide) (by decide) (fun cs x hx => rowR.one cs x hx) (.slice a1 n1 c1) N rfl HOWN.out (.slice a2 n2 c2) C (fun _ => True) rfl HSRC.out hle (Nat.min_le_right _ _) ?next)
  case next =>
  intro v' w4 ho hg hm
  have hrows : RowsAt (fresh w) w4 v' (N ++ C) := by
    have h1 : OwnAt w4 (min N0 W3.heap.size) 25 1 (rowR (fresh w) w4) v' (N ++ C) := ho.mono fun cs x _ hx => carriedRow.carry hx (fun b _ hb => hb.1) (fun b hb hlt => hg.block b hlt (fun e => by
      have h2 := (HO1.out.own b e.symm).1
      have h3 := hb.2
      omega))
    exact h1.at (fun b _ hb _ => by
      have h2 := HN0.out
      have h3 := HB3.out.size
      show w.heap.size ≤ b
      have : min N0 W3.heap.size ≤ b := hb
      omega) (by decide)
  obtain ⟨a4, c4, hv4, -, -, -⟩ := ho.len
  obtain ⟨m4, hm4⟩ : ∃ m, m = (N ++ C).length := ⟨_, rfl⟩
  rw [← hm4] at hv4
  subst hv4
  have hb4 : Below w.heap.size w w4 := HB3.out.grown hg HB3.out.size (fun k hk => by have := (HO1.out.own k hk).1; have := HN0.out; omega)
  have hm4b : m4 ≤ 1099511627776 := by rw [hm4, List.length_append]; have := HL1.out; have := HL2.out; have := HNL.out; omega
  have hcall := sorted_any (fresh w) w4 a4 m4 c4 (N ++ C) hrows hm4b (fun x hx => by
    have := HNL.out
    rcases List.mem_append.1 hx with hx | hx
    · have := HL3.out x hx; omega
    · have := HL4.out x hx; omega)
  have HCALL := Lib.hid hcall
  have HB4 := Lib.hid hb4
  clear ho hg hm hrows hm4 hb4 hcall p0 p1
  go_wp2_with fail
  refine HCALL.out.mono ?_
  rintro e w5 ⟨a5, n5, c5, ts, rfl, r1, r2, hb5⟩
  have HR1 := Lib.hid r1
  have HR2 := Lib.hid r2
  have HB5 := Lib.hid hb5
  clear r1 r2 hb5
  go_wp2_with fail
  go_ret
  exact ⟨a5, n5, c5, ts, rfl, RowsAt.carry HR1.out (fun b _ hb => Nat.le_trans HB4.out.size hb) (fun _ _ _ => rfl), HR2.out, Bel.call HB4.out HB5.out⟩
end Go.Proofs.Ytndkkgkcbbmnpaa
namespace Go.Pg
open Go.RowKit
/-- texts laid in, one behind the other -/
def puts (l : List (List UInt8)) : List (List UInt8) := l.foldl put []
theorem puts_snoc (l : List (List UInt8)) (x : List UInt8) : puts (l ++ [x]) = put (puts l) x := by simp [puts]
theorem put_mem (l : List (List UInt8)) (b x : List UInt8) : x ∈ put l b ↔ x ∈ l ∨ x = b := by
  induction l with
  | nil => simp [put]
  | cons y r ih =>
    simp only [put]
    split
    · simp only [List.mem_cons, ih, or_assoc]
    · split
      · rename_i h; subst h; simp only [List.mem_cons]
        constructor
        · exact fun h => .inl h
        · rintro (h | h)
          · exact h
          · exact .inl h
      · simp only [List.mem_cons]
        constructor
        · rintro (h | h)
          · exact .inr h
          · exact .inl h
        · rintro (h | h)
          · exact .inr h
          · exact .inl h
theorem put_length (l : List (List UInt8)) (b : List UInt8) : (put l b).length ≤ l.length + 1 := by
  induction l with
  | nil => simp [put]
  | cons y r ih =>
    simp only [put]
    split
    · simp; omega
    · split <;> simp
theorem cmp_lt (x y : List UInt8) : (Lib.compareBytes x y < 0) ↔ x < y := decide_eq_decide.1 (lt_cmp x y)
theorem put_rising (l : List (List UInt8)) (b : List UInt8) (h : l.Pairwise (· < ·)) : (put l b).Pairwise (· < ·) := by
  induction l with
  | nil => simp [put]
  | cons y r ih =>
    obtain ⟨h1, h2⟩ := List.pairwise_cons.1 h
    simp only [put]
    split
    · rename_i hlt
      refine List.pairwise_cons.2 ⟨fun z hz => ?_, ih h2⟩
      rcases (put_mem _ _ _).1 hz with hz | rfl
      · exact h1 z hz
      · exact (cmp_lt _ _).1 hlt
    · rename_i hge
      split
      · exact h
      · rename_i hne
        have hb : b < y := by
          have h3 : ¬ y < b := fun e => hge ((cmp_lt _ _).2 e)
          rcases Std.lt_trichotomy (α := List UInt8) y b with h4 | h4 | h4
          · exact absurd h4 h3
          · exact absurd h4 hne
          · exact h4
        refine List.pairwise_cons.2 ⟨fun z hz => ?_, h⟩
        rcases List.mem_cons.1 hz with rfl | hz
        · exact hb
        · exact List.lt_trans hb (h1 z hz)
theorem puts_of (l m : List (List UInt8)) (h : m.Pairwise (· < ·)) : (l.foldl put m).Pairwise (· < ·) ∧ (l.foldl put m).length ≤ l.length + m.length ∧ ∀ x, x ∈ l.foldl put m ↔ x ∈ m ∨ x ∈ l := by
  induction l generalizing m with
  | nil => exact ⟨h, by simp, by simp⟩
  | cons y r ih =>
    obtain ⟨i1, i2, i3⟩ := ih (put m y) (put_rising m y h)
    have := put_length m y
    refine ⟨i1, by simp only [List.foldl_cons, List.length_cons]; omega, fun x => ?_⟩
    rw [List.foldl_cons, i3, put_mem, List.mem_cons, or_assoc]
theorem puts_rising (l : List (List UInt8)) : (puts l).Pairwise (· < ·) := (puts_of l [] List.Pairwise.nil).1
theorem puts_mem (l : List (List UInt8)) (x : List UInt8) : x ∈ puts l ↔ x ∈ l := by
  rw [puts, (puts_of l [] List.Pairwise.nil).2.2]; simp
theorem puts_small (l : List (List UInt8)) : (puts l).length ≤ l.length ∧ ∀ x, x ∈ puts l → x ∈ l := ⟨by have := (puts_of l [] List.Pairwise.nil).2.1; simpa [puts] using this, fun x hx => (puts_mem l x).1 hx⟩
/-- rising lists of the same things are the same -/
theorem rising_ext : ∀ (a b : List (List UInt8)) (_ : a.Pairwise (· < ·)) (_ : b.Pairwise (· < ·)) (_ : ∀ x, x ∈ a ↔ x ∈ b), a = b
  | [], [], _, _, _ => rfl
  | [], y :: r, _, _, h => by have := (h y).2 (List.mem_cons_self ..); cases this
  | x :: q, [], _, _, h => by have := (h x).1 (List.mem_cons_self ..); cases this
  | x :: q, y :: r, ha, hb, h => by
    obtain ⟨a1, a2⟩ := List.pairwise_cons.1 ha
    obtain ⟨b1, b2⟩ := List.pairwise_cons.1 hb
    have hxy : x = y := by
      rcases List.mem_cons.1 ((h x).1 (List.mem_cons_self ..)) with e | e
      · exact e
      · rcases List.mem_cons.1 ((h y).2 (List.mem_cons_self ..)) with e2 | e2
        · exact e2.symm
        · exact absurd (List.lt_trans (b1 x e) (a1 y e2)) (List.lt_irrefl y)
    subst hxy
    have : q = r := rising_ext q r a2 b2 fun z => by
      constructor
      · intro hz
        rcases List.mem_cons.1 ((h z).1 (List.mem_cons_of_mem _ hz)) with rfl | e
        · exact absurd (a1 z hz) (List.lt_irrefl z)
        · exact e
      · intro hz
        rcases List.mem_cons.1 ((h z).2 (List.mem_cons_of_mem _ hz)) with rfl | e
        · exact absurd (b1 z hz) (List.lt_irrefl z)
        · exact e
    rw [this]
end Go.Pg
namespace Go.Proofs.Ytndkkgkcbbmnpaa
open Go.RowKit Go.Pg

/-- rows in new memory -/
def RowsD (w : World) (l : List (List UInt8)) (e : Ending) (w' : World) : Prop :=
  ∃ a n c, e = .returned (.slice a n c) ∧ RowsAt (fresh w) w' (.slice a n c) l ∧ Below w.heap.size w w'

set_option maxRecDepth 100000 in
set_option maxHeartbeats 8000000 in
theorem rtold_any (F : Nat → Prop) (w : World) (a : Option Addr) (n c : Nat) (bs : List UInt8) (h : BytesAt F w (.slice a n c) bs) (hn : n ≤ 140737488351232) :
    Calls Try.prog 39 #[.slice a n c] w (RowsD w (puts ((witDecode bs).1 ++ (witDecode bs).2.1))) := by
  have hnl := (BytesAt.n h).1
  obtain ⟨l1, l2, l3, l4⟩ := witDecode_len bs
  have hd := rwdecode_any F w a n c bs h hn
  rw [refDecode_eq] at hd
  obtain ⟨N, C, d, hD⟩ := triple (witDecode bs)
  rw [hD] at l1 l2 l3 l4 hd
  rw [hD]
  simp only at l1 l2 l3 l4 ⊢
  have HXN : Hid (∀ x ∈ N, x.length ≤ 16777216) := Lib.hid fun x hx => by have := l3 x hx; omega
  have HXC : Hid (∀ x ∈ C, x.length ≤ 16777216) := Lib.hid fun x hx => by have := l4 x hx; omega
  have HBN : Hid (N.length ≤ 16777216) := Lib.hid (by omega)
  have HBC : Hid (C.length ≤ 16777216) := Lib.hid (by omega)
  have HDEC := Lib.hid hd
  clear l1 l2 l3 l4 hnl hd hD h
  go_enter Try.func39, Try.ntmps39
  go_wp2_with fail
  refine HDEC.out.mono ?_
  rintro e w3 ⟨a1, n1, c1, a2, n2, c2, rfl, hN0, hC0, hb3⟩
  try simp only at hN0 hC0 ⊢
  obtain ⟨W3, hW3⟩ : ∃ W : World, W = w3.alloc (.cells #[.slice a1 n1 c1, .slice a2 n2 c2] 24) := ⟨_, rfl⟩
  have hbx : Below w3.heap.size w3 W3 := by rw [hW3]; exact Bel.alloc (Bel.refl w3) _
  have hk3 : W3.heap[w3.heap.size]? = some (.cells #[.slice a1 n1 c1, .slice a2 n2 c2] 24 (0, 0)) := by rw [hW3]; exact heap_alloc_new w3 _
  have hsW : w3.heap.size < W3.heap.size := by rw [hW3]; simp
  obtain ⟨p0, p1⟩ := cells2 hk3
  have hn1 : n1 = N.length := by
    obtain ⟨a', c', hv, -⟩ := SliceAt.len hN0
    simp only [Value.slice.injEq] at hv
    exact hv.2.1
  have hn2 : n2 = C.length := by
    obtain ⟨a', c', hv, -⟩ := SliceAt.len hC0
    simp only [Value.slice.injEq] at hv
    exact hv.2.1
  have HN1 := Lib.hid hn1
  have HN2 := Lib.hid hn2
  have HRN := Lib.hid (RowsAt.below hN0 hbx)
  have HRC := Lib.hid (RowsAt.below hC0 hbx)
  have HB3 := Lib.hid (Bel.call hb3 hbx)
  have HW3 := Lib.hid hW3
  have HK3 := Lib.hid hk3
  have HSW := Lib.hid hsW
  have HWW : Hid (w.heap.size ≤ W3.heap.size) := Lib.hid HB3.out.size
  have hn1b : n1 ≤ 16777216 := by have := HBN.out; omega
  have hn2b : n2 ≤ 16777216 := by have := HBC.out; omega
  clear hN0 hC0 hb3 hbx hk3 hsW hn1 hn2 hW3
  go_wp2_with (fail)
  try rw [← HW3.out]
  go_loopw [3, 6] (fun lv i wr => ∃ (k : Nat) (a4 : Option Addr) (m4 c4 : Nat), k ≤ n1 ∧ i = .int .i64 k ∧ lv = .slice a4 m4 c4 ∧ Hid (RowsAt (fresh w) wr (.slice a4 m4 c4) (puts ([] ++ N.take k))) ∧ Hid (Below W3.heap.size W3 wr)) (fun _ i _ => n1 - (intOf i).toNat)
  case atStart => exact ⟨0, none, 0, 0, Nat.zero_le _, rfl, rfl, Lib.hid (SliceAt.nil _ _ _ _), Lib.hid (Below.refl _ _)⟩
  case round =>
    obtain ⟨k, a4, m4, c4, hk, rfl, rfl, HR, HB⟩ := hrel
    obtain ⟨p0, p1⟩ := cells2 ((HB.out.block _ HSW.out).trans HK3.out)
    by_cases hlt : k < n1
    · rcases SliceAt.split HRN.out with ⟨_, h0⟩ | ⟨b, o, rfl, -, -, -⟩
      · omega
      have hkl : k < N.length := by have := HN1.out; omega
      obtain ⟨u, c0, t0⟩ := RowsAt.cell (RowsAt.below HRN.out HB.out) k hkl
      obtain ⟨au, cu, rfl, -, -, -⟩ := SliceAt.len t0
      obtain ⟨hlen, hmem⟩ := puts_small ([] ++ N.take k)
      have hm4 : m4 = (puts ([] ++ N.take k)).length := by
        obtain ⟨a', c', hv, -⟩ := SliceAt.len HR.out
        simp only [Value.slice.injEq] at hv
        exact hv.2.1
      have hle : ([] ++ N.take k).length ≤ 33554432 := by
        have h1 := HBN.out; have h2 := HBC.out; have h3 : (N.take k).length ≤ N.length := by rw [List.length_take]; exact Nat.min_le_right ..
        simp only [List.length_append]; try simp only [List.length_nil]
        omega
      have hcall := put_any (fresh w) _ wr a4 m4 c4 (puts ([] ++ N.take k)) au _ cu N[k] HR.out t0 (by omega) (by have := HXN.out _ (List.getElem_mem hkl); omega) (fun x hx => by
        have h1 := hmem x hx
        rcases List.mem_append.1 h1 with h1 | h1
        · cases h1
        · have := HXN.out x (List.mem_of_mem_take h1); omega)
      rw [← puts_snoc, List.append_assoc, ← List.take_succ_eq_append_getElem hkl] at hcall
      obtain ⟨m, hm⟩ : ∃ m, m = (N[k]).length := ⟨_, rfl⟩
      rw [← hm] at c0 hcall
      have HCALL := Lib.hid hcall
      have hkz : (0 : Int) ≤ (k : Int) := by omega
      have hkn : (k : Int) < (n1 : Int) := by omega
      clear t0 hlen hmem hm4 hle hcall hm
      go_wp2_with fail
      refine HCALL.out.mono ?_
      rintro e w4 ⟨a5, n5, c5, rfl, hr5, hb5⟩
      have hr6 : RowsAt (fresh w) w4 (.slice a5 n5 c5) (puts ([] ++ N.take (k + 1))) := RowsAt.carry hr5 (fun b _ hb => by rcases hb with hb | hb; exact hb; exact Nat.le_trans (Nat.le_trans HWW.out HB.out.size) hb) (fun _ _ _ => rfl)
      have HR6 := Lib.hid hr6
      have HB6 := Lib.hid (Bel.call HB.out hb5)
      clear hr5 hr6 hb5 p0 p1 c0
      go_wp2_with fail
      go_roundw
      case rel => exact ⟨k + 1, a5, n5, c5, by omega, num_eq (by omega), rfl, HR6, HB6⟩
      case measure => simp [intOf]; omega
    · obtain rfl : n1 = k := by omega
      obtain ⟨n1, rfl⟩ : ∃ q, q = n1 := ⟨_, rfl⟩
      obtain ⟨wo, rfl⟩ : ∃ W, W = wr := ⟨_, rfl⟩
      go_wp2_with fail
      go_loopw [3, 7] (fun lv i wr => ∃ (k : Nat) (a4 : Option Addr) (m4 c4 : Nat), k ≤ n2 ∧ i = .int .i64 k ∧ lv = .slice a4 m4 c4 ∧ Hid (RowsAt (fresh w) wr (.slice a4 m4 c4) (puts (N ++ C.take k))) ∧ Hid (Below W3.heap.size W3 wr)) (fun _ i _ => n2 - (intOf i).toNat)
      case atStart => exact ⟨0, a4, m4, c4, Nat.zero_le _, rfl, rfl, Lib.hid (by rw [List.take_zero, List.append_nil]; have := HR.out; rw [List.nil_append, List.take_of_length_le (by have := HN1.out; omega)] at this; exact this), HB⟩
      case round =>
        clear p0 p1
        clear HR HB
        obtain ⟨k, a4, m4, c4, hk, rfl, rfl, HR, HB⟩ := hrel
        obtain ⟨p0, p1⟩ := cells2 ((HB.out.block _ HSW.out).trans HK3.out)
        by_cases hlt : k < n2
        · rcases SliceAt.split HRC.out with ⟨_, h0⟩ | ⟨b, o, rfl, -, -, -⟩
          · omega
          have hkl : k < C.length := by have := HN2.out; omega
          obtain ⟨u, c0, t0⟩ := RowsAt.cell (RowsAt.below HRC.out HB.out) k hkl
          obtain ⟨au, cu, rfl, -, -, -⟩ := SliceAt.len t0
          obtain ⟨hlen, hmem⟩ := puts_small (N ++ C.take k)
          have hm4 : m4 = (puts (N ++ C.take k)).length := by
            obtain ⟨a', c', hv, -⟩ := SliceAt.len HR.out
            simp only [Value.slice.injEq] at hv
            exact hv.2.1
          have hle : (N ++ C.take k).length ≤ 33554432 := by
            have h1 := HBN.out; have h2 := HBC.out; have h3 : (C.take k).length ≤ C.length := by rw [List.length_take]; exact Nat.min_le_right ..
            simp only [List.length_append]; try simp only [List.length_nil]
            omega
          have hcall := put_any (fresh w) _ wr a4 m4 c4 (puts (N ++ C.take k)) au _ cu C[k] HR.out t0 (by omega) (by have := HXC.out _ (List.getElem_mem hkl); omega) (fun x hx => by
            have h1 := hmem x hx
            rcases List.mem_append.1 h1 with h1 | h1
            · have := HXN.out x h1; omega
            · have := HXC.out x (List.mem_of_mem_take h1); omega)
          rw [← puts_snoc, List.append_assoc, ← List.take_succ_eq_append_getElem hkl] at hcall
          obtain ⟨m, hm⟩ : ∃ m, m = (C[k]).length := ⟨_, rfl⟩
          rw [← hm] at c0 hcall
          have HCALL := Lib.hid hcall
          have hkz : (0 : Int) ≤ (k : Int) := by omega
          have hkn : (k : Int) < (n2 : Int) := by omega
          clear t0 hlen hmem hm4 hle hcall hm
          go_wp2_with fail
          refine HCALL.out.mono ?_
          rintro e w4 ⟨a5, n5, c5, rfl, hr5, hb5⟩
          have hr6 : RowsAt (fresh w) w4 (.slice a5 n5 c5) (puts (N ++ C.take (k + 1))) := RowsAt.carry hr5 (fun b _ hb => by rcases hb with hb | hb; exact hb; exact Nat.le_trans (Nat.le_trans HWW.out HB.out.size) hb) (fun _ _ _ => rfl)
          have HR6 := Lib.hid hr6
          have HB6 := Lib.hid (Bel.call HB.out hb5)
          clear hr5 hr6 hb5 p0 p1 c0
          go_wp2_with fail
          go_roundw
          case rel => exact ⟨k + 1, a5, n5, c5, by omega, num_eq (by omega), rfl, HR6, HB6⟩
          case measure => simp [intOf]; omega
        · obtain rfl : n2 = k := by omega
          obtain ⟨n2, rfl⟩ : ∃ q, q = n2 := ⟨_, rfl⟩
          go_wp2_with fail
          go_ret
          exact ⟨a4, m4, c4, rfl, by have := HR.out; rw [List.take_of_length_le (l := C) (by have := HN2.out; omega)] at this; exact this, HB3.out.trans (HB.out.mono HWW.out)⟩
end Go.Proofs.Ytndkkgkcbbmnpaa
namespace Go.Pg
open Go.RowKit
/-- the value at a place of a slice -/
def valAt (w : World) (a : Option Addr) (j : Nat) : Option Value := a.bind fun ad => w.cell? ⟨ad.block, ad.off + j, none⟩
end Go.Pg
namespace Go.Proofs.Ytndkkgkcbbmnpaa
open Go.RowKit Go.Pg

/-- two unlike texts of one digest, in memory of their own, or none -/
def ClashD (F : Nat → Prop) (w : World) (r : Option (List UInt8 × List UInt8)) (e : Ending) (w' : World) : Prop :=
  ∃ a1 n1 c1 a2 n2 c2, e = .returned (.tuple #[.slice a1 n1 c1, .slice a2 n2 c2, .bool r.isSome]) ∧ BytesAt F w' (.slice a1 n1 c1) (r.elim [] (·.1)) ∧ BytesAt F w' (.slice a2 n2 c2) (r.elim [] (·.2)) ∧ Below w.heap.size w w'

set_option maxRecDepth 100000 in
set_option maxHeartbeats 8000000 in
theorem clash_any (F : Nat → Prop) (w : World) (a : Option Addr) (n c : Nat) (l : List (List UInt8)) (h : RowsAt F w (.slice a n c) l) (hlen : n ≤ 5864062014634) (hx : ∀ x ∈ l, x.length ≤ 140737488351232) :
    Calls Try.prog 32 #[.slice a n c] w (ClashD (fresh w) w (clash l)) := by
  have hn : n = l.length := by
    obtain ⟨a', c', hv, -⟩ := SliceAt.len h
    simp only [Value.slice.injEq] at hv
    exact hv.2.1
  obtain ⟨ZD, hZD⟩ : ∃ Z : Array Value, Z = #[.int .u8 0, .int .u8 0, .int .u8 0, .int .u8 0, .int .u8 0, .int .u8 0, .int .u8 0, .int .u8 0, .int .u8 0, .int .u8 0, .int .u8 0, .int .u8 0, .int .u8 0, .int .u8 0, .int .u8 0, .int .u8 0, .int .u8 0, .int .u8 0, .int .u8 0, .int .u8 0, .int .u8 0, .int .u8 0, .int .u8 0, .int .u8 0, .int .u8 0, .int .u8 0, .int .u8 0, .int .u8 0, .int .u8 0, .int .u8 0, .int .u8 0, .int .u8 0] := ⟨_, rfl⟩
  have hZs : ZD.size = 32 := by rw [hZD]; rfl
  obtain ⟨R, hR⟩ : ∃ R, R = clash l := ⟨_, rfl⟩
  obtain ⟨i0, hi, hz0, hz1, hz2⟩ := info_parts infoU8
  have hmm := @run_makeMap Try.prog
  have HN := Lib.hid hn
  have HX := Lib.hid hx
  have HZD := Lib.hid hZD
  have HZS := Lib.hid hZs
  have HR := Lib.hid hR
  have HH := Lib.hid h
  rw [← hR]
  clear hn hx hZD hZs hR h
  go_enter Try.func32, Try.ntmps32
  go_wp2
  go_loopw [14] (fun i wr => ∃ k : Nat, k ≤ n ∧ i = .int .i64 k ∧ Hid (R = clashFrom (l.take k) (l.drop k)) ∧ Hid (Known wr w.heap.size k fun d => (firstOf (l.take k) d).bind (valAt w a)) ∧ Hid (Below w.heap.size w wr)) (fun i _ => n - (intOf i).toNat)
  case atStart =>
    refine ⟨0, Nat.zero_le _, rfl, Lib.hid (by rw [HR.out]; rfl), Lib.hid ?_, Lib.hid (Bel.alloc (Bel.refl w) _)⟩
    exact (Known.made w).ext fun d _ => by simp [firstOf]
  case round =>
    obtain ⟨k, hk, rfl, HC, HKN0, HB⟩ := hrel
    have hN := HN.out
    by_cases hlt : k < n
    · rcases SliceAt.split HH.out with ⟨_, h0⟩ | ⟨b, o, rfl, -, -, -⟩
      · omega
      have hkl : k < l.length := by omega
      have hwr := RowsAt.below HH.out HB.out
      obtain ⟨u, c0, t0⟩ := RowsAt.cell hwr k hkl
      have c0w : w.cell? ⟨b, o + k, none⟩ = some u := by
        obtain ⟨u', c0', -⟩ := RowsAt.cell HH.out k hkl
        have := (cell_below HB.out c0').symm.trans c0
        rw [c0', this]
      have hnx := clashFrom_next l k hkl
      have htk : l.take (k + 1) = l.take k ++ [l[k]] := List.take_succ_eq_append_getElem hkl
      have hxl := HX.out l[k] (List.getElem_mem _)
      obtain ⟨x, hxx⟩ : ∃ x, x = l[k] := ⟨_, rfl⟩
      rw [← hxx] at hnx htk hxl t0
      obtain ⟨au, cu, rfl, -, -, -⟩ := SliceAt.len t0
      obtain ⟨m, hm⟩ : ∃ m, m = x.length := ⟨_, rfl⟩
      rw [← hm] at t0 c0 c0w hxl
      obtain ⟨D, hD⟩ : ∃ D, D = digestOf x := ⟨_, rfl⟩
      have hDl : D.length = 32 := by rw [hD]; exact digestOf_length _
      rw [← hD] at hnx
      have hcall := dof_any F wr au m cu x t0 hxl
      rw [← hD] at hcall
      obtain ⟨f, hf⟩ : ∃ f : List UInt8 → Option Value, f = fun d => (firstOf (l.take k) d).bind (valAt w (some ⟨b, o, none⟩)) := ⟨_, rfl⟩
      rw [← hf] at HKN0
      have hold : ∀ y, (¬ (f y = none ∧ y = D)) → (firstOf (l.take (k + 1)) y).bind (valAt w (some ⟨b, o, none⟩)) = f y := fun y hy => by
        have hlt' : (l.take k).length = k := by rw [List.length_take]; omega
        rw [htk, firstOf_snoc, hlt', ← hD]
        rw [hf] at hy ⊢
        dsimp only at hy ⊢
        obtain ⟨q, hq⟩ : ∃ q, q = firstOf (l.take k) y := ⟨_, rfl⟩
        rw [← hq] at hy ⊢
        cases q with
        | none => rw [if_neg (fun e => hy ⟨rfl, e.symm⟩)]; rfl
        | some j => rfl
      have hnew : f D = none → (firstOf (l.take (k + 1)) D).bind (valAt w (some ⟨b, o, none⟩)) = some (.slice au m cu) := fun hy => by
        have hlt' : (l.take k).length = k := by rw [List.length_take]; omega
        rw [htk, firstOf_snoc, hlt', ← hD, if_pos rfl]
        rw [hf] at hy
        dsimp only at hy
        obtain ⟨q, hq⟩ : ∃ q, q = firstOf (l.take k) D := ⟨_, rfl⟩
        rw [← hq] at hy ⊢
        cases q with
        | none => exact c0w
        | some j =>
          obtain ⟨hj, -⟩ := firstOf_some _ _ _ hq.symm
          rw [hlt'] at hj
          obtain ⟨uj, cj, -⟩ := RowsAt.cell HH.out j (by omega)
          have : (some j).bind (valAt w (some ⟨b, o, none⟩)) = some uj := cj
          rw [this] at hy
          cases hy
      have HCALL := Lib.hid hcall
      have HID := Lib.hid (show (Try.prog.info? 37).map (·.size) = some (cellsOf D).size by rw [cellsOf_size, hDl]; kernel_rfl)
      have HSD := Lib.hid (show ZD.size = (cellsOf D).size by rw [HZS.out, cellsOf_size, hDl])
      have HOD := Lib.hid (show (cellsOf D).all (·.oneCell') = true by
        apply Array.all_eq_true_iff_forall_mem.2
        intro v hv
        simp only [cellsOf, List.mem_toArray, List.mem_map] at hv
        obtain ⟨y, -, rfl⟩ := hv
        rfl)
      have HNX := Lib.hid hnx
      have HTK := Lib.hid htk
      have HM := Lib.hid hm
      have HOLD := Lib.hid hold
      have HNEW := Lib.hid hnew
      have HT0 := Lib.hid t0
      have HFE := Lib.hid hf
      have HXX := Lib.hid hxx
      have hkz : (0 : Int) ≤ (k : Int) := by omega
      have hkn : (k : Int) < (n : Int) := by omega
      clear hwr c0w hnx htk hxl hm hD hcall hold hnew hf t0 hxx hN
      go_wp2_with fail
      refine HCALL.out.mono ?_
      rintro e w1 ⟨rfl, hb1⟩
      obtain ⟨W1, hW1⟩ : ∃ W : World, W = (w1.alloc (.cells ZD 37)).setRow w1.heap.size (cellsOf D) := ⟨_, rfl⟩
      have hz1' : (w1.alloc (.cells ZD 37)).heap[w1.heap.size]? = some (.cells ZD 37 (0, 0)) := heap_alloc_new w1 _
      have hk1 : W1.heap[w1.heap.size]? = some (.cells (cellsOf D) 37 (0, 0)) := by rw [hW1]; exact setRow_heap _ _ _ _ _ _ hz1'
      have hbW : Below wr.heap.size wr W1 := Bel.call hb1 (by rw [hW1]; exact below_setRow (Bel.alloc (Bel.refl w1) _) (Nat.le_refl _) _)
      have HKN := Lib.hid (HKN0.out.below hbW)
      have HZ1 := Lib.hid hz1'
      have HK1 := Lib.hid hk1
      have HW1 := Lib.hid hW1
      have HBW := Lib.hid (HB.out.trans (hbW.mono HB.out.size))
      have HT1 := Lib.hid (BytesAt.below HT0.out hbW)
      clear hz1' hk1 hW1 hbW hb1
      cases hfd : f D with
      | none =>
        have HF := Lib.hid hfd
        have hnone : firstOf (l.take k) D = none := by
          rw [HFE.out] at hfd
          cases hq : firstOf (l.take k) D with
          | none => rfl
          | some j =>
            try dsimp only at hfd
            rw [hq] at hfd
            obtain ⟨hj, -⟩ := firstOf_some _ _ _ hq
            rw [List.length_take] at hj
            obtain ⟨uj, cj, -⟩ := RowsAt.cell HH.out j (by omega)
            have : (some j).bind (valAt w (some ⟨b, o, none⟩)) = some uj := cj
            rw [this] at hfd
            cases hfd
        have hC2 : R = clashFrom (l.take (k + 1)) (l.drop (k + 1)) := by rw [HC.out, HNX.out, hnone]
        have HC2 := Lib.hid hC2
        clear hfd hnone hC2
        go_wp2_with (first
          | (rw [← HZD.out]; (with_reducible refine wpL_store_row 37 (.tmp 8) (.tmp 19) w1.heap.size (cellsOf D) 37 ZD ?_ ⟨HZ1.out, HID.out, HSD.out, HOD.out⟩ ?_); (exact ⟨rfl, rfl, rfl, rfl⟩); rw [← HW1.out])
          | ((with_reducible refine wpL_load_row 37 (.tmp 8) w1.heap.size (cellsOf D) 37 (.array 32 5) ?_ ⟨HK1.out, underlyingDig, rfl, HID.out⟩ ?_); (exact ⟨rfl, rfl, rfl⟩))
          | ((with_reducible refine wpL_lookup_known (.tmp 21) (.tmp 22) w.heap.size k f D ?_ ⟨HKN.out, hDl⟩ ?_); (exact ⟨rfl, rfl, rfl, rfl⟩); rw [HF.out]; simp only [Option.getD_none, Option.isSome_none, Option.getD_some, Option.isSome_some])
          | ((with_reducible refine wpL_update_known (.tmp 28) (.tmp 29) (.tmp 30) w.heap.size k f D (.slice au m cu) ?_ ⟨HKN.out, hDl, (show k < maxLen by unfold maxLen; omega)⟩ ?_); (exact ⟨rfl, rfl, rfl, rfl, rfl⟩); intro w2 hk2 hg2))
        have HKN2 := Lib.hid (hk2.ext (g := fun d => (firstOf (l.take (k + 1)) d).bind (valAt w (some ⟨b, o, none⟩))) fun y _ => by
          by_cases hy : y = D
          · subst hy; rw [if_pos rfl]; exact (HNEW.out HF.out).symm
          · rw [if_neg hy]; exact (HOLD.out y (fun e => hy e.2)).symm)
        have HB2 := Lib.hid (HBW.out.grown hg2 HBW.out.size (fun j hj => by cases hj; exact Nat.le_refl _))
        clear hk2 hg2
        go_roundw
        case rel => exact ⟨k + 1, by omega, num_eq (by omega), HC2, HKN2, HB2⟩
        case measure => simp [intOf]; omega
      | some uj =>
        have HF := Lib.hid hfd
        have hsome : ∃ j, firstOf (l.take k) D = some j ∧ j < k ∧ w.cell? ⟨b, o + j, none⟩ = some uj := by
          rw [HFE.out] at hfd
          cases hq : firstOf (l.take k) D with
          | none => (try dsimp only at hfd); rw [hq] at hfd; cases hfd
          | some j =>
            try dsimp only at hfd
            rw [hq] at hfd
            obtain ⟨hj, -⟩ := firstOf_some _ _ _ hq
            rw [List.length_take] at hj
            exact ⟨j, rfl, by omega, hfd⟩
        obtain ⟨j, hj1, hj2, hj3⟩ := hsome
        obtain ⟨uj', cj, tj⟩ := RowsAt.cell HH.out j (by omega)
        obtain rfl : uj' = uj := by rw [cj] at hj3; exact Option.some.inj hj3
        have hgd : l.getD j [] = l[j]'(by omega) := by rw [List.getD_eq_getElem?_getD, List.getElem?_eq_getElem (by omega)]; rfl
        obtain ⟨y, hy⟩ : ∃ y, y = l[j]'(by omega) := ⟨_, rfl⟩
        rw [← hy] at hgd tj
        obtain ⟨aj, cj', rfl, -, -, -⟩ := SliceAt.len tj
        obtain ⟨mj, hmj⟩ : ∃ m, m = y.length := ⟨_, rfl⟩
        have hyl : y.length ≤ 140737488351232 := by rw [hy]; exact HX.out _ (List.getElem_mem _)
        have hxl : x.length ≤ 140737488351232 := by rw [HXX.out]; exact HX.out _ (List.getElem_mem _)
        rw [← hmj] at tj HF
        have HTJ := Lib.hid (BytesAt.below tj HBW.out)
        have hnx2 := HNX.out
        rw [hj1] at hnx2
        simp only [hgd] at hnx2
        have HNX2 := Lib.hid hnx2
        have HSAME : Hid (∀ z, (firstOf (l.take (k + 1)) z).bind (valAt w (some ⟨b, o, none⟩)) = f z) := Lib.hid fun z => HOLD.out z (fun e => by
          have e1 := e.1
          rw [e.2, HF.out] at e1
          cases e1)
        have HYL := Lib.hid hyl
        have HXL := Lib.hid hxl
        clear hfd hj1 hj2 hj3 cj tj hgd hy hnx2 hyl hxl hmj
        go_wp2_with (first
          | (rw [← HZD.out]; (with_reducible refine wpL_store_row 37 (.tmp 8) (.tmp 19) w1.heap.size (cellsOf D) 37 ZD ?_ ⟨HZ1.out, HID.out, HSD.out, HOD.out⟩ ?_); (exact ⟨rfl, rfl, rfl, rfl⟩); rw [← HW1.out])
          | ((with_reducible refine wpL_load_row 37 (.tmp 8) w1.heap.size (cellsOf D) 37 (.array 32 5) ?_ ⟨HK1.out, underlyingDig, rfl, HID.out⟩ ?_); (exact ⟨rfl, rfl, rfl⟩))
          | ((with_reducible refine wpL_lookup_known (.tmp 21) (.tmp 22) w.heap.size k f D ?_ ⟨HKN.out, hDl⟩ ?_); (exact ⟨rfl, rfl, rfl, rfl⟩); rw [HF.out]; simp only [Option.getD_none, Option.isSome_none, Option.getD_some, Option.isSome_some]))
        refine (bEqual_any F F W1 (.slice au m cu) (.slice aj mj cj') x y HT1.out HTJ.out).mono ?_
        rintro e w2 ⟨rfl, rfl⟩
        by_cases hxy : x = y
        · subst hxy
          rw [beq_self_eq_true]
          have hC2 : R = clashFrom (l.take (k + 1)) (l.drop (k + 1)) := by rw [HC.out, HNX2.out, if_pos rfl]
          have HC2 := Lib.hid hC2
          have HKN2 := Lib.hid ((HKN.out.ext (g := fun d => (firstOf (l.take (k + 1)) d).bind (valAt w (some ⟨b, o, none⟩))) fun z _ => (HSAME.out z).symm))
          clear hC2
          go_wp2_with fail
          go_roundw
          case rel => exact ⟨k + 1, by omega, num_eq (by omega), HC2, (by
            obtain ⟨D', g1, g2⟩ := HKN2.out
            exact Lib.hid ⟨D', g1.mono (Nat.le_succ _), g2⟩), HBW⟩
          case measure => simp [intOf]; omega
        · have hbe : (x == y) = false := by simp [hxy]
          rw [hbe]
          have hRR : R = some (y, x) := by rw [HC.out, HNX2.out, if_neg (fun e => hxy e.symm)]
          have HRR := Lib.hid hRR
          have hle1 : (([] : List UInt8).length + y.length) * 1 ≤ 140737488355328 := by have := HYL.out; simp; omega
          have hle2 : (([] : List UInt8).length + x.length) * 1 ≤ 140737488355328 := by have := HXL.out; simp; omega
          clear hxy hbe hRR
          go_wp2_with (at_builtin; refine wpList_append_at rfl (.const (.slice none 0 0)) (.tmp 35) 25 rfl W1.heap.size 5 i0 (.int .u8 0) 1 1 underlying25 hi hz0 hz1 hz2 rfl (by decide) (by decide) byteR.one (.slice none 0 0) [] rfl (OwnAt.nil _ _ _ _ _) (.slice aj mj cj') y F rfl HTJ.out hle1 (Nat.le_refl _) ?next)
          case next =>
          intro v1 w2 ho1 hg1 hm1
          obtain ⟨a1, c1, rfl, -, -, -⟩ := ho1.len
          have hat1 := ho1.at (F := fun b => W1.heap.size ≤ b) (fun _ _ h _ => h) (by decide)
          try simp only [List.nil_append] at hat1 ⊢
          obtain ⟨q1, hq1⟩ : ∃ q, q = y.length := ⟨_, rfl⟩
          rw [← hq1] at hat1 ⊢
          have hb2 : Below W1.heap.size W1 w2 := (Bel.refl W1).grown hg1 (Nat.le_refl _) (fun j hj => by cases hj)
          have HAT1 := Lib.hid hat1
          have HB2 := Lib.hid hb2
          have HT2 := Lib.hid (BytesAt.below HT1.out hb2)
          clear ho1 hg1 hm1 hat1 hb2 hq1
          go_wp2_with (at_builtin; refine wpList_append_at rfl (.const (.slice none 0 0)) (.tmp 37) 25 rfl w2.heap.size 5 i0 (.int .u8 0) 1 1 underlying25 hi hz0 hz1 hz2 rfl (by decide) (by decide) byteR.one (.slice none 0 0) [] rfl (OwnAt.nil _ _ _ _ _) (.slice au m cu) x F rfl HT2.out hle2 (Nat.le_refl _) ?next2)
          case next2 =>
          intro v2 w3 ho2 hg2 hm2
          obtain ⟨a2, c2, rfl, -, -, -⟩ := ho2.len
          have hat2 := ho2.at (F := fun b => w2.heap.size ≤ b) (fun _ _ h _ => h) (by decide)
          try simp only [List.nil_append] at hat2 ⊢
          obtain ⟨q2, hq2⟩ : ∃ q, q = x.length := ⟨_, rfl⟩
          rw [← hq2] at hat2 ⊢
          have hb3 : Below w2.heap.size w2 w3 := (Bel.refl w2).grown hg2 (Nat.le_refl _) (fun j hj => by cases hj)
          have HAT2 := Lib.hid hat2
          have HAT1' := Lib.hid (BytesAt.below HAT1.out hb3)
          have HB3 := Lib.hid hb3
          have hs1 := HBW.out.size
          have hs2 := HB2.out.size
          clear ho2 hg2 hm2 hat2 hb3 hq2
          go_wp2_with fail
          refine bodyPost_ret (v := .tuple #[.slice a1 q1 c1, .slice a2 q2 c2, .bool true]) (by simp [results, Try.results32, go_sem]) rfl ?_
          rw [HRR.out]
          exact ⟨a1, q1, c1, a2, q2, c2, rfl, BytesAt.carry HAT1'.out (fun b _ hb => Nat.le_trans hs1 hb) (fun _ _ _ => rfl), BytesAt.carry HAT2.out (fun b _ hb => Nat.le_trans (Nat.le_trans hs1 hs2) hb) (fun _ _ _ => rfl), Bel.call (Bel.call HBW.out HB2.out) HB3.out⟩
    · obtain rfl : n = k := by omega
      have hRR : R = none := by rw [HC.out, hN]; exact clashFrom_end l
      subst hRR
      clear hN
      go_wp2_with fail
      refine bodyPost_ret (v := .tuple #[.slice none 0 0, .slice none 0 0, .bool false]) (by simp [results, Try.results32, go_sem]) rfl ?_
      exact ⟨none, 0, 0, none, 0, 0, rfl, BytesAt.nil _ _, BytesAt.nil _ _, HB.out⟩
end Go.Proofs.Ytndkkgkcbbmnpaa
namespace Go.Pg
open Go.RowKit
theorem witEnc_ex : witEncode [[1], [2]] [[1]] = ([0xc5, 0xc2, 1, 2, 0xc1, 1], 0) := by
  simp [witEncode, rising, It.encode, witI, textsI, It.look, It.looks, It.body, It.wholes, It.whole, sz, It.enc, It.encs, headB, plainB, Lib.compareBytes]
theorem witDec_ex : witDecode [0xc5, 0xc2, 1, 2, 0xc1, 1] = ([[1], [2]], [[1]], 0) := witDecode_back _ _ _ witEnc_ex
theorem dig_ne : digestOf [1] ≠ digestOf [2] := by
  unfold digestOf
  rw [absorb_step _ (padOf [1] _) (by decide), absorb_step _ (padOf [2] _) (by decide), absorb_done _ _ (by decide), absorb_done _ _ (by decide)]
  decide +kernel
theorem clash_ex : clash [[1], [2], [1]] = none := by
  have h1 : firstOf [] (digestOf [1]) = none := rfl
  have h2 : firstOf [[1]] (digestOf [2]) = none := (firstOf_none _ _).2 (by simpa using dig_ne)
  have h3 : firstOf [[1], [2]] (digestOf [1]) = some 0 := by simp [firstOf, List.findIdx?_cons]
  simp [clash, clashFrom, h1, h2, h3]
end Go.Pg
namespace Go.Proofs.Ytndkkgkcbbmnpaa
open Go.RowKit Go.Pg

set_option maxRecDepth 100000 in
set_option maxHeartbeats 4000000 in
theorem alive23_any (w : World) : Calls Try.prog 34 #[] w fun e w' => e = .returned (.bool true) ∧ Below w.heap.size w w' := by
  go_enter Try.func34, Try.ntmps34
  go_wp2_with fail
  have hbytes : BytesAt (fun _ => True) (w.alloc (.cells #[.int .u8 197, .int .u8 194, .int .u8 1, .int .u8 2, .int .u8 193, .int .u8 1] 5)) (.slice (some ⟨w.heap.size, 0, none⟩) 6 6) [0xc5, 0xc2, 1, 2, 0xc1, 1] :=
    (OwnAt.lit w 5 #[.int .u8 197, .int .u8 194, .int .u8 1, .int .u8 2, .int .u8 193, .int .u8 1] [0xc5, 0xc2, 1, 2, 0xc1, 1] (by simp) (by decide)).at (fun _ _ _ _ => trivial) (by decide)
  refine (told_any (fun _ => True) _ _ 6 6 _ hbytes (by omega)).mono ?_
  rintro e w1 ⟨a1, n1, c1, ts, rfl, hr, hso, hb1⟩
  rw [witDec_ex] at hso
  obtain rfl : ts = [[1], [2]] := rising_ext ts [[1], [2]] hso.1 (by decide) (fun x => by rw [hso.2]; simp; exact ⟨fun h => by rcases h with h | h | h <;> simp [h], fun h => by rcases h with h | h <;> simp [h]⟩)
  obtain ⟨a1', c1', hv, -, -, -⟩ := SliceAt.len hr
  simp only [Value.slice.injEq] at hv
  obtain ⟨rfl, rfl, rfl⟩ := hv
  simp only [List.length_cons, List.length_nil, Nat.zero_add, Nat.reduceAdd] at hr ⊢
  have HR := Lib.hid hr
  have HB1 := Lib.hid (Bel.call (Bel.alloc (Bel.refl w) _) hb1)
  clear hbytes hso hr hb1
  go_wp2_with fail
  obtain ⟨W0, hW0⟩ : ∃ W : World, W = ((w1.alloc (.cells #[.int .u8 1] 5)).alloc (.cells #[.int .u8 2] 5)).alloc (.cells #[.int .u8 1] 5) := ⟨_, rfl⟩
  have hs0 : W0.heap.size = w1.heap.size + 3 := by rw [hW0]; simp
  have hb0 : Below w1.heap.size w1 W0 := by rw [hW0]; exact Bel.alloc (Bel.alloc (Bel.alloc (Bel.refl w1) _) _) _
  have g1 : BytesAt (fun _ => True) W0 (.slice (some ⟨w1.heap.size, 0, none⟩) 1 1) [1] := by
    rw [hW0]; exact BytesAt.below (BytesAt.below (byte_new w1 5 1 1 rfl (by omega)) (Bel.alloc (Bel.refl _) _)) (Bel.alloc (Bel.refl _) _)
  have g2 : BytesAt (fun _ => True) W0 (.slice (some ⟨w1.heap.size + 1, 0, none⟩) 1 1) [2] := by
    rw [hW0]
    have := byte_new (w1.alloc (.cells #[.int .u8 1] 5)) 5 2 2 rfl (by omega)
    rw [World.size_alloc] at this
    exact BytesAt.below this (Bel.alloc (Bel.refl _) _)
  have g3 : BytesAt (fun _ => True) W0 (.slice (some ⟨w1.heap.size + 2, 0, none⟩) 1 1) [1] := by
    rw [hW0]
    have := byte_new ((w1.alloc (.cells #[.int .u8 1] 5)).alloc (.cells #[.int .u8 2] 5)) 5 1 1 rfl (by omega)
    rw [World.size_alloc, World.size_alloc] at this
    exact this
  have one : ∀ (u : Value) (x : List UInt8), BytesAt (fun _ => True) W0 u x → Go.Pg.Rows 1 (rowR (fun _ => True) W0) [u] [x] := fun u x g => Go.Pg.Rows.one ⟨u, rfl, g⟩ rfl
  have hrow : Go.Pg.Rows 1 (rowR (fun _ => True) W0) [.slice (some ⟨w1.heap.size, 0, none⟩) 1 1, .slice (some ⟨w1.heap.size + 1, 0, none⟩) 1 1, .slice (some ⟨w1.heap.size + 2, 0, none⟩) 1 1] [[1], [2], [1]] :=
    ((one _ _ g1).append (one _ _ g2)).append (one _ _ g3)
  have hrows := rows_alloc carriedRow (F' := fun _ => True) hrow (by decide) (fun _ _ _ => trivial) trivial 25
  rw [hs0] at hrows
  have hcl := clash_any (fun _ => True) _ _ 3 3 [[1], [2], [1]] hrows (by omega) (by simp)
  rw [clash_ex] at hcl
  have HCL := Lib.hid hcl
  have HW0 := Lib.hid hW0
  have HB0 := Lib.hid hb0
  clear hcl hrows hrow one g1 g2 g3 hs0 hb0 hW0
  try rw [← HW0.out]
  refine HCL.out.mono ?_
  rintro e w2 ⟨b1, m1, d1, b2, m2, d2, rfl, -, -, hb2⟩
  simp only [Option.isSome_none]
  have hb3 : Below w1.heap.size w1 w2 := Bel.call (Bel.alloc HB0.out _) hb2
  have hr2 := RowsAt.below HR.out hb3
  have HB3 := Lib.hid (Bel.call HB1.out hb3)
  rcases SliceAt.split hr2 with ⟨h0, -⟩ | ⟨b, o, rfl, -, -, -⟩
  · cases h0
  obtain ⟨u0, q0, t0⟩ := RowsAt.cell hr2 0 (by simp)
  obtain ⟨u1, q1, t1⟩ := RowsAt.cell hr2 1 (by simp)
  simp only [List.getElem_cons_zero, List.getElem_cons_succ, Nat.add_zero] at q0 q1 t0 t1
  obtain ⟨x0, y0, rfl, -, -, -⟩ := SliceAt.len t0
  obtain ⟨x1, y1, rfl, -, -, -⟩ := SliceAt.len t1
  have s0 := run_string_at (P := Try.prog) t0 25 5 9 Try.underlying25 Try.underlying5 Try.underlying9
  have s1 := run_string_at (P := Try.prog) t1 25 5 9 Try.underlying25 Try.underlying5 Try.underlying9
  simp only [List.length_cons, List.length_nil, Nat.zero_add] at s0 s1 q0 q1
  clear t0 t1 hr2 hb2 hb3
  go_wp2_with fail
  go_ret
  exact ⟨rfl, HB3.out⟩
end Go.Proofs.Ytndkkgkcbbmnpaa
namespace Go.Pg
open Go.RowKit
theorem bel_drewN {w w' : World} (h : ∃ m, w' = w.drewN m) : Below w.heap.size w w' := by
  obtain ⟨m, rfl⟩ := h
  exact ⟨rfl, rfl, rfl, Nat.le_refl _, fun _ _ => rfl⟩
end Go.Pg
namespace Go.Proofs.Ytndkkgkcbbmnpaa
open Go.ChangeShapes Go.WideShapes Go.ChangeAt Go.RowKit Go.Pg

set_option maxRecDepth 100000 in
set_option maxHeartbeats 4000000 in
theorem told_walk (F : Nat → Prop) (w : World) (ab : Option Addr) (nb cb : Nat) (B : List UInt8) (hB : BytesAt F w (.slice ab nb cb) B) (hBl : B.length ≤ 140737488351232) :
    Calls Try.prog 12 #[.slice ab nb cb] w fun e w' => e = .returned (.bool true) ∧ Below w.heap.size w w' := by
  have hnb := (BytesAt.n hB).1
  have hnbl : nb ≤ 140737488351232 := by omega
  obtain ⟨l1, l2, -, -⟩ := witDecode_len B
  have HB := Lib.hid hB
  have HL1 := Lib.hid l1
  have HL2 := Lib.hid l2
  have HBL := Lib.hid hBl
  clear hB hnb l1 l2 hBl
  go_enter Try.func12, Try.ntmps12
  go_wp2_with fail
  refine (alive23_any w).mono ?_
  rintro e w1 ⟨rfl, hb1⟩
  have HB1 := Lib.hid hb1
  clear hb1
  go_wp2_with fail
  refine (told_any F w1 ab nb cb B (BytesAt.below HB.out HB1.out) (by omega)).mono ?_
  rintro e w2 ⟨a1, n1, c1, ts, rfl, hr1, hso, hb2⟩
  have HB2 := Lib.hid (Bel.call HB1.out hb2)
  have HR1 := Lib.hid hr1
  have HSO := Lib.hid hso
  clear hr1 hso hb2
  go_wp2_with fail
  refine (rtold_any F w2 ab nb cb B (BytesAt.below HB.out HB2.out) hnbl).mono ?_
  rintro e w3 ⟨a2, n2, c2, rfl, hr2, hb3⟩
  have hts : ts = puts ((witDecode B).1 ++ (witDecode B).2.1) := rising_ext _ _ HSO.out.1 (puts_rising _) (fun x => by rw [HSO.out.2, puts_mem])
  have hlen : ts.length ≤ 1152921504606846976 := by
    rw [hts]
    have h1 := (puts_small ((witDecode B).1 ++ (witDecode B).2.1)).1
    rw [List.length_append] at h1
    have := HL1.out; have := HL2.out; have := HBL.out
    omega
  rw [← hts] at hr2
  have hcall := sameAll_any (fresh w1) (fresh w2) w3 (.slice a1 n1 c1) (.slice a2 n2 c2) ts ts (RowsAt.below HR1.out hb3) hr2 hlen
  rw [decide_eq_true rfl] at hcall
  have HCALL := Lib.hid hcall
  have HB3 := Lib.hid (Bel.call HB2.out hb3)
  clear hcall hlen hts hr2 hb3
  go_wp2_with fail
  refine HCALL.out.mono ?_
  rintro e w4 ⟨rfl, hq⟩
  have HB4 := Lib.hid (Bel.call HB3.out (bel_drewN hq))
  clear hq
  go_wp2_with fail
  go_ret
  exact ⟨rfl, HB4.out⟩
end Go.Proofs.Ytndkkgkcbbmnpaa
