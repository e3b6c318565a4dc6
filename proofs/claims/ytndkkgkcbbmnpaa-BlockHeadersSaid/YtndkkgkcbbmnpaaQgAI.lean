/-
  Contract of pergolaref02.Bytes.
  Contract of pergolaref02.size.
  Contract of pergolaref02.walk.
  Contract of pergolaref02.Encode.
  Contracts of pergolaref01.Ahead, pergolaref21.rises.
  Contract of pergolaref21.Encode.
-/
import Derived.Test.YtndkkgkcbbmnpaaQgAH
namespace Go.Proofs.Ytndkkgkcbbmnpaa
open Go.RowKit Go.Pg

theorem head_int (b m : Int) (base n : Nat) (w : World) (hb : b = base) (hm : m = n) (h1 : base ≤ 192) (hn : n < 16777216) :
    Calls Try.prog 93 #[.int .i64 b, .int .i64 m] w (Fresh w 5 1 byteR (headB base n)) := by
  subst hb; subst hm; exact head_any base n w h1 hn

set_option maxRecDepth 100000 in
set_option maxHeartbeats 1000000 in
theorem rbytes_step {d : Nat} (hd0 : RBodyC d) : RBytesC d := by
  intro F w x l v1 v2 h hx
  obtain ⟨hl, a1, n1, c1, a2, n2, c2, rfl, rfl, -, -⟩ := ItemAt.form h
  obtain ⟨i0, hi, hz0, hz1, hz2⟩ := info_parts infoU8
  obtain ⟨W0, hW0⟩ : ∃ W0, W0 = w.alloc (.cells #[.bool l, .slice a1 n1 c1, .slice a2 n2 c2] 65) := ⟨_, rfl⟩
  have hb0 : Below w.heap.size w W0 := by rw [hW0]; exact Bel.alloc (Bel.refl w) _
  have hk0 : W0.heap[w.heap.size]? = some (.cells #[.bool l, .slice a1 n1 c1, .slice a2 n2 c2] 65 (0, 0)) := by rw [hW0]; exact heap_alloc_new w _
  have h0 := h.below hb0
  have HD := Lib.hid hd0
  have HX := Lib.hid hx
  have HW0 := Lib.hid hW0
  have hsz0 := (Array.getElem?_eq_some_iff.1 hk0).1
  have hbl := It.bodyB_length x
  obtain ⟨B, hB⟩ : ∃ B, B = x.bodyB := ⟨_, rfl⟩
  obtain ⟨n, hn⟩ : ∃ n, n = B.length := ⟨_, rfl⟩
  rw [← hB, ← hn] at hbl
  have hnb : n ≤ 16777215 := by omega
  have hnb' : (n : Int) ≤ 16777215 := by omega
  have HN := Lib.hid hn
  have HB := Lib.hid hB
  have HBL := Lib.hid hbl
  have HK0 := Lib.hid hk0
  have HB0 := Lib.hid hb0
  have HNB := Lib.hid hnb
  clear hd0 hx hW0 h hn hB hbl hk0 hb0 hnb
  by_cases hp : x.plain = true
  · obtain ⟨c, hc⟩ : ∃ c : UInt8, x = .text [c] ∧ c.toNat < 128 := by
      cases x with
      | list l => simp [It.plain] at hp
      | text b =>
        simp only [It.plain, plainB, Bool.and_eq_true, beq_iff_eq, decide_eq_true_eq] at hp
        match b, hp with
        | [c], hp => exact ⟨c, rfl, by simpa using hp.2⟩
    obtain ⟨rfl, hc⟩ := hc
    obtain rfl : l = false := hl
    obtain rfl : B = [c] := HB.out
    obtain rfl : n = 1 := HN.out
    go_enter Try.func76, Try.ntmps76
    go_wp2_with fail
    rw [← HW0.out]
    refine (HD.out F W0 (.text [c]) _ _ _ h0 HX.out).mono ?_
    rintro e w2 ⟨v2, rfl, ho, hb2⟩
    have hbk : w2.heap[w.heap.size]? = some (.cells #[.bool false, .slice a1 n1 c1, .slice a2 n2 c2] 65 (0, 0)) := by rw [hb2.block _ hsz0]; exact HK0.out
    obtain ⟨q0, q1, q2⟩ := cells3 hbk
    have hs : BytesAt (fun _ => True) w2 v2 [c] := ho.at (fun _ _ _ _ => trivial) (by decide)
    rcases SliceAt.cases hs with ⟨h, _⟩ | ⟨g, o, c', rfl, -, -, -, -⟩
    · cases h
    have hcell := BytesAt.cell hs 0 (by simp)
    simp at hcell
    have hc' : (c.toNat : Int) < 128 := by omega
    have HO := Lib.hid ho
    have HB2 := Lib.hid (Bel.call HB0.out hb2)
    have hbase := (HB0.out).size
    clear ho hb2 hbk hs
    go_wp2
    go_ret
    refine ⟨_, rfl, ?_, HB2.out⟩
    have : (It.text [c]).enc = [c] := by simp only [It.enc]; rw [if_pos (by simpa [It.plain] using hp)]
    rw [this]
    exact (HO.out).lower hbase
  · have hp' : x.plain = false := by simpa using hp
    have hle : Hid (x.enc = headB x.base n ++ B) := by
      show _ = _
      rw [It.enc_eq, hp', HBL.out, HB.out]; rfl
    have hcase : (l = true ∧ Hid ((x.base : Int) = 192)) ∨ (l = false ∧ Hid ((x.base : Int) = 128) ∧ (n = 1 → ∃ c : UInt8, B = [c] ∧ 128 ≤ c.toNat)) := by
      unfold It.base Hid
      cases x with
      | list l' => exact .inl ⟨hl, by simp [It.isList]⟩
      | text b =>
        refine .inr ⟨hl, by simp [It.isList], fun h1 => ?_⟩
        have hBb : B = b := HB.out
        have hnn := HN.out
        rw [hBb] at hnn
        match b, hnn.symm.trans h1 with
        | [c], _ =>
          refine ⟨c, hBb, ?_⟩
          simp [It.plain, plainB] at hp'
          omega
    have hcases : (l = true ∧ Hid ((x.base : Int) = 192)) ∨ (l = false ∧ Hid ((x.base : Int) = 128) ∧ n ≠ 1) ∨ (l = false ∧ Hid ((x.base : Int) = 128) ∧ n = 1 ∧ ∃ c : UInt8, B = [c] ∧ 128 ≤ c.toNat) := by
      rcases hcase with h | ⟨h1, h2, h3⟩
      · exact .inl h
      · by_cases hn1 : n = 1
        · exact .inr (.inr ⟨h1, h2, hn1, h3 hn1⟩)
        · exact .inr (.inl ⟨h1, h2, hn1⟩)
    have hsz : (headB x.base n).length + n = sz n := headB_length _ _
    obtain ⟨hd, hhd⟩ : ∃ hd, hd = headB x.base n := ⟨_, rfl⟩
    rw [← hhd] at hle hsz
    have hszl : sz n ≤ n + 9 := by
      unfold sz; split
      · omega
      · have := number_le 8 n (by have := HNB.out; omega); omega
    have hdl : hd.length ≤ 16 := by omega
    have HHD := Lib.hid hhd
    clear hcase hhd hsz hszl hp hp' hl
    rcases hcases with ⟨rfl, hbz⟩ | ⟨rfl, hbz, hn1⟩ | ⟨rfl, hbz, hn1, c, hBc, hc⟩
    case' inl => have ht1 : True := trivial
    case' inr.inl => have ht1 : ((n : Int) == 1) = false := by simp; omega
    case' inr.inr =>
      have hc' : ¬ (c.toNat : Int) < 128 := by omega
      have HBC := Lib.hid hBc
      obtain rfl := hn1
      clear hBc hc
    all_goals
      go_enter Try.func76, Try.ntmps76
      go_wp2_with fail
      rw [← HW0.out]
      refine (HD.out F W0 x _ _ _ h0 HX.out).mono ?_
      rintro e w2 ⟨v2, rfl, ho, hb2⟩
      have hbk := (hb2.block _ hsz0).trans HK0.out
      obtain ⟨q0, q1, q2⟩ := cells3 hbk
      rw [← HB.out] at ho
      have hs : BytesAt (fun _ => True) w2 v2 B := ho.at (fun _ _ _ _ => trivial) (by decide)
      obtain ⟨ab, cb, rfl, -, -, -⟩ := SliceAt.len hs
      rw [← HN.out] at hs ⊢
      try (
        have hs' := hs
        rw [HBC.out] at hs'
        rcases SliceAt.split hs' with ⟨h, _⟩ | ⟨g, o, rfl, -, -, -⟩
        · cases h
        have hcell := BytesAt.cell hs' 0 (by simp)
        simp at hcell
        clear hs')
      have HB2 := Lib.hid (Bel.call HB0.out hb2)
      have HS := Lib.hid hs
      have hbase := Nat.le_trans (HB0.out).size hb2.size
      clear ho hb2 hbk hs
      go_wp2_with fail
      refine (head_int _ _ x.base _ w2 hbz.out.symm rfl (by have := hbz.out; omega) (by first | (have := HNB.out; omega) | exact (show (1 : Nat) < 16777216 by omega))).mono ?_
      rintro e w3 ⟨v3, rfl, ho3, hb3⟩
      have hd' := HHD.out
      have ho3' := ho3
      rw [← hd'] at ho3'
      have HO3 := Lib.hid ho3'
      have HS3 := Lib.hid (BytesAt.below HS.out hb3)
      have HB3 := Lib.hid (Bel.call HB2.out hb3)
      have hbase3 := hb3.size
      have hle3 : (hd.length + B.length) * 1 ≤ 140737488355328 := by have := HN.out; have := HNB.out; omega
      clear ho3 ho3' hb3 hd'
      go_wp2_with (at_builtin; refine wpList_append_at rfl (.tmp 29) (.tmp 30) 25 rfl w2.heap.size 5 i0 (.int .u8 0) 1 1 underlying25 hi hz0 hz1 hz2 rfl (by decide) (by decide) byteR.one _ hd rfl HO3.out _ B (fun _ => True) rfl HS3.out hle3 hbase3 ?_; intro v4 w4 ho hg hm)
      go_ret
      refine ⟨v4, rfl, ?_, ?_⟩
      · rw [hle.out]; exact ho.lower hbase
      · exact (HB3.out).grown hg (HB3.out).size (fun k hk => by have := ((HO3.out).own k hk).1; omega)
theorem rbytes (d : Nat) : RBodyC d ∧ RBytesC d := by
  induction d with
  | zero => exact ⟨fun _ _ _ _ _ _ h => h.elim, fun _ _ _ _ _ _ h => h.elim⟩
  | succ d ih => have hb := rbody_step ih.2; exact ⟨hb, rbytes_step hb⟩
theorem rbytes_any (d : Nat) : RBytesC d := (rbytes d).2
end Go.Proofs.Ytndkkgkcbbmnpaa
namespace Go.Pg
def capSz (n : Nat) : Nat := if 16777215 < n then n else sz n
mutual
/-- how many bytes an encoding has; where a body has too many, just that -/
def It.rsize : It → Nat
  | .text b => if plainB b then 1 else capSz b.length
  | .list l => capSz (It.rsizes l)
def It.rsizes : List It → Nat
  | [] => 0
  | x :: r => It.rsize x + It.rsizes r
end
theorem capSz_le (n : Nat) : n ≤ capSz n ∧ capSz n ≤ sz n := by
  unfold capSz; split
  · have := sz_ge n; omega
  · have := sz_ge n; omega
theorem sz_mono_le (n m : Nat) (h : n ≤ m) (hm : m < 256 ^ 8) : sz n ≤ m + 9 := by
  unfold sz; split
  · omega
  · have := number_le 8 n (by omega); omega
theorem It.rsizes_append (l m : List It) : It.rsizes (l ++ m) = It.rsizes l + It.rsizes m := by
  induction l with
  | nil => simp [It.rsizes]
  | cons x r ih => simp only [List.cons_append, It.rsizes, ih]; omega
theorem It.rsizes_take_succ (l : List It) (k : Nat) (h : k < l.length) : It.rsizes (l.take (k + 1)) = It.rsizes (l.take k) + l[k].rsize := by
  rw [List.take_succ_eq_append_getElem h, It.rsizes_append]; simp [It.rsizes]
mutual
/-- small: exact; else too many either way -/
theorem It.rsize_or : ∀ x : It, (x.body ≤ 16777215 ∧ x.rsize = x.whole) ∨ (16777215 < x.body ∧ 16777215 < x.rsize)
  | .text b => by
    simp only [It.body, It.rsize, It.whole]
    by_cases hp : plainB b = true
    · rw [if_pos hp, if_pos hp]
      have : b.length = 1 := by simp [plainB] at hp; exact hp.1
      exact .inl ⟨by omega, rfl⟩
    · rw [if_neg hp, if_neg hp]
      unfold capSz
      by_cases hb : 16777215 < b.length
      · rw [if_pos hb]; exact .inr ⟨hb, hb⟩
      · rw [if_neg hb]; exact .inl ⟨by omega, rfl⟩
  | .list l => by
    simp only [It.body, It.rsize, It.whole]
    rcases It.rsizes_or l with ⟨h1, h2⟩ | ⟨h1, h2⟩
    · rw [h2]; unfold capSz; rw [if_neg (by omega)]; exact .inl ⟨h1, rfl⟩
    · have := (capSz_le (It.rsizes l)).1; exact .inr ⟨h1, by omega⟩
theorem It.rsizes_or : ∀ l : List It, (It.wholes l ≤ 16777215 ∧ It.rsizes l = It.wholes l) ∨ (16777215 < It.wholes l ∧ 16777215 < It.rsizes l)
  | [] => .inl ⟨by simp [It.wholes], rfl⟩
  | x :: r => by
    simp only [It.wholes, It.rsizes]
    have hw := It.body_le_whole x
    rcases It.rsize_or x with ⟨h1, h2⟩ | ⟨h1, h2⟩
    · rcases It.rsizes_or r with ⟨h3, h4⟩ | ⟨h3, h4⟩
      · rw [h2, h4]; omega
      · right; omega
    · right; omega
end
mutual
theorem It.rsize_le : ∀ x : It, x.rsize ≤ x.whole
  | .text b => by
    simp only [It.rsize, It.whole]
    split
    · omega
    · exact (capSz_le _).2
  | .list l => by
    simp only [It.rsize, It.whole]
    rcases It.rsizes_or l with ⟨h1, h2⟩ | ⟨h1, h2⟩
    · rw [h2]; exact (capSz_le _).2
    · have := It.rsizes_le l
      unfold capSz; rw [if_pos h2]
      have := sz_ge (It.wholes l); omega
theorem It.rsizes_le : ∀ l : List It, It.rsizes l ≤ It.wholes l
  | [] => Nat.le_refl _
  | x :: r => by simp only [It.rsizes, It.wholes]; have := It.rsize_le x; have := It.rsizes_le r; omega
end
end Go.Pg
namespace Go.Proofs.Ytndkkgkcbbmnpaa
open Go.RowKit Go.Pg

def RSizeC (d : Nat) : Prop := ∀ (F : Nat → Prop) (w : World) (x : It) (l : Bool) (v1 v2 : Value), ItemAt F w d [.bool l, v1, v2] x → x.whole ≤ 140737488351232 →
  Calls Try.prog 75 #[.agg #[.bool l, v1, v2]] w fun e w' => e = .returned (.int .i64 x.rsize) ∧ Below w.heap.size w w'

set_option maxRecDepth 100000 in
set_option maxHeartbeats 1000000 in
theorem rsize_plain (w : World) (g o c : Nat) (x : UInt8) (v2 : Value) (hc : w.cell? ⟨g, o, none⟩ = some (.int .u8 (x.toNat : Int))) (hx : x.toNat < 128) :
    Calls Try.prog 75 #[.agg #[.bool false, .slice (some ⟨g, o, none⟩) 1 c, v2]] w fun e w' => e = .returned (.int .i64 1) ∧ Below w.heap.size w w' := by
  have hg := cell_lt hc
  have hx' : (x.toNat : Int) < 128 := by omega
  go_enter Try.func75, Try.ntmps75
  go_wp2
  go_ret
  exact ⟨rfl, Bel.alloc (Bel.refl w) _⟩

set_option maxRecDepth 100000 in
set_option maxHeartbeats 1000000 in
theorem rsize_text (w : World) (a a2 : Option Addr) (n c c2 : Nat) (hn : n ≤ 140737488351232) (ht : n = 1 → ∃ g o x, a = some ⟨g, o, none⟩ ∧ w.cell? ⟨g, o, none⟩ = some (.int .u8 ((x : UInt8).toNat : Int)) ∧ 128 ≤ x.toNat) :
    Calls Try.prog 75 #[.agg #[.bool false, .slice a n c, .slice a2 0 c2]] w fun e w' => e = .returned (.int .i64 (capSz n)) ∧ Below w.heap.size w w' := by
  have hcase : (∃ g o x, n = 1 ∧ a = some ⟨g, o, none⟩ ∧ w.cell? ⟨g, o, none⟩ = some (.int .u8 ((x : UInt8).toNat : Int)) ∧ g < w.heap.size ∧ ¬ (x.toNat : Int) < 128) ∨ ((n : Int) == 1) = false := by
    by_cases h1 : n = 1
    · obtain ⟨g, o, x, h2, hc, hx⟩ := ht h1
      exact .inl ⟨g, o, x, h1, h2, hc, cell_lt hc, by omega⟩
    · exact .inr (by simp; omega)
  clear ht
  obtain ⟨hd, hhd⟩ : ∃ hd, hd = headB 0 n := ⟨_, rfl⟩
  have hcs : capSz n = if 16777215 < n then n else n + hd.length := by
    unfold capSz; split
    · rfl
    · have := headB_length 0 n; rw [hhd]; omega
  have hdl : hd.length ≤ 16 := by
    have h1 := headB_length 0 n
    have h2 : sz n ≤ n + 9 := sz_mono_le n n (Nat.le_refl _) (by omega)
    rw [hhd]; omega
  have HHD := Lib.hid hhd
  clear hhd
  have HCS := Lib.hid hcs
  clear hcs
  by_cases hbig : (16777215 : Int) < (n : Int)
  · have h1 : ((n : Int) == 1) = false := by simp; omega
    go_enter Try.func75, Try.ntmps75
    go_wp2
    refine wp_loop_rounds 1 ?_
    rw [rounds_succ]
    go_wp2_with fail
    go_ret
    exact ⟨ret_int (by rw [HCS.out, if_pos (by omega)]), Bel.alloc (Bel.refl w) _⟩
  · rcases hcase with ⟨g, o, x, rfl, rfl, hc, hg, hx⟩ | h1
    all_goals
      go_enter Try.func75, Try.ntmps75
      go_wp2
      refine wp_loop_rounds 1 ?_
      rw [rounds_succ]
      go_wp2_with fail
      refine (head_int _ _ 0 _ _ rfl rfl (by omega) (by first | omega | exact (show (1 : Nat) < 16777216 by omega))).mono ?_
      rintro e w3 ⟨v3, rfl, ho3, hb3⟩
      rw [← HHD.out] at ho3
      obtain ⟨a3, c3, rfl, -, -, -⟩ := ho3.len
      have HB := Lib.hid (Bel.call (Bel.alloc (Bel.refl w) _) hb3)
      clear ho3 hb3
      go_wp2_with fail
      go_ret
      exact ⟨ret_int (by rw [HCS.out]; first | (rw [if_neg (by omega)]; omega) | (rw [if_neg (show ¬ 16777215 < 1 by omega)]; omega)), HB.out⟩

set_option maxRecDepth 100000 in
set_option maxHeartbeats 1000000 in
theorem rsize_list {d : Nat} (hd0 : RSizeC d) (F : Nat → Prop) (w : World) (a a2 : Option Addr) (c n2 c2 : Nat) (l : List It) (his : ItemsAt F w d (.slice a2 n2 c2) l) (hw : It.wholes l ≤ 140737488351232) :
    Calls Try.prog 75 #[.agg #[.bool true, .slice a 0 c, .slice a2 n2 c2]] w fun e w' => e = .returned (.int .i64 (capSz (It.rsizes l))) ∧ Below w.heap.size w w' := by
  have hn2 : n2 = l.length := by
    rcases SliceAt.split his with ⟨h1, h2⟩ | ⟨_, _, _, h2, _⟩
    · rw [h1, h2]; rfl
    · exact h2
  have hn63 : n2 ≤ 140737488351232 := by have := It.length_le_wholes l; omega
  have hrs := It.rsizes_le l
  have HN2 := Lib.hid hn2
  have HD := Lib.hid hd0
  have HW := Lib.hid hw
  have HRS := Lib.hid hrs
  clear hn2 hd0 hw hrs
  go_enter Try.func75, Try.ntmps75
  go_wp2
  go_loopw [3, 4] (fun s i wr => ∃ k m : Nat, k ≤ n2 ∧ i = .int .i64 k ∧ s = .int .i64 m ∧ Hid (m = It.rsizes (l.take k)) ∧
      Hid (Below w.heap.size w wr ∧ wr.heap[w.heap.size]? = some (.cells #[.bool true, .slice a 0 c, .slice a2 n2 c2] 65 (0, 0)))) (fun _ i _ => n2 - (intOf i).toNat)
  case atStart => exact ⟨0, 0, Nat.zero_le _, rfl, rfl, by show _ = _; simp [It.rsizes], Bel.alloc (Bel.refl w) _, heap_alloc_new w _⟩
  case round =>
    obtain ⟨k, m, hk, rfl, rfl, HM, HB⟩ := hrel
    obtain ⟨q0, q1, q2⟩ := cells3 HB.out.2
    have hsr := (Array.getElem?_eq_some_iff.1 HB.out.2).1
    have hN := HN2.out
    have htl : It.rsizes (l.take k) ≤ It.rsizes l := by
      have := It.rsizes_append (l.take k) (l.drop k)
      rw [List.take_append_drop] at this; omega
    have hm63 : m ≤ 140737488351232 := by have := HM.out; have := HRS.out; have := HW.out; omega
    clear htl
    by_cases hlt : k < n2
    · have hki : k < l.length := by omega
      rcases SliceAt.split his with ⟨h1, h2⟩ | ⟨b, o, rfl, -, -, hFb⟩
      · rw [h1] at hki; simp at hki
      have his' := ItemsAt.below his HB.out.1
      obtain ⟨y1, z1, t1, y2, z2, t2, g0, g1, g2, hit⟩ := ItemsAt.cell his' k hki
      obtain ⟨y, hy⟩ : ∃ y, y = l[k] := ⟨_, rfl⟩
      rw [← hy] at g0 hit
      have h1 := It.rsizes_take_succ l k hki
      have h2 := It.wholes_take_succ l k hki
      have h3 := It.wholes_take_le l (k + 1)
      have h4 := It.rsize_le y
      have hyw : y.whole ≤ 140737488351232 := by have := HW.out; rw [← hy] at h2; omega
      have hyr : y.rsize ≤ 140737488351232 := by omega
      have HE : Hid (m + y.rsize = It.rsizes (l.take (k + 1))) := by show _ = _; rw [h1, HM.out, ← hy]
      clear hy h1 h2 h3 h4 his' hN
      go_wp2_with fail
      refine (HD.out F wr y _ _ _ hit hyw).mono ?_
      rintro e w3 ⟨rfl, hb3⟩
      have hB3 : Below w.heap.size w w3 ∧ w3.heap[w.heap.size]? = some (.cells #[.bool true, .slice a 0 c, .slice (some ⟨b, o, none⟩) n2 c2] 65 (0, 0)) :=
        ⟨Bel.call HB.out.1 hb3, by rw [hb3.block _ hsr]; exact HB.out.2⟩
      have HB3 := Lib.hid hB3
      clear hB3 hb3 hit
      go_wp2_with fail
      go_roundw
      case rel => exact ⟨k + 1, m + y.rsize, by omega, num_eq (by omega), num_eq (by omega), HE, HB3.out⟩
      case measure => simp [intOf]; omega
    · obtain rfl : k = n2 := by omega
      have hm := HM.out
      rw [List.take_of_length_le (by omega)] at hm
      have HM' := Lib.hid hm
      obtain ⟨hd, hhd⟩ : ∃ hd, hd = headB 0 m := ⟨_, rfl⟩
      have hcs : capSz m = if 16777215 < m then m else m + hd.length := by
        unfold capSz; split
        · rfl
        · have := headB_length 0 m; rw [hhd]; omega
      have hdl : hd.length ≤ 16 := by
        have h1 := headB_length 0 m
        have h2 : sz m ≤ m + 9 := sz_mono_le m m (Nat.le_refl _) (by omega)
        rw [hhd]; omega
      have HHD := Lib.hid hhd
      have HCS := Lib.hid hcs
      clear hhd hcs hm
      by_cases hbig : (16777215 : Int) < (m : Int)
      · go_wp2_with fail
        go_ret
        exact ⟨ret_int (by rw [← HM'.out, HCS.out, if_pos (by omega)]), HB.out.1⟩
      · go_wp2_with fail
        refine (head_int _ _ 0 m _ rfl rfl (by omega) (by omega)).mono ?_
        rintro e w3 ⟨v3, rfl, ho3, hb3⟩
        rw [← HHD.out] at ho3
        obtain ⟨a3, c3, rfl, -, -, -⟩ := ho3.len
        have HB3 := Lib.hid (Bel.call HB.out.1 hb3)
        clear ho3 hb3
        go_wp2_with fail
        go_ret
        exact ⟨ret_int (by rw [← HM'.out, HCS.out, if_neg (by omega)]; omega), HB3.out⟩

theorem rsize_any (d : Nat) : RSizeC d := by
  induction d with
  | zero => intro F w x l v1 v2 h; exact h.elim
  | succ d ih =>
    intro F w x l v1 v2 h hx
    obtain ⟨u1, u2, h1, h2, h3⟩ := h
    simp only [List.cons.injEq, Value.bool.injEq, and_true] at h1
    obtain ⟨rfl, rfl, rfl⟩ := h1
    obtain ⟨a, c, rfl, -, -, -⟩ := SliceAt.len h2
    obtain ⟨a2, c2, rfl, -, -, -⟩ := SliceAt.len h3
    cases x with
    | list l =>
      have hwb : It.wholes l + 1 ≤ (It.list l).whole := by simp only [It.whole]; exact sz_ge _
      exact rsize_list ih F w a a2 c _ c2 l h3 (by omega)
    | text b =>
      simp only [It.isList, It.bytes, It.items, It.rsize] at h2 ⊢
      have hbw := It.body_le_whole (.text b)
      simp only [It.body] at hbw
      by_cases hp : plainB b = true
      · rw [if_pos hp]
        simp only [plainB, Bool.and_eq_true, beq_iff_eq, decide_eq_true_eq] at hp
        match b, hp with
        | [x], hp =>
          rcases SliceAt.split h2 with ⟨h, _⟩ | ⟨g, o, rfl, -, -, -⟩
          · cases h
          have hcell := BytesAt.cell h2 0 (by simp)
          exact rsize_plain w g o c x _ (by simpa using hcell) (by simpa using hp.2)
      · rw [if_neg hp]
        refine rsize_text w a a2 _ c c2 (by omega) fun h1 => ?_
        match b, h1 with
        | [x], _ =>
          rcases SliceAt.split h2 with ⟨h, _⟩ | ⟨g, o, rfl, -, -, -⟩
          · cases h
          have hcell := BytesAt.cell h2 0 (by simp)
          exact ⟨g, o, x, rfl, by simpa using hcell, by simp [plainB] at hp; omega⟩
end Go.Proofs.Ytndkkgkcbbmnpaa
namespace Go.Proofs.Ytndkkgkcbbmnpaa
open Go.RowKit Go.Pg

def Walked (w : World) (r : Nat × Nat) (e : Ending) (w' : World) : Prop :=
  e = .returned (.tuple #[.int .i64 r.1, .int .i64 r.2]) ∧ Below w.heap.size w w'
def RWalkC (d : Nat) : Prop := ∀ (F : Nat → Prop) (w : World) (x : It) (l : Bool) (v1 v2 : Value) (deep wt : Nat), ItemAt F w d [.bool l, v1, v2] x → deep ≤ 8 → wt + x.whole ≤ 1125899906842624 →
  Calls Try.prog 74 #[.agg #[.bool l, v1, v2], .int .i64 deep, .int .i64 wt] w (Walked w (x.look deep wt))

set_option maxRecDepth 100000 in
set_option maxHeartbeats 1000000 in
theorem rwalk_text (w : World) (b : List UInt8) (a a2 : Option Addr) (c c2 : Nat) (deep wt : Nat) (hw : wt + (It.text b).whole ≤ 1125899906842624) :
    Calls Try.prog 74 #[.agg #[.bool false, .slice a b.length c, .slice a2 0 c2], .int .i64 deep, .int .i64 wt] w (Walked w ((It.text b).look deep wt)) := by
  obtain ⟨n, hn⟩ : ∃ n, n = b.length := ⟨_, rfl⟩
  rw [← hn]
  have hnw : n ≤ (It.text b).whole := by rw [hn]; exact It.body_le_whole (.text b)
  have hpos := It.whole_pos (.text b)
  have HN := Lib.hid hn
  obtain ⟨m, hm⟩ : ∃ m : Nat, m = wt + max n 1 := ⟨_, rfl⟩
  have hmb : m ≤ 1125899906842624 := by omega
  have hlk : (It.text b).look deep wt = (m, if 16777215 < m then 20 else 0) := by
    simp only [It.look, ← hn, ← hm]; split <;> rfl
  have HL := Lib.hid hlk
  have hcase : ((1 : Int) < (n : Int) ∧ (wt : Int) + (n : Int) = (m : Int)) ∨ (¬ (1 : Int) < (n : Int) ∧ (wt : Int) + 1 = (m : Int)) := by omega
  clear hm hn hnw hpos hw hlk
  rcases hcase with ⟨h1, h2⟩ | ⟨h1, h2⟩
  all_goals
    by_cases hbig : (16777215 : Int) < (m : Int)
    all_goals
      go_enter Try.func74, Try.ntmps74
      go_wp2
      first
        | (go_ret2; exact ⟨by rw [HL.out, if_pos (by omega)]; rfl, Bel.alloc (Bel.refl w) _⟩)
        | (go_rounds 1; go_ret2; exact ⟨by rw [HL.out, if_neg (by omega)]; rfl, Bel.alloc (Bel.refl w) _⟩)

set_option maxRecDepth 100000 in
set_option maxHeartbeats 1000000 in
theorem rwalk_list {d : Nat} (hd0 : RWalkC d) (F : Nat → Prop) (w : World) (l : List It) (a a2 : Option Addr) (c n2 c2 : Nat) (deep wt : Nat)
    (his : ItemsAt F w d (.slice a2 n2 c2) l) (hd : deep ≤ 8) (hw : wt + (It.list l).whole ≤ 1125899906842624) :
    Calls Try.prog 74 #[.agg #[.bool true, .slice a 0 c, .slice a2 n2 c2], .int .i64 deep, .int .i64 wt] w (Walked w ((It.list l).look deep wt)) := by
  have HD := Lib.hid hd0
  obtain ⟨m, hm⟩ : ∃ m : Nat, m = wt + 1 := ⟨_, rfl⟩
  have hmx : (wt : Int) + 1 = (m : Int) := by omega
  have HM := Lib.hid hm
  have hwb : It.wholes l + 1 ≤ (It.list l).whole := by simp only [It.whole]; exact sz_ge _
  have hmb : m + It.wholes l ≤ 1125899906842624 := by omega
  have hwm : wt + It.wholes l ≤ 1125899906842624 := by omega
  have hn2 : n2 = l.length := by
    rcases SliceAt.split his with ⟨h1, h2⟩ | ⟨_, _, _, h2, _⟩
    · rw [h1, h2]; rfl
    · exact h2
  have hn63 : n2 ≤ 1125899906842624 := by have := It.length_le_wholes l; omega
  have HN2 := Lib.hid hn2
  have HIS := Lib.hid his
  clear hm hd0 his hwb hw hn2
  have hcases : (((8 : Int) ≤ (deep : Int)) ∧ Hid ((It.list l).look deep wt = (wt, 21))) ∨
      (¬ ((8 : Int) ≤ (deep : Int)) ∧ ¬ (0 : Int) < (deep : Int) ∧ (16777215 : Int) < (wt : Int) ∧ Hid ((It.list l).look deep wt = (wt, 20))) ∨
      (¬ ((8 : Int) ≤ (deep : Int)) ∧ ¬ (0 : Int) < (deep : Int) ∧ ¬ (16777215 : Int) < (wt : Int) ∧ Hid (lookHead deep wt = (wt, 0))) ∨
      (¬ ((8 : Int) ≤ (deep : Int)) ∧ (0 : Int) < (deep : Int) ∧ (16777215 : Int) < (m : Int) ∧ Hid ((It.list l).look deep wt = (m, 20))) ∨
      (¬ ((8 : Int) ≤ (deep : Int)) ∧ (0 : Int) < (deep : Int) ∧ ¬ (16777215 : Int) < (m : Int) ∧ Hid (lookHead deep wt = (m, 0))) := by
    have hmm := HM.out
    rw [look_list_eq]
    unfold lookHead Hid
    rw [← hmm]
    by_cases h8 : deep = 8
    · exact .inl ⟨by omega, by rw [if_pos h8]; rfl⟩
    · rw [if_neg h8]
      by_cases h0 : deep = 0
      · rw [if_pos h0]
        by_cases hb : 16777215 < wt
        · exact .inr (.inl ⟨by omega, by omega, by omega, by rw [if_pos hb]; rfl⟩)
        · exact .inr (.inr (.inl ⟨by omega, by omega, by omega, by rw [if_neg hb]⟩))
      · rw [if_neg h0]
        by_cases hb : 16777215 < m
        · exact .inr (.inr (.inr (.inl ⟨by omega, by omega, by omega, by rw [if_pos hb]; rfl⟩)))
        · exact .inr (.inr (.inr (.inr ⟨by omega, by omega, by omega, by rw [if_neg hb]⟩)))
  rcases hcases with ⟨e8, HH⟩ | ⟨e8, e0, hb, HH⟩ | ⟨e8, e0, hb, HH⟩ | ⟨e8, e0, hb, HH⟩ | ⟨e8, e0, hb, HH⟩
  case' inl =>
    go_enter Try.func74, Try.ntmps74
    go_wp2
    go_ret2
    exact ⟨by rw [HH.out]; rfl, Bel.alloc (Bel.refl w) _⟩
  case' inr.inl =>
    go_enter Try.func74, Try.ntmps74
    go_wp2
    go_ret2
    exact ⟨by rw [HH.out]; rfl, Bel.alloc (Bel.refl w) _⟩
  case' inr.inr.inr.inl =>
    go_enter Try.func74, Try.ntmps74
    go_wp2
    go_ret2
    exact ⟨by rw [HH.out]; rfl, Bel.alloc (Bel.refl w) _⟩
  all_goals
    try (have hzd : decide (0 < deep) = false := by simp; omega)
    try (have hzd : decide (0 < deep) = true := by simp; omega)
    try (have hbz : decide ((16777215 : Int) < (wt : Int)) = false := by simp; omega)
    try (have hbz : decide ((16777215 : Int) < (m : Int)) = false := by simp; omega)
    go_enter Try.func74, Try.ntmps74
    go_wp2
    go_loopw [2, 8] (fun s i wr => ∃ k m0 : Nat, i = .int .i64 k ∧ k ≤ n2 ∧ s = .int .i64 m0 ∧ m0 + It.wholes (l.drop k) ≤ 1125899906842624 ∧ Hid (lookOn (l.drop k) (deep + 1) (m0, 0) = (It.list l).look deep wt) ∧
      Hid (Below w.heap.size w wr ∧ wr.heap[w.heap.size]? = some (.cells #[.bool true, .slice a 0 c, .slice a2 n2 c2] 65 (0, 0)))) (fun _ i _ => n2 - (intOf i).toNat)
    case atStart =>
      first
        | exact ⟨0, wt, rfl, Nat.zero_le _, rfl, hwm, by show _ = _; rw [look_list_eq, HH.out]; rfl, Bel.alloc (Bel.refl w) _, heap_alloc_new w _⟩
        | exact ⟨0, m, rfl, Nat.zero_le _, rfl, hmb, by show _ = _; rw [look_list_eq, HH.out]; rfl, Bel.alloc (Bel.refl w) _, heap_alloc_new w _⟩
    case round =>
      obtain ⟨k, m1, rfl, hk, rfl, hb1, HO, HB⟩ := hrel
      obtain ⟨q0, q1, q2⟩ := cells3 HB.out.2
      have hsr := (Array.getElem?_eq_some_iff.1 HB.out.2).1
      have hN := HN2.out
      by_cases hlt : k < n2
      · have hki : k < l.length := by omega
        rcases SliceAt.split HIS.out with ⟨h1, h2⟩ | ⟨b, o, rfl, -, -, hFb⟩
        · omega
        have his' := ItemsAt.below HIS.out HB.out.1
        obtain ⟨y1, z1, t1, y2, z2, t2, g0, g1, g2, hit⟩ := ItemsAt.cell his' k hki
        obtain ⟨y, hy⟩ : ∃ y, y = l[k] := ⟨_, rfl⟩
        rw [← hy] at g0 hit
        have hdrop : l.drop k = y :: l.drop (k + 1) := by rw [hy]; exact List.drop_eq_getElem_cons hki
        have hbw : m1 + y.whole + It.wholes (l.drop (k + 1)) ≤ 1125899906842624 := by
          rw [hdrop] at hb1; simp only [It.wholes] at hb1; omega
        have HO2 : Hid (lookOn (l.drop (k + 1)) (deep + 1) (y.look (deep + 1) m1) = (It.list l).look deep wt) := by
          have := HO.out
          rwa [hdrop, lookOn_cons] at this
        have hle := It.look_le y (deep + 1) m1
        clear hy hdrop his' HO hb1 hN
        go_wp2_with fail
        rw [show ((deep : Int) + 1) = ((deep + 1 : Nat) : Int) from rfl]
        refine (HD.out F wr y _ _ _ (deep + 1) m1 hit (by omega) (by omega)).mono ?_
        rintro e w5 ⟨rfl, hb5⟩
        obtain ⟨m2, e2, hr⟩ : ∃ m2 e2, y.look (deep + 1) m1 = (m2, e2) := ⟨_, _, rfl⟩
        rw [hr] at hle HO2 ⊢
        have hle' : m2 ≤ m1 + y.whole := hle
        clear hle
        have hB5 : Below w.heap.size w w5 ∧ w5.heap[w.heap.size]? = some (.cells #[.bool true, .slice a 0 c, .slice (some ⟨b, o, none⟩) n2 c2] 65 (0, 0)) :=
          ⟨Bel.call HB.out.1 hb5, by rw [hb5.block _ hsr]; exact HB.out.2⟩
        have HB5 := Lib.hid hB5
        clear hb5 hB5 hr hit
        by_cases he : e2 = 0
        · subst he
          go_wp2_with fail
          go_roundw
          case rel =>
            first
              | exact ⟨k + 1, m2, num_eq (by omega), by omega, rfl, by omega, HO2, HB5.out⟩
              | ((repeat apply Exists.intro); exact ⟨⟨k + 1, m2, num_eq (by omega), by omega, rfl, by omega, HO2, HB5.out⟩, rfl⟩)
          case measure => simp [intOf]; omega
        · have he' : (((e2 : Nat) : Int) != 0) = true := by simp; omega
          go_wp2_with fail
          go_ret2
          have := HO2.out
          rw [lookOn_bad _ _ _ _ he] at this
          exact ⟨by rw [← this]; rfl, HB5.out.1⟩
      · go_wp2
        go_ret2
        have := HO.out
        rw [List.drop_eq_nil_of_le (by omega), lookOn_nil] at this
        exact ⟨by rw [← this]; rfl, HB.out.1⟩

theorem rwalk_any (d : Nat) : RWalkC d := by
  induction d with
  | zero => intro F w x l v1 v2 deep wt h; exact h.elim
  | succ d ih =>
    intro F w x l v1 v2 deep wt h hd hx
    obtain ⟨u1, u2, h1, h2, h3⟩ := h
    simp only [List.cons.injEq, Value.bool.injEq, and_true] at h1
    obtain ⟨rfl, rfl, rfl⟩ := h1
    obtain ⟨a, c, rfl, -, -, -⟩ := SliceAt.len h2
    obtain ⟨a2, c2, rfl, -, -, -⟩ := SliceAt.len h3
    cases x with
    | list l => exact rwalk_list ih F w l a a2 c _ c2 deep wt h3 hd hx
    | text b => exact rwalk_text w b a a2 c c2 deep wt hx
end Go.Proofs.Ytndkkgkcbbmnpaa
namespace Go.Proofs.Ytndkkgkcbbmnpaa
open Go.RowKit Go.Pg

set_option maxRecDepth 100000 in
set_option maxHeartbeats 1000000 in
theorem rencode_any (F : Nat → Prop) (w : World) (d : Nat) (x : It) (l : Bool) (v1 v2 : Value) (h : ItemAt F w d [.bool l, v1, v2] x) (hw : x.whole ≤ 140737488351232) :
    Calls Try.prog 45 #[.agg #[.bool l, v1, v2]] w (Encd w x.encode) := by
  obtain ⟨hl, a1, n1, c1, a2, n2, c2, rfl, rfl, -, -⟩ := ItemAt.form h
  have hbs := ItemAt.bytes h
  have hn1 : n1 = x.bytes.length := by
    obtain ⟨a, c, hv, -⟩ := SliceAt.len hbs
    simp only [Value.slice.injEq] at hv
    exact hv.2.1
  have hbw := It.body_le_whole x
  have hbe := It.body_eq x
  have hrl := It.rsizes_le x.items
  have hro := It.rsizes_or x.items
  obtain ⟨d', rfl⟩ : ∃ d', d = d' + 1 := by
    cases d with
    | zero => exact h.elim
    | succ d => exact ⟨d, rfl⟩
  have his := ItemAt.items h
  have hn2 : n2 = x.items.length := by
    rcases SliceAt.split his with ⟨h1, h2⟩ | ⟨_, _, _, h2, _⟩
    · rw [h1, h2]; rfl
    · exact h2
  have hlw := It.length_le_wholes x.items
  have hn63 : n2 ≤ 140737488351232 := by omega
  have hn163 : n1 ≤ 140737488351232 := by omega
  have hbig : (16777215 < n1 + It.rsizes x.items ↔ 16777215 < x.body) := by omega
  have hsum : n1 + It.rsizes x.items ≤ 140737488351232 := by omega
  have HBIG := Lib.hid hbig
  have HSUM := Lib.hid hsum
  have HN2 := Lib.hid hn2
  have HIS := Lib.hid his
  have HWW := Lib.hid hw
  have HIT := Lib.hid h
  obtain ⟨m, e0, hr⟩ : ∃ m e0, x.look 0 0 = (m, e0) := ⟨_, _, rfl⟩
  have HR := Lib.hid hr
  have hw0 : 0 + x.whole ≤ 1125899906842624 := by omega
  clear hl hbs hn1 hbw hbe hrl hro hn2 hlw hbig hsum hw his hr h
  go_enter Try.func45, Try.ntmps45
  go_wp2_with fail
  refine (rwalk_any (d' + 1) F _ x _ _ _ 0 0 ?_ (by omega) hw0).mono ?_
  · exact (HIT.out).below (Bel.alloc (Bel.refl w) _)
  rintro e w1 ⟨rfl, hb1⟩
  have hbx : w1.heap[w.heap.size]? = some (.cells #[.bool l, .slice a1 n1 c1, .slice a2 n2 c2] 65 (0, 0)) := boxblock hb1
  obtain ⟨q0, q1, q2⟩ := cells3 hbx
  have HB1 := Lib.hid (And.intro (Bel.call (Bel.alloc (Bel.refl w) _) hb1) hbx)
  rw [HR.out]
  clear hb1 hbx
  by_cases he : e0 = 0
  · subst he
    go_wp2_with fail
    go_loopw [6, 7] (fun s i wr => ∃ k m0 : Nat, k ≤ n2 ∧ i = .int .i64 k ∧ s = .int .i64 m0 ∧ Hid (m0 = n1 + It.rsizes (x.items.take k)) ∧
      Hid (Below w.heap.size w wr ∧ wr.heap[w.heap.size]? = some (.cells #[.bool l, .slice a1 n1 c1, .slice a2 n2 c2] 65 (0, 0)))) (fun _ i _ => n2 - (intOf i).toNat)
    case atStart => exact ⟨0, n1, Nat.zero_le _, rfl, rfl, by show _ = _; simp [It.rsizes], HB1.out⟩
    case round =>
      obtain ⟨k, m0, hk, rfl, rfl, HM, HB⟩ := hrel
      clear q0 q1 q2
      obtain ⟨q0, q1, q2⟩ := cells3 HB.out.2
      have hsr := (Array.getElem?_eq_some_iff.1 HB.out.2).1
      have hN := HN2.out
      have htl : It.rsizes (x.items.take k) ≤ It.rsizes x.items := by
        have := It.rsizes_append (x.items.take k) (x.items.drop k)
        rw [List.take_append_drop] at this; omega
      have hm63 : m0 ≤ 140737488351232 := by have := HM.out; have := HSUM.out; omega
      clear htl
      by_cases hlt : k < n2
      · have hki : k < x.items.length := by omega
        rcases SliceAt.split HIS.out with ⟨h1, h2⟩ | ⟨b, o, rfl, -, -, hFb⟩
        · rw [h1] at hki; simp at hki
        have his' := ItemsAt.below HIS.out HB.out.1
        obtain ⟨y1, z1, t1, y2, z2, t2, g0, g1, g2, hit⟩ := ItemsAt.cell his' k hki
        obtain ⟨y, hy⟩ : ∃ y, y = x.items[k] := ⟨_, rfl⟩
        rw [← hy] at g0 hit
        have h1 := It.rsizes_take_succ x.items k hki
        have h2 := It.wholes_take_succ x.items k hki
        have h3 := It.wholes_take_le x.items (k + 1)
        have h4 := It.rsize_le y
        have h5 := It.body_le_whole x
        have h6 := It.body_eq x
        have hyw : y.whole ≤ 140737488351232 := by have := HWW.out; rw [← hy] at h2; omega
        have hyr : y.rsize ≤ 140737488351232 := by omega
        have HE : Hid (m0 + y.rsize = n1 + It.rsizes (x.items.take (k + 1))) := by show _ = _; rw [h1, HM.out, ← hy]; omega
        clear hy h1 h2 h3 h4 h5 h6 his' hN
        go_wp2_with fail
        refine (rsize_any d' F wr y _ _ _ hit hyw).mono ?_
        rintro e w3 ⟨rfl, hb3⟩
        have hB3 : Below w.heap.size w w3 ∧ w3.heap[w.heap.size]? = some (.cells #[.bool l, .slice a1 n1 c1, .slice (some ⟨b, o, none⟩) n2 c2] 65 (0, 0)) :=
          ⟨Bel.call HB.out.1 hb3, by rw [hb3.block _ hsr]; exact HB.out.2⟩
        have HB3 := Lib.hid hB3
        clear hB3 hb3 hit
        go_wp2_with fail
        go_roundw
        case rel => exact ⟨k + 1, m0 + y.rsize, by omega, num_eq (by omega), num_eq (by omega), HE, HB3.out⟩
        case measure => simp [intOf]; omega
      · obtain rfl : k = n2 := by omega
        have hm := HM.out
        rw [List.take_of_length_le (by omega)] at hm
        have hbig : 16777215 < m0 ↔ 16777215 < x.body := by rw [hm]; exact HBIG.out
        have HBG := Lib.hid hbig
        clear hm hbig hN
        by_cases hb : (16777215 : Int) < (m0 : Int)
        · have he : x.encode = ([], 20) := by unfold It.encode; rw [HR.out, if_neg (by simp), if_pos (HBG.out.1 (by omega))]
          have HEE := Lib.hid he
          clear he
          go_wp2_with fail
          go_ret2
          exact ⟨.slice none 0 0, by rw [HEE.out]; rfl, by rw [HEE.out]; exact OwnAt.nil _ _ _ _ _, HB.out.1⟩
        · have hxb : x.body ≤ 16777215 := by have := HBG.out; omega
          have he : x.encode = (x.enc, 0) := by unfold It.encode; rw [HR.out, if_neg (by simp), if_neg (by omega)]
          have HEE := Lib.hid he
          clear he
          go_wp2_with fail
          refine (rbytes_any (d' + 1) F _ x _ _ _ ?_ hxb).mono ?_
          · exact (HIT.out).below HB.out.1
          rintro e w3 ⟨v3, rfl, ho3, hb3⟩
          have HB3 := Lib.hid (Bel.call HB.out.1 hb3)
          have HO3 := Lib.hid (ho3.lower (HB.out.1).size)
          clear ho3 hb3
          go_wp2_with fail
          go_ret2
          exact ⟨v3, by rw [HEE.out]; rfl, by rw [HEE.out]; exact HO3.out, HB3.out⟩
  · have he' : (((e0 : Nat) : Int) != 0) = true := by simp; omega
    have hee : x.encode = ([], e0) := by unfold It.encode; rw [HR.out]; simp [he]
    have HEE := Lib.hid hee
    clear hee
    go_wp2
    go_ret2
    exact ⟨.slice none 0 0, by rw [HEE.out]; rfl, by rw [HEE.out]; exact OwnAt.nil _ _ _ _ _, HB1.out.1⟩

end Go.Proofs.Ytndkkgkcbbmnpaa
namespace Go.Pg
theorem compareBytes_drop (bs ds : List UInt8) (k : Nat) (h1 : k < bs.length) (h2 : k < ds.length) :
    Lib.compareBytes (bs.drop k) (ds.drop k) = if bs[k] < ds[k] then -1 else if ds[k] < bs[k] then 1 else Lib.compareBytes (bs.drop (k + 1)) (ds.drop (k + 1)) := by
  rw [List.drop_eq_getElem_cons h1, List.drop_eq_getElem_cons h2]; rfl
theorem compareBytes_end (bs ds : List UInt8) (k : Nat) (h1 : k ≤ bs.length) (h2 : k ≤ ds.length) (h : bs.length ≤ k ∨ ds.length ≤ k) :
    decide (Lib.compareBytes (bs.drop k) (ds.drop k) < 0) = decide (bs.length < ds.length) := by
  rcases Nat.lt_or_ge bs.length ds.length with hl | hl
  · have e1 : bs.drop k = [] := List.drop_eq_nil_of_le (by omega)
    have e2 : ∃ x r, ds.drop k = x :: r := by
      cases hd : ds.drop k with
      | nil => have := congrArg List.length hd; simp at this; omega
      | cons x r => exact ⟨x, r, rfl⟩
    obtain ⟨x, r, e2⟩ := e2
    rw [e1, e2]; simp [Lib.compareBytes, hl]
  · have e1 : ds.drop k = [] := List.drop_eq_nil_of_le (by omega)
    rw [e1]
    cases bs.drop k with
    | nil => simp [Lib.compareBytes]; omega
    | cons x r => simp [Lib.compareBytes]; omega
end Go.Pg
namespace Go.Proofs.Ytndkkgkcbbmnpaa
open Go.RowKit Go.Pg

set_option maxRecDepth 100000 in
set_option maxHeartbeats 1000000 in
theorem ahead_any (F G : Nat → Prop) (w : World) (u v : Value) (bs ds : List UInt8) (h : BytesAt F w u bs) (k : BytesAt G w v ds) (hbl : bs.length ≤ 1152921504606846976) :
    Calls Try.prog 73 #[u, v] w fun e w' => e = .returned (.bool (decide (Lib.compareBytes bs ds < 0))) ∧ ∃ m, w' = w.drewN m := by
  obtain ⟨a, c, rfl, -, -, -⟩ := SliceAt.len h
  obtain ⟨a', c', rfl, -, -, -⟩ := SliceAt.len k
  obtain ⟨n, hn⟩ : ∃ n, n = bs.length := ⟨_, rfl⟩
  obtain ⟨n', hn'⟩ : ∃ n', n' = ds.length := ⟨_, rfl⟩
  rw [← hn] at h hbl ⊢
  rw [← hn'] at k ⊢
  have HN := Lib.hid hn
  have HN' := Lib.hid hn'
  clear hn hn'
  go_enter Try.func73, Try.ntmps73
  go_wp2
  go_loopw [5] (fun i wr => ∃ j : Nat, j ≤ n ∧ j ≤ n' ∧ i = .int .i64 j ∧ Hid (Lib.compareBytes bs ds = Lib.compareBytes (bs.drop j) (ds.drop j)) ∧ Hid (∃ m, wr = w.drewN m)) (fun i _ => n - (intOf i).toNat)
  case atStart => exact ⟨0, Nat.zero_le _, Nat.zero_le _, rfl, rfl, 0, rfl⟩
  case round =>
    obtain ⟨j, hj, hj', rfl, HC, HM⟩ := hrel
    obtain ⟨m, rfl⟩ := HM.out
    have hN := HN.out
    have hN' := HN'.out
    by_cases hlt : j < n
    · by_cases hlt' : j < n'
      · rcases SliceAt.split h with ⟨_, h0⟩ | ⟨b, o, rfl, -, -, -⟩
        · omega
        rcases SliceAt.split k with ⟨_, h0⟩ | ⟨b', o', rfl, -, -, -⟩
        · omega
        have c1 := BytesAt.cell h j (by omega)
        have c2 := BytesAt.cell k j (by omega)
        have hd := compareBytes_drop bs ds j (by omega) (by omega)
        obtain ⟨x, hx⟩ : ∃ x, x = bs[j]'(by omega) := ⟨_, rfl⟩
        obtain ⟨y, hy⟩ : ∃ y, y = ds[j]'(by omega) := ⟨_, rfl⟩
        rw [← hx, ← hy] at hd
        rw [← hx] at c1
        rw [← hy] at c2
        have HD := Lib.hid (HC.out.trans hd)
        clear hd hx hy hN hN' HM HC
        have z4 : (j : Int) < (n : Int) := by omega
        have z5 : (j : Int) < (n' : Int) := by omega
        by_cases hxy : x = y
        · subst hxy
          have hne : ((x.toNat : Int) != (x.toNat : Int)) = false := by simp
          go_wp2
          go_quiet (fail)
          go_wp2
          go_roundw
          case rel => exact ⟨j + 1, by omega, by omega, num_eq (by omega), (by show _ = _; rw [HD.out]; simp), m + nq, rfl⟩
          case measure => simp [intOf]; omega
        · have hne' : x.toNat ≠ y.toNat := fun e => hxy (UInt8.toNat_inj.1 e)
          have hne : ((x.toNat : Int) != (y.toNat : Int)) = true := by simp; omega
          clear hne'
          go_wp2
          go_quiet (fail)
          go_wp2
          go_quiet (fail)
          go_wp2
          go_ret
          refine ⟨ret_bool ?_, _, by rw [World.drewN_drewN, World.drewN_drewN]⟩
          rw [HD.out]
          have e : ((x.toNat : Int) < (y.toNat : Int)) ↔ x < y := by rw [UInt8.lt_iff_toNat_lt]; omega
          by_cases hl : x < y
          · have e2 := e.2 hl
            simp [hl]; simpa using e2
          · have : y < x := by rw [UInt8.lt_iff_toNat_lt] at hl ⊢; have : x.toNat ≠ y.toNat := fun e => hxy (UInt8.toNat_inj.1 e); omega
            have e2 : ¬ (x.toNat : Int) < (y.toNat : Int) := fun h => hl (e.1 h)
            simp [hl, this]; simpa using e2
      · go_wp2
        go_ret
        exact ⟨ret_bool (by rw [HC.out, compareBytes_end bs ds j (by omega) (by omega) (.inr (by omega)), ← HN.out, ← HN'.out]; first | done | simp), m, rfl⟩
    · go_wp2
      go_ret
      exact ⟨ret_bool (by rw [HC.out, compareBytes_end bs ds j (by omega) (by omega) (.inl (by omega)), ← HN.out, ← HN'.out]; first | done | simp), m, rfl⟩

set_option maxRecDepth 100000 in
set_option maxHeartbeats 1000000 in
theorem rrises_any (F : Nat → Prop) (w : World) (v : Value) (l : List (List UInt8)) (h : RowsAt F w v l) (hl : l.length ≤ 1152921504606846976) (hlen : ∀ x ∈ l, x.length ≤ 1152921504606846976) :
    Calls Try.prog 44 #[v] w fun e w' => e = .returned (.bool (rising l)) ∧ ∃ m, w' = w.drewN m := by
  obtain ⟨a, c, rfl, -, -, -⟩ := SliceAt.len h
  obtain ⟨n, hn⟩ : ∃ n, n = l.length := ⟨_, rfl⟩
  rw [← hn] at h hl ⊢
  have HN := Lib.hid hn
  have HLEN := Lib.hid hlen
  clear hn hlen
  go_enter Try.func44, Try.ntmps44
  go_wp2
  go_loopw [3] (fun i wr => ∃ k : Nat, 1 ≤ k ∧ k ≤ n + 1 ∧ i = .int .i64 k ∧ Hid (rising l = rising (l.drop (k - 1))) ∧ Hid (∃ m, wr = w.drewN m)) (fun i _ => n + 1 - (intOf i).toNat)
  case atStart => exact ⟨1, Nat.le_refl _, by omega, rfl, rfl, 0, rfl⟩
  case round =>
    obtain ⟨k, h1, hk, rfl, HR, HM⟩ := hrel
    have hwr : RowsAt F wr (.slice a n c) l := by
      obtain ⟨m, hm⟩ := HM.out
      rw [hm]; exact RowsAt.carry h (fun _ _ x => x) (fun _ _ _ => rfl)
    have hN := HN.out
    by_cases hlt : k < n
    · rcases SliceAt.split hwr with ⟨_, h0⟩ | ⟨b, o, rfl, -, -, -⟩
      · omega
      obtain ⟨u1, c1, t1⟩ := RowsAt.cell hwr (k - 1) (by omega)
      obtain ⟨u2, c2, t2⟩ := RowsAt.cell hwr k (by omega)
      have hx1l := HLEN.out _ (List.getElem_mem (show k - 1 < l.length by omega))
      obtain ⟨x1, hx1⟩ : ∃ x, x = l[k - 1]'(by omega) := ⟨_, rfl⟩
      obtain ⟨x2, hx2⟩ : ∃ x, x = l[k]'(by omega) := ⟨_, rfl⟩
      have hst := rising_step l k h1 (by omega)
      rw [← hx1, ← hx2] at hst
      rw [← hx1] at t1 hx1l
      rw [← hx2] at t2
      have HS := Lib.hid (HR.out.trans hst)
      clear hst hx1 hx2 hN HR hwr
      have hadd : ((k : Int) - 1).toNat = k - 1 := by omega
      have hwr1 : IntKind.i64.wrap ((k : Int) - 1) = (k : Int) - 1 := IntWalk.i64_in _ (by omega)
      have z1 : (1 : Int) ≤ (k : Int) := by omega
      have z2 : (0 : Int) ≤ (k : Int) - 1 := by omega
      have z3 : (k : Int) - 1 < (n : Int) := by omega
      have z4 : (k : Int) < (n : Int) := by omega
      go_wp2
      go_quiet (((go_at_call 73; exact Calls.quiet_of (ahead_any F F _ u1 u2 x1 x2 (t1.draws _) (t2.draws _) hx1l))))
      clear t1 t2 c1 c2 hx1l
      by_cases hneg : Lib.compareBytes x1 x2 < 0
      · have hdn : decide (Lib.compareBytes x1 x2 < 0) = true := by simpa using hneg
        have HDN := Lib.hid hdn
        rw [hdn]
        clear hdn hneg
        go_wp2
        go_roundw
        case rel => exact ⟨k + 1, by omega, by omega, num_eq (by omega), (by show _ = _; rw [HS.out, HDN.out]; rfl), (by obtain ⟨m, hm⟩ := HM.out; rw [hm]; exact ⟨_, World.drewN_drewN _ _ _⟩)⟩
        case measure => simp [intOf]; omega
      · have hdn : decide (Lib.compareBytes x1 x2 < 0) = false := by simpa using hneg
        have HDN := Lib.hid hdn
        rw [hdn]
        clear hdn hneg
        go_wp2
        go_ret
        exact ⟨ret_bool (by rw [HS.out, HDN.out]; rfl), (by obtain ⟨m, hm⟩ := HM.out; rw [hm]; exact ⟨_, World.drewN_drewN _ _ _⟩)⟩
    · go_wp2
      go_ret
      exact ⟨ret_bool (by rw [HR.out, rising_end l k (by omega)]), HM.out⟩

end Go.Proofs.Ytndkkgkcbbmnpaa
namespace Go.Proofs.Ytndkkgkcbbmnpaa
open Go.RowKit Go.Pg

theorem pairR {F : Nat → Prop} {w2 w3 w4 : World} {N C : List (List UInt8)} {v1 u1 v2 u2 : Value} (h4 : Below w3.heap.size w3 w4)
    (hit3 : ItemAt F w3 2 [.bool true, v1, v2] (textsI N)) (hit4 : ItemAt F w4 2 [.bool true, u1, u2] (textsI C)) (hs : w2.heap.size ≤ w4.heap.size) (t : TypeId) :
    ItemAt (fun b => F b ∨ w2.heap.size ≤ b) (w4.alloc (.cells #[.bool true, v1, v2, .bool true, u1, u2] t)) 3 [.bool true, .slice none 0 0, .slice (some ⟨w4.heap.size, 0, none⟩) 2 2] (witI N C) := by
  have h1 : ItemAt F w4 2 [.bool true, v1, v2] (textsI N) := hit3.below h4
  exact ⟨_, _, rfl, SliceAt.nil _ _ _ _, rows_alloc (l := [textsI N, textsI C]) (carriedItem 2) ((Rows.one h1 rfl).append (Rows.one hit4 rfl)) (show 2 ≤ maxLen by decide) (fun _ _ x => .inl x) (.inr hs) t⟩

set_option maxRecDepth 100000 in
set_option maxHeartbeats 2000000 in
theorem rwencode_any (F : Nat → Prop) (w : World) (a1 a2 : Option Addr) (n1 c1 n2 c2 : Nat) (N C : List (List UInt8)) (hN : RowsAt F w (.slice a1 n1 c1) N) (hC : RowsAt F w (.slice a2 n2 c2) C)
    (hNl : N.length ≤ 1099511627776) (hCl : C.length ≤ 1099511627776) (hNx : ∀ x ∈ N, x.length ≤ 140737488351232) (hCx : ∀ x ∈ C, x.length ≤ 140737488351232) (hw : (witI N C).whole ≤ 140737488351232) :
    Calls Try.prog 14 #[.agg #[.slice a1 n1 c1, .slice a2 n2 c2]] w (Encd w (witEncode N C)) := by
  have HW := Lib.hid hw
  have HNX := Lib.hid (fun x hx => Nat.le_trans (hNx x hx) (show 140737488351232 ≤ 1152921504606846976 by omega))
  have HCX := Lib.hid (fun x hx => Nat.le_trans (hCx x hx) (show 140737488351232 ≤ 1152921504606846976 by omega))
  replace hN : RowsAt (fun b => F b ∧ b < w.heap.size) w _ N := RowsAt.carry hN (fun b hb hF => ⟨hF, hb⟩) (fun _ _ _ => rfl)
  replace hC : RowsAt (fun b => F b ∧ b < w.heap.size) w _ C := RowsAt.carry hC (fun b hb hF => ⟨hF, hb⟩) (fun _ _ _ => rfl)
  obtain ⟨W0, hW0⟩ : ∃ W0, W0 = w.alloc (.cells #[.slice a1 n1 c1, .slice a2 n2 c2] 24) := ⟨_, rfl⟩
  have hb0 : Below w.heap.size w W0 := by rw [hW0]; exact Bel.alloc (Bel.refl w) _
  have hk0 : W0.heap[w.heap.size]? = some (.cells #[.slice a1 n1 c1, .slice a2 n2 c2] 24 (0, 0)) := by rw [hW0]; exact heap_alloc_new w _
  have HW0 := Lib.hid hW0
  clear hw hNx hCx hW0
  obtain ⟨r1, hr1⟩ : ∃ r, r = rising N := ⟨_, rfl⟩
  obtain ⟨r2, hr2⟩ : ∃ r, r = rising C := ⟨_, rfl⟩
  have HR1 := Lib.hid hr1
  have HR2 := Lib.hid hr2
  clear hr1 hr2
  have hN0 := RowsAt.below hN hb0
  have hC0 := RowsAt.below hC hb0
  obtain ⟨p0, p1⟩ := cells2 hk0
  have hsz0 := (Array.getElem?_eq_some_iff.1 hk0).1
  have HK0 := Lib.hid hk0
  have HB0 := Lib.hid hb0
  clear hk0 hb0
  go_enter Try.func14, Try.ntmps14
  go_wp2_with fail
  rw [← HW0.out]
  refine (rrises_any (fun b => F b ∧ b < w.heap.size) W0 _ N hN0 (by omega) HNX.out).mono ?_
  rintro e w1 ⟨rfl, m1, rfl⟩
  rw [← HR1.out]
  have hC1 : RowsAt (fun b => F b ∧ b < w.heap.size) (W0.drewN m1) _ C := RowsAt.carry hC0 (fun _ _ x => x) (fun _ _ _ => rfl)
  go_wp2_with fail
  refine (rrises_any (fun b => F b ∧ b < w.heap.size) (W0.drewN m1) _ C hC1 (by omega) HCX.out).mono ?_
  rintro e w2' ⟨rfl, m2, rfl⟩
  rw [← HR2.out]
  clear hC1
  obtain ⟨w2, hw2⟩ : ∃ w2, w2 = (W0.drewN m1).drewN m2 := ⟨_, rfl⟩
  have HB2 : Hid (Below w.heap.size w w2) := by rw [hw2]; exact ⟨(HB0.out).os, (HB0.out).tape, (HB0.out).output, (HB0.out).size, (HB0.out).block⟩
  have hh2 : w2.heap = W0.heap := by rw [hw2]; rfl
  have q0 : w2.cell? ⟨w.heap.size, 0, none⟩ = some (.slice a1 n1 c1) := by rw [hw2]; exact p0
  have q1 : w2.cell? ⟨w.heap.size, 1, none⟩ = some (.slice a2 n2 c2) := by rw [hw2]; exact p1
  have hN2 : ∀ W : World, W.heap = w2.heap → RowsAt (fun b => F b ∧ b < w.heap.size) W (.slice a1 n1 c1) N := fun W hW => RowsAt.carry hN0 (fun _ _ x => x) (fun b _ _ => by rw [hW, hh2])
  have hC2 : ∀ W : World, W.heap = w2.heap → RowsAt (fun b => F b ∧ b < w.heap.size) W (.slice a2 n2 c2) C := fun W hW => RowsAt.carry hC0 (fun _ _ x => x) (fun b _ _ => by rw [hW, hh2])
  have hkeep : ∀ W, Below w2.heap.size w2 W → W.cell? ⟨w.heap.size, 0, none⟩ = some (.slice a1 n1 c1) ∧ W.cell? ⟨w.heap.size, 1, none⟩ = some (.slice a2 n2 c2) := fun W hW => ⟨cell_below hW q0, cell_below hW q1⟩
  have HN2 := Lib.hid hN2
  have HC2 := Lib.hid hC2
  have HK2 := Lib.hid hkeep
  clear hN2 hC2 hkeep hh2 p0 p1
  go_wp2_with fail
  rw [World.drewN_drewN] at hw2
  rw [← hw2]
  clear hw2
  go_region_held3 (fun w' => w'.cell? ⟨w.heap.size, 0, none⟩ = some (.slice a1 n1 c1) ∧ w'.cell? ⟨w.heap.size, 1, none⟩ = some (.slice a2 n2 c2)) (first | go_keep | exact HK2.out _ (by assumption) | exact HK2.out _ (Bel.alloc (by assumption) _))
    (first
      | (go_at_call_of 46 (Value.slice a1 n1 c1); refine (rtexts_any (fun b => F b ∧ b < w.heap.size) _ _ N ?_ hNl).mono ?_; (exact HN2.out _ rfl); rintro e w3 ⟨v3, rfl, hit3, hb3⟩; have hB3 : Below w2.heap.size w2 w3 := Bel.call (Bel.drew (Bel.refl w2)) hb3; obtain ⟨-, x1, y1, z1, x2, y2, z2, -, rfl, -, -⟩ := ItemAt.form hit3)
      | (go_at_call_of 46 (Value.slice a2 n2 c2); refine (rtexts_any (fun b => F b ∧ b < w.heap.size) _ _ C ?_ hCl).mono ?_; (exact RowsAt.below (HC2.out w2.drew rfl) hb3); rintro e w4 ⟨v4, rfl, hit4, hb4⟩; have hB4 : Below w2.heap.size w2 w4 := Bel.call hB3 hb4; obtain ⟨-, x1', y1', z1', x2', y2', z2', -, rfl, -, -⟩ := ItemAt.form hit4)
      | (go_at_call 45; refine (rencode_any _ _ 3 (witI N C) _ _ _ (pairR (F := fun b => (F b ∧ b < w.heap.size) ∨ w2.heap.size ≤ b) (w2 := w2) hb4 (hit3.carry (fun b _ hb => hb) (fun _ _ _ => rfl)) (hit4.carry (fun b _ hb => hb.imp id (fun h => Nat.le_trans hB3.size h)) (fun _ _ _ => rfl)) hB4.size _) HW.out).mono ?_; rintro e w6 ⟨v6, rfl, ho6, hb6⟩; have hB6 : Below w2.heap.size w2 w6 := Bel.call (Bel.alloc hB4 _) hb6))
  have HB6 := Lib.hid (Below.trans HB2.out (hB6.mono (HB2.out).size))
  obtain ⟨E, hE⟩ : ∃ E, E = (witI N C).encode := ⟨_, rfl⟩
  rw [← hE] at ho6 ⊢
  have HE := Lib.hid hE
  have hbase := (HB2.out).size
  have hbase4 := hB4.size
  have ho7 := ho6.lower (base' := w.heap.size) (by simp; omega)
  have HO7 := Lib.hid ho7
  clear hE hB3 hB4 hB6 hb3 hb4 hb6 hit3 hit4 ho6 ho7 q0 q1
  have hfin : witEncode N C = if r1 && r2 then (if E.2 = 0 then (E.1, 0) else ([], 210)) else ([], 210) := by
    unfold witEncode; rw [← HR1.out, ← HR2.out, ← HE.out]
  have HF := Lib.hid hfin
  clear hfin
  by_cases he : E.2 = 0
  · have he2 : (((E.2 : Nat) : Int) != 0) = false := by simp; omega
    cases r1
    · go_wp2
      go_ret2
      exact ⟨.slice none 0 0, by rw [HF.out]; rfl, by rw [HF.out]; exact OwnAt.nil _ _ _ _ _, HB6.out⟩
    · cases r2
      · go_wp2
        go_ret2
        exact ⟨.slice none 0 0, by rw [HF.out]; rfl, by rw [HF.out]; exact OwnAt.nil _ _ _ _ _, HB6.out⟩
      · have HF3 : Hid (witEncode N C = (E.1, 0)) := by show _ = _; rw [HF.out]; simp [he]
        go_wp2
        go_ret2
        exact ⟨v6, by rw [HF3.out]; rfl, by rw [HF3.out]; exact HO7.out, HB6.out⟩
  · have he2 : (((E.2 : Nat) : Int) != 0) = true := by simp; omega
    have hfin2 : witEncode N C = ([], 210) := by rw [HF.out]; rw [if_neg he]; split <;> rfl
    have HF2 := Lib.hid hfin2
    clear hfin2
    cases r1
    all_goals
      cases r2
      all_goals
        go_wp2
        go_ret2
        exact ⟨.slice none 0 0, by rw [HF2.out]; rfl, by rw [HF2.out]; exact OwnAt.nil _ _ _ _ _, HB6.out⟩

end Go.Proofs.Ytndkkgkcbbmnpaa
