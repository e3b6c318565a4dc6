/-
  Contract of pergolaref02.Bytes.
-/
import Derived.Test.YtndkkgkcbbmnpaaRefB
namespace Go.Proofs.Ytndkkgkcbbmnpaa
open Go.RowKit Go.Pg

theorem head_int (b m : Int) (base n : Nat) (w : World) (hb : b = base) (hm : m = n) (h1 : base ≤ 192) (hn : n < 16777216) :
    Calls Try.prog 93 #[.int .i64 b, .int .i64 m] w (Fresh w 5 1 byteR (headB base n)) := by
  subst hb; subst hm; exact head_any base n w h1 hn

set_option maxRecDepth 100000 in
set_option maxHeartbeats 1000000 in
theorem rbytes_step {d : Nat} (hd0 : RBodyC d) : RBytesC d := by
  intro F w x l v1 v2 h hx
  obtain ⟨hl, a1, n1, c1, a2, n2, c2, rfl, rfl, -, -⟩ := ItemAt.form h
  obtain ⟨i0, hi, hz0, hz1, hz2⟩ := info_parts infoU8
  obtain ⟨W0, hW0⟩ : ∃ W0, W0 = w.alloc (.cells #[.bool l, .slice a1 n1 c1, .slice a2 n2 c2] 65) := ⟨_, rfl⟩
  have hb0 : Below w.heap.size w W0 := by rw [hW0]; exact Bel.alloc (Bel.refl w) _
  have hk0 : W0.heap[w.heap.size]? = some (.cells #[.bool l, .slice a1 n1 c1, .slice a2 n2 c2] 65 (0, 0)) := by rw [hW0]; exact heap_alloc_new w _
  have h0 := h.below hb0
  have HD := Lib.hid hd0
  have HX := Lib.hid hx
  have HW0 := Lib.hid hW0
  have hsz0 := (Array.getElem?_eq_some_iff.1 hk0).1
  have hbl := It.bodyB_length x
  obtain ⟨B, hB⟩ : ∃ B, B = x.bodyB := ⟨_, rfl⟩
  obtain ⟨n, hn⟩ : ∃ n, n = B.length := ⟨_, rfl⟩
  rw [← hB, ← hn] at hbl
  have hnb : n ≤ 16777215 := by omega
  have hnb' : (n : Int) ≤ 16777215 := by omega
  have HN := Lib.hid hn
  have HB := Lib.hid hB
  have HBL := Lib.hid hbl
  have HK0 := Lib.hid hk0
  have HB0 := Lib.hid hb0
  have HNB := Lib.hid hnb
  clear hd0 hx hW0 h hn hB hbl hk0 hb0 hnb
  by_cases hp : x.plain = true
  · obtain ⟨c, hc⟩ : ∃ c : UInt8, x = .text [c] ∧ c.toNat < 128 := by
      cases x with
      | list l => simp [It.plain] at hp
      | text b =>
        simp only [It.plain, plainB, Bool.and_eq_true, beq_iff_eq, decide_eq_true_eq] at hp
        match b, hp with
        | [c], hp => exact ⟨c, rfl, by simpa using hp.2⟩
    obtain ⟨rfl, hc⟩ := hc
    obtain rfl : l = false := hl
    obtain rfl : B = [c] := HB.out
    obtain rfl : n = 1 := HN.out
    go_enter Try.func76, Try.ntmps76
    go_wp2_with fail
    rw [← HW0.out]
    refine (HD.out F W0 (.text [c]) _ _ _ h0 HX.out).mono ?_
    rintro e w2 ⟨v2, rfl, ho, hb2⟩
    have hbk : w2.heap[w.heap.size]? = some (.cells #[.bool false, .slice a1 n1 c1, .slice a2 n2 c2] 65 (0, 0)) := by rw [hb2.block _ hsz0]; exact HK0.out
    obtain ⟨q0, q1, q2⟩ := cells3 hbk
    have hs : BytesAt (fun _ => True) w2 v2 [c] := ho.at (fun _ _ _ _ => trivial) (by decide)
    rcases SliceAt.cases hs with ⟨h, _⟩ | ⟨g, o, c', rfl, -, -, -, -⟩
    · cases h
    have hcell := BytesAt.cell hs 0 (by simp)
    simp at hcell
    have hc' : (c.toNat : Int) < 128 := by omega
    have HO := Lib.hid ho
    have HB2 := Lib.hid (Bel.call HB0.out hb2)
    have hbase := (HB0.out).size
    clear ho hb2 hbk hs
    go_wp2
    go_ret
    refine ⟨_, rfl, ?_, HB2.out⟩
    have : (It.text [c]).enc = [c] := by simp only [It.enc]; rw [if_pos (by simpa [It.plain] using hp)]
    rw [this]
    exact (HO.out).lower hbase
  · have hp' : x.plain = false := by simpa using hp
    have hle : Hid (x.enc = headB x.base n ++ B) := by
      show _ = _
      rw [It.enc_eq, hp', HBL.out, HB.out]; rfl
    have hcase : (l = true ∧ Hid ((x.base : Int) = 192)) ∨ (l = false ∧ Hid ((x.base : Int) = 128) ∧ (n = 1 → ∃ c : UInt8, B = [c] ∧ 128 ≤ c.toNat)) := by
      unfold It.base Hid
      cases x with
      | list l' => exact .inl ⟨hl, by simp [It.isList]⟩
      | text b =>
        refine .inr ⟨hl, by simp [It.isList], fun h1 => ?_⟩
        have hBb : B = b := HB.out
        have hnn := HN.out
        rw [hBb] at hnn
        match b, hnn.symm.trans h1 with
        | [c], _ =>
          refine ⟨c, hBb, ?_⟩
          simp [It.plain, plainB] at hp'
          omega
    have hcases : (l = true ∧ Hid ((x.base : Int) = 192)) ∨ (l = false ∧ Hid ((x.base : Int) = 128) ∧ n ≠ 1) ∨ (l = false ∧ Hid ((x.base : Int) = 128) ∧ n = 1 ∧ ∃ c : UInt8, B = [c] ∧ 128 ≤ c.toNat) := by
      rcases hcase with h | ⟨h1, h2, h3⟩
      · exact .inl h
      · by_cases hn1 : n = 1
        · exact .inr (.inr ⟨h1, h2, hn1, h3 hn1⟩)
        · exact .inr (.inl ⟨h1, h2, hn1⟩)
    have hsz : (headB x.base n).length + n = sz n := headB_length _ _
    obtain ⟨hd, hhd⟩ : ∃ hd, hd = headB x.base n := ⟨_, rfl⟩
    rw [← hhd] at hle hsz
    have hszl : sz n ≤ n + 9 := by
      unfold sz; split
      · omega
      · have := number_le 8 n (by have := HNB.out; omega); omega
    have hdl : hd.length ≤ 16 := by omega
    have HHD := Lib.hid hhd
    clear hcase hhd hsz hszl hp hp' hl
    rcases hcases with ⟨rfl, hbz⟩ | ⟨rfl, hbz, hn1⟩ | ⟨rfl, hbz, hn1, c, hBc, hc⟩
    case' inl => have ht1 : True := trivial
    case' inr.inl => have ht1 : ((n : Int) == 1) = false := by simp; omega
    case' inr.inr =>
      have hc' : ¬ (c.toNat : Int) < 128 := by omega
      have HBC := Lib.hid hBc
      obtain rfl := hn1
      clear hBc hc
    all_goals
      go_enter Try.func76, Try.ntmps76
      go_wp2_with fail
      rw [← HW0.out]
      refine (HD.out F W0 x _ _ _ h0 HX.out).mono ?_
      rintro e w2 ⟨v2, rfl, ho, hb2⟩
      have hbk := (hb2.block _ hsz0).trans HK0.out
      obtain ⟨q0, q1, q2⟩ := cells3 hbk
      rw [← HB.out] at ho
      have hs : BytesAt (fun _ => True) w2 v2 B := ho.at (fun _ _ _ _ => trivial) (by decide)
      obtain ⟨ab, cb, rfl, -, -, -⟩ := SliceAt.len hs
      rw [← HN.out] at hs ⊢
      try (
        have hs' := hs
        rw [HBC.out] at hs'
        rcases SliceAt.split hs' with ⟨h, _⟩ | ⟨g, o, rfl, -, -, -⟩
        · cases h
        have hcell := BytesAt.cell hs' 0 (by simp)
        simp at hcell
        clear hs')
      have HB2 := Lib.hid (Bel.call HB0.out hb2)
      have HS := Lib.hid hs
      have hbase := Nat.le_trans (HB0.out).size hb2.size
      clear ho hb2 hbk hs
      go_wp2_with fail
      refine (head_int _ _ x.base _ w2 hbz.out.symm rfl (by have := hbz.out; omega) (by first | (have := HNB.out; omega) | exact (show (1 : Nat) < 16777216 by omega))).mono ?_
      rintro e w3 ⟨v3, rfl, ho3, hb3⟩
      have hd' := HHD.out
      have ho3' := ho3
      rw [← hd'] at ho3'
      have HO3 := Lib.hid ho3'
      have HS3 := Lib.hid (BytesAt.below HS.out hb3)
      have HB3 := Lib.hid (Bel.call HB2.out hb3)
      have hbase3 := hb3.size
      have hle3 : (hd.length + B.length) * 1 ≤ 140737488355328 := by have := HN.out; have := HNB.out; omega
      clear ho3 ho3' hb3 hd'
      go_wp2_with (at_builtin; refine wpList_append_at rfl (.tmp 29) (.tmp 30) 25 rfl w2.heap.size 5 i0 (.int .u8 0) 1 1 underlying25 hi hz0 hz1 hz2 rfl (by decide) (by decide) byteR.one _ hd rfl HO3.out _ B (fun _ => True) rfl HS3.out hle3 hbase3 ?_; intro v4 w4 ho hg hm)
      go_ret
      refine ⟨v4, rfl, ?_, ?_⟩
      · rw [hle.out]; exact ho.lower hbase
      · exact (HB3.out).grown hg (HB3.out).size (fun k hk => by have := ((HO3.out).own k hk).1; omega)
theorem rbytes (d : Nat) : RBodyC d ∧ RBytesC d := by
  induction d with
  | zero => exact ⟨fun _ _ _ _ _ _ h => h.elim, fun _ _ _ _ _ _ h => h.elim⟩
  | succ d ih => have hb := rbody_step ih.2; exact ⟨hb, rbytes_step hb⟩
theorem rbytes_any (d : Nat) : RBytesC d := (rbytes d).2
end Go.Proofs.Ytndkkgkcbbmnpaa
