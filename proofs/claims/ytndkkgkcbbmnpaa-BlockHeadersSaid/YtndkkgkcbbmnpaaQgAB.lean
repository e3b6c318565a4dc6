/-
  Contract of nest.write.
  Contracts of nest.write (whole), slices.Clone at bytes and at items, nest.Text, nest.List.
  Contract of (*nest.looker).look: what is amiss with an item.
  Contract of nest.Encode.
  Cutting a slice of bytes: how what is cut reads.
  Reading items out of bytes, as plain functions: an error's number (0: none), what was read, and the bytes behind it.
-/
import Derived.Test.YtndkkgkcbbmnpaaQgAA
import Derived.BigRegion
namespace Go.Proofs.Ytndkkgkcbbmnpaa
open Go.RowKit Go.Pg

theorem underlying25 : Try.prog.underlying 25 = some (.slice 5) := Try.underlying25
theorem infoU8 : (Try.prog.info? 5).map (fun i => (i.zero, i.size, i.bytes)) = some (some (.int .u8 0), 1, 1) := by kernel_rfl

/-- What nest.write holds to from its beginning in w on: v owns bs; the item's box stands; of what was there only v0's own block may have turned. -/
structure WInv (w : World) (base : Nat) (cs : Array Value) (v0 : Value) (W : World) (v : Value) (bs : List UInt8) : Prop where
  own : OwnAt W base 5 1 byteR v bs
  grown : w.grownBy W v0.ownBlock
  orig : ∀ g, v.ownBlock = some g → v0.ownBlock = some g ∨ w.heap.size < g
  own0 : ∀ g, v0.ownBlock = some g → base ≤ g ∧ g < w.heap.size
  box : W.heap[w.heap.size]? = some (.cells cs 65 (0, 0))
  size : w.heap.size < W.heap.size
theorem WInv.start {w : World} {base : Nat} {cs : Array Value} {v : Value} {bs : List UInt8} (h : OwnAt w base 5 1 byteR v bs) : WInv w base cs v (w.alloc (.cells cs 65)) v bs :=
  ⟨h.carry (fun g _ _ hlt => Below.heap_alloc _ _ _ hlt), World.grownBy_alloc _ _ _, fun g hg => .inl hg, h.own, heap_alloc_new w _, by simp⟩
section
variable {w : World} {base : Nat} {cs : Array Value} {v0 : Value} {W W' : World} {v v' : Value} {bs m : List UInt8}
theorem WInv.append (h : WInv w base cs v0 W v bs)
    (ho : OwnAt W' base 5 1 byteR v' (bs ++ m)) (hg : W.grownBy W' v.ownBlock) (hw : Moved W v v') : WInv w base cs v0 W' v' (bs ++ m) := by
  have hs := h.size
  have apart : ∀ g, v.ownBlock = some g → g ≠ w.heap.size := fun g hg' e => by
    rcases h.orig g hg' with h1 | h1
    · have := (h.own0 g h1).2; omega
    · omega
  refine ⟨ho, ⟨hg.os.trans h.grown.os, hg.tape.trans h.grown.tape, hg.output.trans h.grown.output, Nat.le_trans h.grown.size hg.size, fun k hk hn => ?_⟩, ?_, h.own0, ?_, Nat.lt_of_lt_of_le hs hg.size⟩
  · rw [hg.block k (by omega) (fun e => ?_)]
    · exact h.grown.block k hk hn
    · rcases h.orig k e.symm with h1 | h1
      · exact hn h1.symm
      · omega
  · intro g hg'
    rcases hw g hg' with h1 | h1
    · exact h.orig g h1
    · exact .inr (by omega)
  · rw [hg.block _ hs (fun e => apart _ e.symm rfl)]; exact h.box
theorem WInv.call (h : WInv w base cs v0 W v bs) (hc : Below W.heap.size W W') : WInv w base cs v0 W' v bs := by
  have hs := h.size
  have hg := h.grown
  exact ⟨h.own.carry (fun g _ _ hlt => hc.block g hlt), ⟨hc.os.trans hg.os, hc.tape.trans hg.tape, hc.output.trans hg.output, Nat.le_trans hg.size hc.size, fun k hk hn => (hc.block k (by omega)).trans (hg.block k hk hn)⟩,
    h.orig, h.own0, (hc.block _ hs).trans h.box, Nat.lt_of_lt_of_le hs hc.size⟩
theorem WInv.alloc (h : WInv w base cs v0 W v bs) (o : Obj) : WInv w base cs v0 (W.alloc o) v bs := h.call (Bel.alloc (Bel.refl W) o)
theorem WInv.bel (h : WInv w base cs v0 W v bs) (hb : base ≤ w.heap.size) : Below base w W := (Below.refl _ _).grown h.grown hb (fun k hk => (h.own0 k hk).1)
theorem WInv.base_le (h : WInv w base cs v0 W v bs) (hb : base ≤ w.heap.size) : base ≤ W.heap.size := Nat.le_trans hb (Nat.le_of_lt h.size)
theorem WInv.cells {l : Bool} {v1 v2 : Value} (h : WInv w base #[.bool l, v1, v2] v0 W v bs) :
    W.cell? ⟨w.heap.size, 0, none⟩ = some (.bool l) ∧ W.cell? ⟨w.heap.size, 1, none⟩ = some v1 ∧ W.cell? ⟨w.heap.size, 2, none⟩ = some v2 :=
  ⟨by rw [cell_of_row _ _ _ _ _ _ h.box]; rfl, by rw [cell_of_row _ _ _ _ _ _ h.box]; rfl, by rw [cell_of_row _ _ _ _ _ _ h.box]; rfl⟩
end
/-- what nest.write answers -/
def Wrote (w : World) (base : Nat) (v : Value) (bs : List UInt8) (e : Ending) (w' : World) : Prop :=
  ∃ v', e = .returned v' ∧ OwnAt w' base 5 1 byteR v' bs ∧ w.grownBy w' v.ownBlock ∧ Moved w v v'
theorem WInv.wrote {w : World} {base : Nat} {cs : Array Value} {v0 : Value} {W : World} {v : Value} {bs : List UInt8} (h : WInv w base cs v0 W v bs) : Wrote w base v0 bs (.returned v) W :=
  ⟨v, rfl, h.own, h.grown, fun g hg => (h.orig g hg).imp id Nat.le_of_lt⟩

def WriteC (d : Nat) : Prop := ∀ (F : Nat → Prop) (w : World) (base : Nat) (x : It) (l : Bool) (v1 v2 v : Value) (bs : List UInt8), base ≤ w.heap.size → (∀ b, F b → b < base) →
  ItemAt F w d [.bool l, v1, v2] x → OwnAt w base 5 1 byteR v bs → bs.length + x.whole ≤ 140737488351232 →
  Calls Try.prog 71 #[v, .agg #[.bool l, v1, v2]] w (Wrote w base v (bs ++ x.enc))

set_option maxHeartbeats 400000 in
theorem write_plain {d : Nat} (F : Nat → Prop) (w : World) (base : Nat) (x : It) (l : Bool) (v1 v2 v : Value) (bs : List UInt8) (hb : base ≤ w.heap.size) (hF : ∀ b, F b → b < base)
    (h : ItemAt F w d [.bool l, v1, v2] x) (hown : OwnAt w base 5 1 byteR v bs) (hlen : bs.length + x.whole ≤ 140737488351232) (hp : x.plain = true) :
    Calls Try.prog 71 #[v, .agg #[.bool l, v1, v2]] w (Wrote w base v (bs ++ x.enc)) := by
  obtain ⟨rfl, a1, n1, c1, a2, n2, c2, rfl, rfl, -, -⟩ := ItemAt.form h
  obtain ⟨i0, hi, hz0, hz1, hz2⟩ := info_parts infoU8
  go_enter Try.func71, Try.ntmps71
  go_wp2_with fail
  refine (plain_any (F := F) (d := d) (x := x) ?_).mono ?_
  · exact h.below ((Below.refl _ _).alloc (Nat.le_refl _) _)
  rintro e w1 ⟨rfl, hb1⟩
  have hI : WInv w base #[.bool x.isList, .slice a1 n1 c1, .slice a2 n2 c2] v w1 v bs := (WInv.start hown).call hb1
  have hsrc : BytesAt F w1 (.slice a1 n1 c1) x.bytes := (ItemAt.bytes h).carry (fun _ _ x => x) (fun b hFb _ => (hI.bel hb).block b (hF b hFb))
  have hle : (bs.length + x.bytes.length) * 1 ≤ 140737488355328 := by
    have := It.body_le_whole x; rw [It.body_eq] at this; omega
  have hb1' := hI.base_le hb
  obtain ⟨q0, q1, q2⟩ := hI.cells
  clear hb1
  go_wp2_with (at_builtin; refine wpList_append_at rfl (.tmp 13) (.tmp 15) 25 rfl base 5 i0 (.int .u8 0) 1 1 underlying25 hi hz0 hz1 hz2 rfl (by decide) (by decide) byteR.one _ bs rfl hI.own _ x.bytes F rfl hsrc hle hb1' ?_; intro v' w2 ho hg hw)
  go_ret
  have := (hI.append ho hg hw).wrote
  rwa [It.enc_eq, if_pos hp]

set_option maxHeartbeats 400000 in
set_option maxRecDepth 100000 in
theorem write_long {d : Nat} (hd : WriteC d) (F : Nat → Prop) (w : World) (base : Nat) (x : It) (l : Bool) (v1 v2 v : Value) (bs : List UInt8) (hb : base ≤ w.heap.size) (hF : ∀ b, F b → b < base)
    (h : ItemAt F w (d + 1) [.bool l, v1, v2] x) (hown : OwnAt w base 5 1 byteR v bs) (hlen : bs.length + x.whole ≤ 140737488351232) (hp : x.plain = false) :
    Calls Try.prog 71 #[v, .agg #[.bool l, v1, v2]] w (Wrote w base v (bs ++ x.enc)) := by
  obtain ⟨rfl, a1, n1, c1, a2, n2, c2, rfl, rfl, -, -⟩ := ItemAt.form h
  obtain ⟨i0, hi, hz0, hz1, hz2⟩ := info_parts infoU8
  have HD := Lib.hid hd
  clear hd
  obtain ⟨n, hn⟩ : ∃ n, n = x.body := ⟨_, rfl⟩
  have HN := Lib.hid hn
  have hbw := It.body_le_whole x
  have hle : n ≤ 140737488351232 := by omega
  clear hn hbw
  have hLB : (x.isList = false ∧ (x.base : Int) = 128) ∨ (x.isList = true ∧ (x.base : Int) = 192) := by
    unfold It.base
    cases x.isList <;> simp
  rcases hLB with ⟨hL, hB⟩ | ⟨hL, hB⟩
  all_goals
    have HBB := Lib.hid hB
    clear hB
    rw [hL] at h ⊢
    have HL := Lib.hid hL
    clear hL
    go_enter Try.func71, Try.ntmps71
    go_wp2_with fail
    refine (plain_any (F := F) (d := d + 1) (x := x) ?_).mono ?_
    · exact h.below ((Below.refl _ _).alloc (Nat.le_refl _) _)
    rintro e w1 ⟨rfl, hb1⟩
    have hI : WInv w base #[_, .slice a1 n1 c1, .slice a2 n2 c2] v w1 v bs := (WInv.start hown).call hb1
    clear hb1
    obtain ⟨q0, q1, q2⟩ := hI.cells
    go_wp2_with fail
    refine (body_any (d + 1) F _ x _ _ _ ?_ ?_).mono ?_
    · exact h.carry (fun _ _ x => x) (fun b hFb _ => (hI.bel hb).block b (hF b hFb))
    · rw [← HN.out]; omega
    rintro e w2 ⟨rfl, hb2⟩
    rw [← HN.out]
    replace hI := hI.call hb2
    clear hb2 q0 q1 q2
    obtain ⟨q0, q1, q2⟩ := hI.cells
    obtain ⟨hd, hhd⟩ : ∃ hd, hd = headB x.base n := ⟨_, rfl⟩
    have hsz : hd.length + n = x.whole := by
      rw [hhd, headB_length, It.whole_eq, hp, ← HN.out]; rfl
    have HH := Lib.hid hhd
    have hle1 : (bs.length + hd.length) * 1 ≤ 140737488355328 := by omega
    by_cases h55 : n ≤ 55
    case' pos =>
      have hsrc1 : Hid (BytesAt (fun _ => True) (w2.alloc (.cells #[.int .u8 (x.base + n)] 5)) (.slice (some ⟨w2.heap.size, 0, none⟩) 1 1) hd) := by
        rw [hhd]; unfold headB; rw [if_pos h55]
        exact byte_new _ _ _ _ (by omega) (by unfold It.base; split <;> omega)
      rw [HBB.out] at hsrc1
      clear hhd
      have hb1' := fun o => (hI.alloc o).base_le hb
      go_wp2_with (at_builtin; refine wpList_append_at rfl (.tmp 23) (.tmp 28) 25 rfl base 5 i0 (.int .u8 0) 1 1 underlying25 hi hz0 hz1 hz2 rfl (by decide) (by decide) byteR.one _ bs rfl (hI.alloc _).own _ hd (fun _ => True) rfl hsrc1.out hle1 (hb1' _) ?next1)
      case' next1 => intro v' w3 ho hg hw
      replace hI := (hI.alloc _).append ho hg hw
      clear ho hg hw q0 q1 q2 hle1 hb1' hsrc1
    case' neg =>
      clear hhd
      have hk6 := number_le 6 n (by omega)
      have hk1 : 1 ≤ number n := by rw [number_pos (by omega)]; omega
      go_wp2_with fail
      refine (number_any n _ (by omega)).mono ?_
      rintro e w3 ⟨rfl, rfl⟩
      obtain ⟨k, hk⟩ : ∃ k, k = number n := ⟨_, rfl⟩
      rw [← hk] at hk6 hk1 ⊢
      have HK := Lib.hid hk
      clear hk
      have hb1' := fun o => (hI.alloc o).base_le hb
      have hsrc1 : Hid (BytesAt (fun _ => True) (w2.alloc (.cells #[.int .u8 (x.base + 55 + k)] 5)) (.slice (some ⟨w2.heap.size, 0, none⟩) 1 1) (hd.take 1)) := by
        rw [HH.out]; unfold headB; rw [if_neg h55, ← HK.out]
        exact byte_new _ _ _ _ (by omega) (by unfold It.base; split <;> omega)
      rw [HBB.out] at hsrc1
      simp only [Int.reduceAdd] at hsrc1
      have hle3 : (bs.length + (hd.take 1).length) * 1 ≤ 140737488355328 := by rw [List.length_take]; omega
      have hk : hd.length = k + 1 := by rw [HH.out]; unfold headB; rw [if_neg h55, ← HK.out]; simp [beBytes_length]
      have HKL := Lib.hid hk
      clear hk
      go_wp2_with (at_builtin; refine wpList_append_at rfl (.tmp 32) (.tmp 38) 25 rfl base 5 i0 (.int .u8 0) 1 1 underlying25 hi hz0 hz1 hz2 rfl (by decide) (by decide) byteR.one _ bs rfl (hI.alloc _).own _ (hd.take 1) (fun _ => True) rfl hsrc1.out hle3 (hb1' _) ?_; intro v1 w4 ho hg hw)
      replace hI := (hI.alloc _).append ho hg hw
      clear ho hg hw q0 q1 q2 hb1' hsrc1 hle3
      have HI := Lib.hid hI
      clear hI
      go_loopw [0, 8] (fun s i wr => ∃ (j : Nat) (vr : Value), j ≤ k ∧ i = .int .i64 ((j : Int) - 1) ∧ s = vr ∧ Hid (WInv w base #[.bool _, .slice a1 n1 c1, .slice a2 n2 c2] v wr vr (bs ++ hd.take (1 + (k - j))))) (fun _ i _ => (intOf i + 1).toNat)
      case atStart => exact ⟨k, _, Nat.le_refl _, num_eq (by omega), rfl, by rw [Nat.sub_self]; exact HI.out⟩
      case' round =>
        obtain ⟨j, vr, hj, rfl, rfl, HR⟩ := hrel
        clear HI
        obtain ⟨w3, rfl⟩ : ∃ w3 : World, w3 = wr := ⟨_, rfl⟩
        obtain ⟨v', rfl⟩ : ∃ v' : Value, v' = u0 := ⟨_, rfl⟩
        by_cases hj0 : 0 < j
        case' pos =>
          obtain ⟨y, hy⟩ : ∃ y, y = UInt8.ofNat (n / 256 ^ (j - 1) % 256) := ⟨_, rfl⟩
          obtain ⟨L, hL⟩ : ∃ L, L = hd.take (1 + (k - j)) := ⟨_, rfl⟩
          have HE : Hid (L ++ [y] = hd.take (1 + (k - (j - 1)))) := by
            show _ = _
            have h1 := beBytes_take k n (k - j) (by omega)
            rw [hL, hy, HH.out, headB, if_neg h55, ← HK.out, show 1 + (k - j) = (k - j) + 1 by omega, show 1 + (k - (j - 1)) = (k - j + 1) + 1 by omega, List.take_succ_cons, List.take_succ_cons, h1, show k - 1 - (k - j) = j - 1 by omega]
            rfl
          have hsrc1 : Hid (BytesAt (fun _ => True) (w3.alloc (.cells #[.int .u8 ((n : Int) / 2 ^ (8 * (j - 1)) % 256)] 5)) (.slice (some ⟨w3.heap.size, 0, none⟩) 1 1) [y]) := by
            rw [hy]
            exact byte_new _ _ _ _ (shift_byte n (j - 1)) (Nat.mod_lt _ (by omega))
          rw [← hL] at HR
          have hle3 : ((bs ++ L).length + [y].length) * 1 ≤ 140737488355328 := by rw [List.length_append, hL, List.length_take]; simp; omega
          have hb1' := fun o => ((HR.out).alloc o).base_le hb
          clear hy hL
          go_wp2_with (at_builtin; refine wpList_append_at rfl (.tmp 46) (.tmp 52) 25 rfl base 5 i0 (.int .u8 0) 1 1 underlying25 hi hz0 hz1 hz2 rfl (by decide) (by decide) byteR.one _ (bs ++ L) rfl ((HR.out).alloc _).own _ [y] (fun _ => True) rfl hsrc1.out hle3 (hb1' _) ?_; intro v5 w5 ho hg hw)
          have HI5 := Lib.hid (((HR.out).alloc _).append (m := [y]) ho hg hw)
          clear ho hg hw
          go_roundw
          case rel => exact ⟨j - 1, v5, by omega, num_eq (by omega), rfl, (by rw [← HE.out, ← List.append_assoc]; exact HI5.out)⟩
          case measure => simp [intOf]; omega
        case' neg =>
          obtain rfl : j = 0 := by omega
          have hI := HR.out
          rw [Nat.sub_zero, Nat.add_comm, ← HKL.out, List.take_length] at hI
    all_goals
      obtain ⟨q0, q1, q2⟩ := hI.cells
      have hsrc : BytesAt F w3 (.slice a1 n1 c1) x.bytes := (ItemAt.bytes h).carry (fun _ _ x => x) (fun b hFb _ => (hI.bel hb).block b (hF b hFb))
      have hle2 : ((bs ++ hd).length + x.bytes.length) * 1 ≤ 140737488355328 := by
        have h2 := HN.out
        rw [It.body_eq] at h2
        simp only [List.length_append]; omega
      have hb1' := hI.base_le hb
      go_wp2_with (at_builtin; refine wpList_append_at rfl (.tmp 54) (.tmp 56) 25 rfl base 5 i0 (.int .u8 0) 1 1 underlying25 hi hz0 hz1 hz2 rfl (by decide) (by decide) byteR.one _ (bs ++ hd) rfl hI.own _ x.bytes F rfl hsrc hle2 hb1' ?next)
      case next =>
      intro v'' w4 ho hg hw
      replace hI := hI.append (m := x.bytes) (by first | exact ho | (rw [List.append_assoc]; exact ho)) hg hw
      clear ho hg hw q0 q1 q2 hle2 hb1' hsrc
      obtain ⟨q0, q1, q2⟩ := hI.cells
      have his : ItemsAt F w4 d (.slice a2 n2 c2) x.items := (ItemAt.items h).carry (fun _ _ x => x) (fun b hFb _ => (hI.bel hb).block b (hF b hFb))
      have hbody : x.bytes.length + It.wholes x.items = n := by rw [HN.out, It.body_eq]
      have HF : Hid (bs ++ x.enc = bs ++ hd ++ x.bytes ++ It.encs x.items) := by
        show _ = _
        rw [It.enc_eq, hp, HH.out, ← HN.out, It.bodyB_eq]
        simp only [Bool.false_eq_true, if_false, List.append_assoc]
      rcases SliceAt.split his with ⟨he, rfl⟩ | ⟨b, o, rfl, hn2, hpos, -⟩
      · go_wp2_with fail
        go_rounds 1
        go_ret
        rw [HF.out, he]
        simpa [It.encs] using hI.wrote
      · have HN2 := Lib.hid hn2
        have hn63 : n2 ≤ 140737488351232 := by
          have : x.items.length ≤ It.wholes x.items := It.length_le_wholes _
          omega
        have HS := Lib.hid hsz
        clear hn2 hbody hsz
        have hq := hI.size
        have HI := Lib.hid hI
        have HIS := Lib.hid his
        clear hI his
        go_wp2_with fail
        obtain ⟨w0, hw0⟩ : ∃ w0, w0 = w4 := ⟨_, rfl⟩
        go_loopw [0, 10, 61] (fun s y i wr => ∃ (k : Nat) (vr : Value), k ≤ n2 ∧ i = .int .i64 k ∧ s = vr ∧ Hid (WInv w base #[.bool _, .slice a1 n1 c1, .slice (some ⟨b, o, none⟩) n2 c2] v wr vr (bs ++ hd ++ x.bytes ++ It.encs (x.items.take k)))) (fun _ _ i _ => n2 - (intOf i).toNat)
        case atStart => exact ⟨0, _, Nat.zero_le _, rfl, rfl, (by show WInv _ _ _ _ _ _ _; simpa [It.encs] using HI.out)⟩
        case round =>
          obtain ⟨k, vr, hk, rfl, rfl, HR⟩ := hrel
          have hN := HN2.out
          by_cases hlt : k < n2
          · have hki : k < x.items.length := by omega
            have hwr := HR.out
            have his' := (HIS.out).carry (F' := F) (w' := wr) (fun _ _ x => x) (fun b hFb _ => by rw [hwr.bel hb |>.block b (hF b hFb)]; exact (HI.out.bel hb |>.block b (hF b hFb)).symm)
            obtain ⟨b1, m1, d1, b2, m2, d2, q0, q1, q2, hit⟩ := ItemsAt.cell his' k hki
            obtain ⟨y, hy⟩ : ∃ y, y = x.items[k] := ⟨_, rfl⟩
            obtain ⟨L, hL⟩ : ∃ L, L = bs ++ hd ++ x.bytes ++ It.encs (x.items.take k) := ⟨_, rfl⟩
            have hlen5 : L.length + y.whole ≤ 140737488351232 := by
              have h1 := It.wholes_take_succ x.items k hki
              have h2 := It.wholes_take_le x.items (k + 1)
              have h3 := HN.out
              have h4 := HS.out
              rw [It.body_eq] at h3
              rw [hL, hy]
              simp only [List.length_append, It.encs_length]
              omega
            have HE : Hid (L ++ y.enc = bs ++ hd ++ x.bytes ++ It.encs (x.items.take (k + 1))) := by
              show _ = _
              rw [hL, It.encs_take_succ _ _ hki, ← hy]; simp only [List.append_assoc]
            rw [← hL] at HR hwr
            rw [← hy] at q0 hit
            clear hy hL his' hwr hN
            go_wp2_with fail
            refine (HD.out F _ base y _ _ _ _ L ?_ hF ?_ ?_ hlen5).mono ?_
            · exact ((HR.out).alloc _).base_le hb
            · exact hit.below ((Below.refl _ _).alloc (Nat.le_refl _) _)
            · exact ((HR.out).alloc _).own
            rintro e w5 ⟨v5, rfl, ho5, hg5, hm5⟩
            have HI5 := Lib.hid (((HR.out).alloc _).append ho5 hg5 hm5)
            clear ho5 hg5 hm5
            go_wp2_with fail
            go_roundw
            case rel => exact ⟨k + 1, v5, by omega, num_eq (by omega), rfl, (by show WInv _ _ _ _ _ _ _; rw [← HE.out]; exact HI5.out)⟩
            case measure => simp [intOf]; omega
          · obtain rfl : k = n2 := by omega
            go_wp2
            go_ret
            have := HR.out
            rw [HF.out]
            rw [List.take_of_length_le (by omega)] at this
            exact this.wrote

end Go.Proofs.Ytndkkgkcbbmnpaa
namespace Go.Proofs.Ytndkkgkcbbmnpaa
open Go.RowKit Go.Pg

theorem write_any (d : Nat) : WriteC d := by
  induction d with
  | zero => intro F w base x l v1 v2 v bs _ _ h; exact h.elim
  | succ d ih =>
    intro F w base x l v1 v2 v bs hb hF h hown hlen
    by_cases hp : x.plain = true
    · exact write_plain F w base x l v1 v2 v bs hb hF h hown hlen hp
    · exact write_long ih F w base x l v1 v2 v bs hb hF h hown hlen (by simpa using hp)

theorem cloneB_nil (w : World) :
    Calls Try.prog 79 #[.slice none 0 0] w fun e w' => e = .returned (.slice none 0 0) ∧ w = w' := by
  have heq := fun w a n c => Lib.run_eql_slice_nil (P := Try.prog) w 25 5 a n c 0 0 underlying25
  go_enter Try.func79, Try.ntmps79
  go_wp2
  go_ret
  exact ⟨rfl, rfl⟩

set_option maxHeartbeats 400000 in
theorem cloneB_some (F : Nat → Prop) (w : World) (a : Addr) (n c : Nat) (bs : List UInt8) (h : BytesAt F w (.slice (some a) n c) bs) (hlen : bs.length ≤ 140737488351232) :
    Calls Try.prog 79 #[.slice (some a) n c] w fun e w' => ∃ v', e = .returned v' ∧ OwnAt w' w.heap.size 5 1 byteR v' bs ∧ Below w.heap.size w w' := by
  obtain ⟨i0, hi, hz0, hz1, hz2⟩ := info_parts infoU8
  have hown : OwnAt (w.alloc (.cells #[] 5)) w.heap.size 5 1 byteR (.slice (some ⟨w.heap.size, 0, none⟩) 0 0) ([] : List UInt8) :=
    ⟨[], World.ownsRow_made w #[] 0 (Nat.le_refl _) (by decide) rfl, Rows.nil _ _⟩
  have hsrc : BytesAt F (w.alloc (.cells #[] 5)) (.slice (some a) n c) bs := BytesAt.below h (Bel.alloc (Bel.refl w) _)
  have hle : (([] : List UInt8).length + bs.length) * 1 ≤ 140737488355328 := by simp; omega
  have hb : w.heap.size ≤ (w.alloc (.cells #[] 5)).heap.size := by simp
  have heq := fun w a n c => Lib.run_eql_slice_nil (P := Try.prog) w 25 5 a n c 0 0 underlying25
  go_enter Try.func79, Try.ntmps79
  go_wp2_with (at_builtin; refine wpList_append_at rfl (.tmp 5) (.tmp 6) 25 rfl w.heap.size 5 i0 (.int .u8 0) 1 1 underlying25 hi hz0 hz1 hz2 rfl (by decide) (by decide) byteR.one _ [] rfl hown _ bs F rfl hsrc hle hb ?_; intro v' w2 ho hg hw)
  go_ret
  exact ⟨v', rfl, by simpa using ho, (Bel.alloc (Bel.refl w) _).grown hg hb (fun k hk => (hown.own k hk).1)⟩

theorem underlyingItems : Try.prog.underlying 63 = some (.slice 65) := Try.underlying63
theorem infoItem : (Try.prog.info? 65).map (fun i => (i.zero, i.size, i.bytes)) = some (some (.agg #[.bool false, .slice none 0 0, .slice none 0 0]), 3, 56) := by kernel_rfl

theorem cloneI_nil (w : World) :
    Calls Try.prog 72 #[.slice none 0 0] w fun e w' => e = .returned (.slice none 0 0) ∧ w = w' := by
  have heq := fun w a n c => Lib.run_eql_slice_nil (P := Try.prog) w 63 65 a n c 0 0 underlyingItems
  go_enter Try.func72, Try.ntmps72
  go_wp2
  go_ret
  exact ⟨rfl, rfl⟩

set_option maxHeartbeats 400000 in
theorem cloneI_some (F : Nat → Prop) (w : World) (a : Addr) (n c : Nat) (d : Nat) (l : List It) (h : ItemsAt F w d (.slice (some a) n c) l) (hlen : l.length ≤ 1099511627776) :
    Calls Try.prog 72 #[.slice (some a) n c] w fun e w' => ∃ v', e = .returned v' ∧ OwnAt w' w.heap.size 65 3 (ItemAt F w d) v' l ∧ Below w.heap.size w w' := by
  obtain ⟨i0, hi, hz0, hz1, hz2⟩ := info_parts infoItem
  have hown : OwnAt (w.alloc (.cells #[] 65)) w.heap.size 65 3 (ItemAt F w d) (.slice (some ⟨w.heap.size, 0, none⟩) 0 0) ([] : List It) :=
    ⟨[], World.ownsRow_made w #[] 0 (Nat.le_refl _) (by decide) rfl, Rows.nil _ _⟩
  have hsrc : SliceAt F (w.alloc (.cells #[] 65)) 3 (ItemAt F w d) (.slice (some a) n c) l :=
    SliceAt.carry h (by decide) (fun _ _ x => x) (fun b _ hlt => Below.heap_alloc _ _ _ hlt) (fun _ _ _ h => h)
  have hle : (([] : List It).length + l.length) * 56 ≤ 140737488355328 := by simp; omega
  have hb : w.heap.size ≤ (w.alloc (.cells #[] 65)).heap.size := by simp
  have heq := fun w a n c => Lib.run_eql_slice_nil (P := Try.prog) w 63 65 a n c 0 0 underlyingItems
  go_enter Try.func72, Try.ntmps72
  go_wp2_with (at_builtin; refine wpList_append_at rfl (.tmp 5) (.tmp 6) 63 rfl w.heap.size 65 i0 (.agg #[.bool false, .slice none 0 0, .slice none 0 0]) 3 56 underlyingItems hi hz0 hz1 hz2 rfl (by decide) (by decide) (ItemAt.one d) _ [] rfl hown _ l F rfl hsrc hle hb ?_; intro v' w2 ho hg hw)
  go_ret
  exact ⟨v', rfl, by simpa using ho, (Bel.alloc (Bel.refl w) _).grown hg hb (fun k hk => (hown.own k hk).1)⟩

/-- a slice in new memory -/
def Fresh {α : Type} (w : World) (e : TypeId) (sz : Nat) (R : List Value → α → Prop) (l : List α) (en : Ending) (w' : World) : Prop :=
  ∃ v', en = .returned v' ∧ OwnAt w' w.heap.size e sz R v' l ∧ Below w.heap.size w w'
theorem cloneB_any (F : Nat → Prop) (w : World) (v : Value) (bs : List UInt8) (h : BytesAt F w v bs) (hlen : bs.length ≤ 140737488351232) :
    Calls Try.prog 79 #[v] w (Fresh w 5 1 byteR bs) := by
  obtain ⟨a, c, rfl, h1, h2, h3⟩ := SliceAt.len h
  cases a with
  | none =>
    obtain rfl := h3 rfl
    obtain ⟨rfl⟩ : bs = [] := List.eq_nil_of_length_eq_zero (by omega)
    refine (cloneB_nil w).mono ?_
    rintro e w' ⟨rfl, rfl⟩
    exact ⟨_, rfl, OwnAt.nil _ _ _ _ _, Bel.refl _⟩
  | some a => exact cloneB_some F w a _ c bs h hlen
theorem cloneI_any (F : Nat → Prop) (w : World) (v : Value) (d : Nat) (l : List It) (h : ItemsAt F w d v l) (hlen : l.length ≤ 1099511627776) :
    Calls Try.prog 72 #[v] w (Fresh w 65 3 (ItemAt F w d) l) := by
  obtain ⟨a, c, rfl, h1, h2, h3⟩ := SliceAt.len h
  cases a with
  | none =>
    obtain rfl := h3 rfl
    obtain ⟨rfl⟩ : l = [] := List.eq_nil_of_length_eq_zero (by omega)
    refine (cloneI_nil w).mono ?_
    rintro e w' ⟨rfl, rfl⟩
    exact ⟨_, rfl, OwnAt.nil _ _ _ _ _, Bel.refl _⟩
  | some a => exact cloneI_some F w a _ c d l h hlen

set_option maxHeartbeats 400000 in
/-- nest.Text: an item in new memory -/
theorem text_any (F : Nat → Prop) (w : World) (v : Value) (bs : List UInt8) (h : BytesAt F w v bs) (hlen : bs.length ≤ 140737488351232) :
    Calls Try.prog 50 #[v] w fun e w' => ∃ v1, e = .returned (.agg #[.bool false, v1, .slice none 0 0]) ∧ ItemAt (fun b => w.heap.size ≤ b) w' 1 [.bool false, v1, .slice none 0 0] (.text bs) ∧ Below w.heap.size w w' := by
  obtain ⟨a, c, rfl, h1, h2, h3⟩ := SliceAt.len h
  go_enter Try.func50, Try.ntmps50
  go_wp2_with fail
  refine (cloneB_any F _ _ bs ?_ hlen).mono ?_
  · exact BytesAt.below h (Bel.alloc (Bel.refl w) _)
  rintro e w1 ⟨v1, rfl, ho, hb⟩
  obtain ⟨a1, c1, rfl, -, -, -⟩ := ho.len
  have hk := boxblock hb
  obtain ⟨q0, q1, q2⟩ := cells3 hk
  have f0 := boxfree hb 0
  have f1 := boxfree hb 1
  have f2 := boxfree hb 2
  have hb' := Lib.hid hb
  have hkk := Lib.hid hk
  clear hb hk
  go_wp2_with fail
  obtain ⟨W, hW⟩ : ∃ W, W = ((w1.setCell ⟨w.heap.size, 0, none⟩ (.bool false)).setCell ⟨w.heap.size, 1, none⟩ (.slice a1 bs.length c1)).setCell ⟨w.heap.size, 2, none⟩ (.slice none 0 0) := ⟨_, rfl⟩
  have hWk : W.heap[w.heap.size]? = some (.cells #[.bool false, .slice a1 bs.length c1, .slice none 0 0] 65 (0, 0)) := by
    rw [hW]; exact heap_setCell_same _ _ _ _ _ _ (heap_setCell_same _ _ _ _ _ _ (heap_setCell_same _ _ _ _ _ _ hkk.out))
  rw [← hW]
  obtain ⟨r0, r1, r2⟩ := cells3 hWk
  refine bodyPost_ret (v := .agg #[.bool false, .slice a1 bs.length c1, .slice none 0 0]) (by simp [results, Try.results50, go_sem, r0, r1, r2]) rfl ?_
  have hb := hb'.out
  have hbel : Below w.heap.size w W := by
    rw [hW]
    exact (((Bel.call (Bel.alloc (Bel.refl w) _) hb).setCell (Nat.le_refl _) _).setCell (Nat.le_refl _) _).setCell (Nat.le_refl _) _
  have hoW : OwnAt W (w.heap.size + 1) 5 1 byteR (.slice a1 bs.length c1) bs := by
    have ho' := ho
    simp only [World.size_alloc] at ho'
    refine ho'.carry fun g _ hg _ => ?_
    rw [hW, Below.heap_setCell _ _ _ _ (by show g ≠ w.heap.size; omega), Below.heap_setCell _ _ _ _ (by show g ≠ w.heap.size; omega), Below.heap_setCell _ _ _ _ (by show g ≠ w.heap.size; omega)]
  exact ⟨_, rfl, ⟨_, _, rfl, hoW.at (fun g _ hg _ => by omega) (by decide), SliceAt.nil _ _ _ _⟩, hbel⟩

set_option maxHeartbeats 400000 in
/-- nest.List: a list of the items that are given, in a row of its own -/
theorem list_any (F : Nat → Prop) (w : World) (v : Value) (d : Nat) (l : List It) (h : ItemsAt F w d v l) (hlen : l.length ≤ 1099511627776) :
    Calls Try.prog 42 #[v] w fun e w' => ∃ v2, e = .returned (.agg #[.bool true, .slice none 0 0, v2]) ∧ ItemAt (fun b => F b ∨ w.heap.size ≤ b) w' (d + 1) [.bool true, .slice none 0 0, v2] (.list l) ∧ Below w.heap.size w w' := by
  obtain ⟨a, c, rfl, h1, h2, h3⟩ := SliceAt.len h
  go_enter Try.func42, Try.ntmps42
  go_wp2_with fail
  refine (cloneI_any (fun b => F b ∧ b < w.heap.size) _ _ d l ?_ hlen).mono ?_
  · exact ItemsAt.carry h (fun b hb hF => ⟨hF, hb⟩) (fun b _ hlt => Below.heap_alloc _ _ _ hlt)
  rintro e w1 ⟨v1, rfl, ho, hb⟩
  obtain ⟨a1, c1, rfl, -, -, -⟩ := ho.len
  have hk := boxblock hb
  obtain ⟨q0, q1, q2⟩ := cells3 hk
  have f0 := boxfree hb 0
  have f1 := boxfree hb 1
  have f2 := boxfree hb 2
  have hb' := Lib.hid hb
  have hkk := Lib.hid hk
  have HO := Lib.hid ho
  clear hb hk ho
  go_wp2_with fail
  obtain ⟨W, hW⟩ : ∃ W, W = ((w1.setCell ⟨w.heap.size, 0, none⟩ (.bool true)).setCell ⟨w.heap.size, 1, none⟩ (.slice none 0 0)).setCell ⟨w.heap.size, 2, none⟩ (.slice a1 l.length c1) := ⟨_, rfl⟩
  have hWk : W.heap[w.heap.size]? = some (.cells #[.bool true, .slice none 0 0, .slice a1 l.length c1] 65 (0, 0)) := by
    rw [hW]; exact heap_setCell_same _ _ _ _ _ _ (heap_setCell_same _ _ _ _ _ _ (heap_setCell_same _ _ _ _ _ _ hkk.out))
  rw [← hW]
  obtain ⟨r0, r1, r2⟩ := cells3 hWk
  refine bodyPost_ret (v := .agg #[.bool true, .slice none 0 0, .slice a1 l.length c1]) (by simp [results, Try.results42, go_sem, r0, r1, r2]) rfl ?_
  have hb := hb'.out
  have hbel : Below w.heap.size w W := by
    rw [hW]
    exact (((Bel.call (Bel.alloc (Bel.refl w) _) hb).setCell (Nat.le_refl _) _).setCell (Nat.le_refl _) _).setCell (Nat.le_refl _) _
  have hoW : OwnAt W (w.heap.size + 1) 65 3 (ItemAt (fun b => F b ∧ b < w.heap.size) (w.alloc (.cells #[.bool false, .slice none 0 0, .slice none 0 0] 65)) d) (.slice a1 l.length c1) l := by
    have ho' := HO.out
    simp only [World.size_alloc] at ho'
    refine ho'.carry fun g _ hg _ => ?_
    rw [hW, Below.heap_setCell _ _ _ _ (by show g ≠ w.heap.size; omega), Below.heap_setCell _ _ _ _ (by show g ≠ w.heap.size; omega), Below.heap_setCell _ _ _ _ (by show g ≠ w.heap.size; omega)]
  refine ⟨_, rfl, ⟨_, _, rfl, SliceAt.nil _ _ _ _, ?_⟩, hbel⟩
  refine (hoW.mono (R' := ItemAt (fun b => F b ∨ w.heap.size ≤ b) W d) fun cs x hx hi => ?_).at (fun g _ hg _ => .inr (by omega)) (by decide)
  exact hi.carry (fun b _ hF => .inl hF.1) (fun b hF _ => by rw [hbel.block b hF.2, Below.heap_alloc _ _ _ hF.2])

end Go.Proofs.Ytndkkgkcbbmnpaa
namespace Go.Pg
theorem Chg.at1 {lb i : Nat} {a w : World} (h : Chg (fun k => k = lb) a w) (u : Value) : Chg (fun k => k = lb) a (w.setCell ⟨lb, i, none⟩ u) := h.setCell (.inr rfl) u
mutual
/-- what an item weighs behind what was weighed, and what is amiss -/
def It.look : It → Nat → Nat → Nat × Nat
  | .text b, _, wt => if 16777215 < wt + max b.length 1 then (wt + max b.length 1, 20) else (wt + max b.length 1, 0)
  | .list l, deep, wt => if deep = 8 then (wt, 21) else if deep = 0 then (if 16777215 < wt then (wt, 20) else It.looks l 1 wt) else
      (if 16777215 < wt + 1 then (wt + 1, 20) else It.looks l (deep + 1) (wt + 1))
def It.looks : List It → Nat → Nat → Nat × Nat
  | [], _, wt => (wt, 0)
  | x :: r, deep, wt => if (It.look x deep wt).2 = 0 then It.looks r deep (It.look x deep wt).1 else It.look x deep wt
end
mutual
theorem It.look_le : ∀ (x : It) (deep wt : Nat), (x.look deep wt).1 ≤ wt + x.whole
  | .text b, deep, wt => by
    have h1 := It.body_le_whole (.text b)
    have h2 := It.whole_pos (.text b)
    simp only [It.body] at h1
    simp only [It.look]; split <;> simp <;> omega
  | .list l, deep, wt => by
    have h1 := It.body_le_whole (.list l)
    have h2 := It.whole_pos (.list l)
    have h3 : It.wholes l + 1 ≤ (It.list l).whole := by
      simp only [It.whole]; exact sz_ge _
    simp only [It.look]
    split
    · simp
    · split
      · split
        · simp
        · have := It.looks_le l 1 wt; omega
      · split
        · simp; omega
        · have := It.looks_le l (deep + 1) (wt + 1); omega
theorem It.looks_le : ∀ (l : List It) (deep wt : Nat), (It.looks l deep wt).1 ≤ wt + It.wholes l
  | [], deep, wt => by simp [It.looks, It.wholes]
  | x :: r, deep, wt => by
    have h1 := It.look_le x deep wt
    have h2 := It.looks_le r deep (x.look deep wt).1
    simp only [It.looks, It.wholes]
    split <;> omega
end
/-- what is done first at a list -/
def lookHead (deep wt : Nat) : Nat × Nat :=
  if deep = 8 then (wt, 21) else if deep = 0 then (if 16777215 < wt then (wt, 20) else (wt, 0)) else if 16777215 < wt + 1 then (wt + 1, 20) else (wt + 1, 0)
def lookOn (l : List It) (deep : Nat) (r : Nat × Nat) : Nat × Nat := if r.2 = 0 then It.looks l deep r.1 else r
theorem look_list_eq (l : List It) (deep wt : Nat) : (It.list l).look deep wt = lookOn l (deep + 1) (lookHead deep wt) := by
  simp only [It.look, lookHead, lookOn]
  by_cases h8 : deep = 8
  · simp [h8]
  · by_cases h0 : deep = 0
    · subst h0; by_cases hb : 16777215 < wt <;> simp [hb]
    · by_cases hb : 16777215 < wt + 1 <;> simp [h8, h0, hb]
theorem lookOn_nil (deep : Nat) (r : Nat × Nat) : lookOn [] deep r = r := by
  obtain ⟨m, e⟩ := r
  simp only [lookOn, It.looks]
  split
  · rename_i h; subst h; rfl
  · rfl
theorem lookOn_cons (x : It) (l : List It) (deep m : Nat) : lookOn (x :: l) deep (m, 0) = lookOn l deep (x.look deep m) := by
  simp only [lookOn, It.looks, if_true]
theorem lookOn_bad (l : List It) (deep m e : Nat) (h : e ≠ 0) : lookOn l deep (m, e) = (m, e) := by
  unfold lookOn; rw [if_neg h]
end Go.Pg
namespace Go.Proofs.Ytndkkgkcbbmnpaa
open Go.RowKit Go.Pg

/-- behind a look: the looker's two cells; nothing else of what was there has turned -/
def Looked (w : World) (lb : Nat) (r : Nat × Nat) (e : Ending) (w' : World) : Prop :=
  e = .returned (.tuple #[]) ∧ w'.heap[lb]? = some (.cells #[.int .i64 r.1, .int .i64 r.2] 93 (0, 0)) ∧ Chg (fun k => k = lb) w w'
def LookC (d : Nat) : Prop := ∀ (F : Nat → Prop) (w : World) (lb : Nat) (x : It) (l : Bool) (v1 v2 : Value) (deep wt : Nat),
  ItemAt F w d [.bool l, v1, v2] x → w.heap[lb]? = some (.cells #[.int .i64 wt, .int .i64 0] 93 (0, 0)) → ¬ F lb → deep ≤ 8 → wt + x.whole ≤ 1125899906842624 →
  Calls Try.prog 69 #[.pointer (some ⟨lb, 0, none⟩), .agg #[.bool l, v1, v2], .int .i64 deep] w (Looked w lb (x.look deep wt))

set_option maxRecDepth 100000 in
set_option maxHeartbeats 400000 in
theorem look_text (_F : Nat → Prop) (w : World) (lb : Nat) (b : List UInt8) (a a2 : Option Addr) (c c2 : Nat) (deep wt : Nat)
    (hk : w.heap[lb]? = some (.cells #[.int .i64 wt, .int .i64 0] 93 (0, 0))) (_hd : deep ≤ 8) (hw : wt + (It.text b).whole ≤ 1125899906842624) :
    Calls Try.prog 69 #[.pointer (some ⟨lb, 0, none⟩), .agg #[.bool false, .slice a b.length c, .slice a2 0 c2], .int .i64 deep] w (Looked w lb ((It.text b).look deep wt)) := by
  have hlt := (Array.getElem?_eq_some_iff.1 hk).1
  obtain ⟨n, hn⟩ : ∃ n, n = b.length := ⟨_, rfl⟩
  rw [← hn]
  have hnw : n ≤ (It.text b).whole := by rw [hn]; exact It.body_le_whole (.text b)
  have hpos := It.whole_pos (.text b)
  have HN := Lib.hid hn
  clear hn
  obtain ⟨q0, q1⟩ := cells2 hk
  have f0 := frozen_of_row w lb 0 _ _ hk
  have f1 := frozen_of_row w lb 1 _ _ hk
  have hne : lb ≠ w.heap.size := by omega
  have hend : ∀ (W : World) (m e : Nat), W.heap[lb]? = some (.cells #[.int .i64 m, .int .i64 e] 93 (0, 0)) → (It.text b).look deep wt = (m, e) → Chg (fun k => k = lb) w W → Looked w lb ((It.text b).look deep wt) (.returned (.tuple #[])) W :=
    fun W m e h1 h2 h3 => ⟨rfl, by rw [h2]; exact h1, h3⟩
  have HE := Lib.hid hend
  clear hend
  have hk1 : ∀ (m : Int) (o : Obj), ((w.setCell ⟨lb, 0, none⟩ (.int .i64 m)).alloc o).drew.heap[lb]? = some (.cells #[.int .i64 m, .int .i64 0] 93 (0, 0)) ∧ Chg (fun k => k = lb) w ((w.setCell ⟨lb, 0, none⟩ (.int .i64 m)).alloc o).drew := fun m o =>
    ⟨(Below.heap_alloc _ _ _ (by simpa using hlt)).trans (heap_setCell_same _ _ _ _ _ _ hk), (((Chg.refl (fun k => k = lb) w).at1 (i := 0) _).alloc o).drew⟩
  have hk2 : ∀ (m e : Int) (o : Obj), (((w.setCell ⟨lb, 0, none⟩ (.int .i64 m)).setCell ⟨lb, 1, none⟩ (.int .i64 e)).alloc o).drew.heap[lb]? = some (.cells #[.int .i64 m, .int .i64 e] 93 (0, 0)) ∧ Chg (fun k => k = lb) w (((w.setCell ⟨lb, 0, none⟩ (.int .i64 m)).setCell ⟨lb, 1, none⟩ (.int .i64 e)).alloc o).drew := fun m e o =>
    ⟨(Below.heap_alloc _ _ _ (by simpa using hlt)).trans (heap_setCell_same _ _ _ _ _ _ (heap_setCell_same _ _ _ _ _ _ hk)), ((((Chg.refl (fun k => k = lb) w).at1 (i := 0) _).at1 (i := 1) _).alloc o).drew⟩
  have HK1 := Lib.hid hk1
  have HK2 := Lib.hid hk2
  clear hk1 hk2 hk
  obtain ⟨m, hm1⟩ : ∃ m : Nat, m = max n 1 := ⟨_, rfl⟩
  have hmx : (if (n : Int) < 1 then (1 : Int) else (n : Int)) = (m : Int) := by split <;> omega
  have hmb : wt + m ≤ 1125899906842624 := by omega
  have HM := Lib.hid hm1
  clear hm1 hnw hpos hw
  by_cases hm : 16777215 < wt + m
  all_goals
    go_enter Try.func69, Try.ntmps69
    go_wp2
    go_region
    go_wp2
    go_rounds 1
    go_end0
    have hl := HE.out
    first
      | (have hq := HK1.out (wt + m) (.cells #[.bool false, .slice a n c, .slice a2 0 c2] 65); exact hl _ (wt + m) 0 hq.1 (by simp only [It.look, ← HN.out, ← HM.out]; rw [if_neg (by omega)]) hq.2)
      | (have hq := HK2.out (wt + m) 20 (.cells #[.bool false, .slice a n c, .slice a2 0 c2] 65); exact hl _ (wt + m) 20 hq.1 (by simp only [It.look, ← HN.out, ← HM.out]; rw [if_pos (by omega)]) hq.2)

/-- a list's look on its way: the looker's cells, the item's box, and what has turned -/
structure LSt (w : World) (lb : Nat) (cs : Array Value) (W : World) (m e : Nat) : Prop where
  at_ : W.heap[lb]? = some (.cells #[.int .i64 m, .int .i64 e] 93 (0, 0))
  box : W.heap[w.heap.size]? = some (.cells cs 65 (0, 0))
  chg : Chg (fun k => k = lb) w W
set_option maxRecDepth 100000 in
set_option maxHeartbeats 1000000 in
theorem look_list {d : Nat} (hd0 : LookC d) (F : Nat → Prop) (w : World) (lb : Nat) (l : List It) (a a2 : Option Addr) (c n2 c2 : Nat) (deep wt : Nat)
    (his : ItemsAt F w d (.slice a2 n2 c2) l)
    (hk : w.heap[lb]? = some (.cells #[.int .i64 wt, .int .i64 0] 93 (0, 0))) (hF : ¬ F lb) (hd : deep ≤ 8) (hw : wt + (It.list l).whole ≤ 1125899906842624) :
    Calls Try.prog 69 #[.pointer (some ⟨lb, 0, none⟩), .agg #[.bool true, .slice a 0 c, .slice a2 n2 c2], .int .i64 deep] w (Looked w lb ((It.list l).look deep wt)) := by
  have hlt := (Array.getElem?_eq_some_iff.1 hk).1
  obtain ⟨q0, q1⟩ := cells2 hk
  have f0 := frozen_of_row w lb 0 _ _ hk
  have f1 := frozen_of_row w lb 1 _ _ hk
  have hne : lb ≠ w.heap.size := by omega
  have HD := Lib.hid hd0
  have hm1 : ∃ m : Nat, m = wt + 1 := ⟨_, rfl⟩
  obtain ⟨m, hm⟩ := hm1
  have hmx : (wt : Int) + 1 = (m : Int) := by omega
  have HM := Lib.hid hm
  have hwb : It.wholes l + 1 ≤ (It.list l).whole := by simp only [It.whole]; exact sz_ge _
  have hmb : m + It.wholes l ≤ 1125899906842624 := by omega
  have HIS := Lib.hid his
  have HK := Lib.hid hk
  clear hm hd0 his hk hwb hw
  have hX : ∀ (X : World) (m0 e0 : Nat), Chg (fun k => k = lb) w X → X.heap.size = w.heap.size → X.heap[lb]? = some (.cells #[.int .i64 m0, .int .i64 e0] 93 (0, 0)) →
      LSt w lb #[.bool true, .slice a 0 c, .slice a2 n2 c2] (X.alloc (.cells #[.bool true, .slice a 0 c, .slice a2 n2 c2] 65)) m0 e0 := fun X m0 e0 h1 h2 h3 =>
    ⟨by rw [Below.heap_alloc _ _ _ (by omega)]; exact h3, by rw [← h2]; exact heap_alloc_new X _, h1.alloc _⟩
  have HX := Lib.hid hX
  clear hX
  have hcases : (((deep : Int) == 8) = true ∧ Hid (lookHead deep wt = (wt, 21))) ∨
      (((deep : Int) == 8) = false ∧ ((deep : Int) == 0) = true ∧ 16777215 < wt ∧ Hid (lookHead deep wt = (wt, 20))) ∨
      (((deep : Int) == 8) = false ∧ ((deep : Int) == 0) = true ∧ ¬ 16777215 < wt ∧ Hid (lookHead deep wt = (wt, 0) ∧ deep < 8)) ∨
      (((deep : Int) == 8) = false ∧ ((deep : Int) == 0) = false ∧ 16777215 < m ∧ Hid (lookHead deep wt = (m, 20))) ∨
      (((deep : Int) == 8) = false ∧ ((deep : Int) == 0) = false ∧ ¬ 16777215 < m ∧ Hid (lookHead deep wt = (m, 0) ∧ deep < 8)) := by
    have hmm := HM.out
    unfold lookHead Hid
    rw [← hmm]
    by_cases h8 : deep = 8
    · exact .inl ⟨by simp; omega, by rw [if_pos h8]⟩
    · have e8 : ((deep : Int) == 8) = false := by simp; omega
      rw [if_neg h8]
      by_cases h0 : deep = 0
      · have e0 : ((deep : Int) == 0) = true := by simp; omega
        rw [if_pos h0]
        by_cases hb : 16777215 < wt
        · exact .inr (.inl ⟨e8, e0, hb, by rw [if_pos hb]⟩)
        · exact .inr (.inr (.inl ⟨e8, e0, hb, by rw [if_neg hb], by omega⟩))
      · have e0 : ((deep : Int) == 0) = false := by simp; omega
        rw [if_neg h0]
        by_cases hb : 16777215 < m
        · exact .inr (.inr (.inr (.inl ⟨e8, e0, hb, by rw [if_pos hb]⟩)))
        · exact .inr (.inr (.inr (.inr ⟨e8, e0, hb, by rw [if_neg hb], by omega⟩)))
  have hwm : wt + It.wholes l ≤ 1125899906842624 := by have := HM.out; omega
  have hn63 : n2 ≤ 1125899906842624 := by
    have h1 := It.length_le_wholes l
    rcases SliceAt.split HIS.out with ⟨_, h2⟩ | ⟨_, _, _, h2, _⟩ <;> omega
  rcases hcases with ⟨e8, HH⟩ | ⟨e8, e0, hb, HH⟩ | ⟨e8, e0, hb, HH⟩ | ⟨e8, e0, hb, HH⟩ | ⟨e8, e0, hb, HH⟩
  all_goals
    try (have hbz : decide ((16777215 : Int) < (wt : Int)) = true := by simp; omega)
    try (have hbz : decide ((16777215 : Int) < (wt : Int)) = false := by simp; omega)
    try (have hbz : decide ((16777215 : Int) < (m : Int)) = true := by simp; omega)
    try (have hbz : decide ((16777215 : Int) < (m : Int)) = false := by simp; omega)
    go_enter Try.func69, Try.ntmps69
    go_wp2
    go_loopw [6] (fun i wr => ∃ k m0 e0 : Nat, i = .int .i64 k ∧ k ≤ n2 ∧ Hid (LSt w lb #[.bool true, .slice a 0 c, .slice a2 n2 c2] wr m0 e0) ∧ m0 + It.wholes (l.drop k) ≤ 1125899906842624 ∧ Hid (e0 = 0 → deep < 8) ∧ Hid (lookOn (l.drop k) (deep + 1) (m0, e0) = (It.list l).look deep wt)) (fun i _ => n2 - (intOf i).toNat)
    case atStart =>
      have hk := HK.out
      first
        | exact ⟨0, wt, 21, rfl, Nat.zero_le _, HX.out _ wt 21 ((Chg.refl (fun k => k = lb) w).at1 (i := 1) _) (by simp) (heap_setCell_same _ _ _ _ _ _ hk), hwm, fun h => by omega, by show _ = _; rw [look_list_eq, HH.out]; rfl⟩
        | exact ⟨0, wt, 20, rfl, Nat.zero_le _, HX.out _ wt 20 ((Chg.refl (fun k => k = lb) w).at1 (i := 1) _) (by simp) (heap_setCell_same _ _ _ _ _ _ hk), hwm, fun h => by omega, by show _ = _; rw [look_list_eq, HH.out]; rfl⟩
        | exact ⟨0, wt, 0, rfl, Nat.zero_le _, HX.out _ wt 0 (Chg.refl (fun k => k = lb) w) rfl hk, hwm, fun _ => HH.out.2, by show _ = _; rw [look_list_eq, HH.out.1]; rfl⟩
        | exact ⟨0, m, 20, rfl, Nat.zero_le _, HX.out _ m 20 (((Chg.refl (fun k => k = lb) w).at1 (i := 0) _).at1 (i := 1) _) (by simp) (heap_setCell_same _ _ _ _ _ _ (heap_setCell_same _ _ _ _ _ _ hk)), hmb, fun h => by omega, by show _ = _; rw [look_list_eq, HH.out]; rfl⟩
        | exact ⟨0, m, 0, rfl, Nat.zero_le _, HX.out _ m 0 ((Chg.refl (fun k => k = lb) w).at1 (i := 0) _) (by simp) (heap_setCell_same _ _ _ _ _ _ hk), hmb, fun _ => HH.out.2, by show _ = _; rw [look_list_eq, HH.out.1]; rfl⟩
    case round =>
      obtain ⟨k, m1, e1, rfl, hk, HL, hb1, HD8, HO⟩ := hrel
      have hL := HL.out
      obtain ⟨b0, b1, b2⟩ := cells3 hL.box
      obtain ⟨p0, p1⟩ := cells2 hL.at_
      have hfr := frozen_of_row wr lb 0 _ _ hL.at_
      have hlr : lb < wr.heap.size := (Array.getElem?_eq_some_iff.1 hL.at_).1
      have hsz : w.heap.size < wr.heap.size := (Array.getElem?_eq_some_iff.1 hL.box).1
      have hn2 : n2 = l.length := by
        rcases SliceAt.split HIS.out with ⟨h1, h2⟩ | ⟨_, _, _, h2, _⟩
        · rw [h1, h2]; rfl
        · exact h2
      clear hL
      by_cases hlt : k < n2
      · by_cases he : e1 = 0
        · subst he
          have hki : k < l.length := by omega
          rcases SliceAt.split HIS.out with ⟨h1, h2⟩ | ⟨b, o, rfl, -, -, hFb⟩
          · omega
          have HN2 := Lib.hid hn2
          clear hn2
          have his' : ItemsAt F wr d (.slice (some ⟨b, o, none⟩) n2 c2) l := ItemsAt.carry HIS.out (fun _ _ x => x) (fun g hg hlt' => (HL.out).chg.block g hlt' (fun e => hF (e ▸ hg)))
          obtain ⟨y1, z1, t1, y2, z2, t2, c0, c1, c2', hit⟩ := ItemsAt.cell his' k hki
          obtain ⟨y, hy⟩ : ∃ y, y = l[k] := ⟨_, rfl⟩
          rw [← hy] at c0 hit
          have hdrop : l.drop k = y :: l.drop (k + 1) := by rw [hy]; exact List.drop_eq_getElem_cons hki
          have hbw : m1 + y.whole + It.wholes (l.drop (k + 1)) ≤ 1125899906842624 := by
            rw [hdrop] at hb1; simp only [It.wholes] at hb1; omega
          have HO2 : Hid (lookOn (l.drop (k + 1)) (deep + 1) (y.look (deep + 1) m1) = (It.list l).look deep wt) := by
            have := HO.out
            rwa [hdrop, lookOn_cons] at this
          have hd8 := HD8.out rfl
          clear hy hdrop his' HO hb1
          go_wp2_with fail
          rw [show ((deep : Int) + 1) = ((deep + 1 : Nat) : Int) from rfl]
          refine (HD.out F _ lb y _ _ _ (deep + 1) m1 hit (HL.out).at_ hF (by omega) (by omega)).mono ?_
          rintro e w5 ⟨rfl, hat, hch⟩
          have hle := It.look_le y (deep + 1) m1
          have HL5 : Hid (LSt w lb #[.bool true, .slice a 0 c, .slice (some ⟨b, o, none⟩) n2 c2] w5 (y.look (deep + 1) m1).1 (y.look (deep + 1) m1).2) :=
            ⟨hat, by rw [hch.block _ hsz (fun e => hne e.symm)]; exact (HL.out).box, (HL.out).chg.trans hch (fun _ _ x => x)⟩
          clear hat hch
          go_wp2_with fail
          go_roundw
          case rel =>
            first
              | exact ⟨k + 1, _, _, num_eq (by omega), by omega, HL5, by omega, fun _ => hd8, HO2⟩
              | ((repeat apply Exists.intro); exact ⟨⟨k + 1, _, _, num_eq (by omega), by omega, HL5, by omega, fun _ => hd8, HO2⟩, rfl⟩)
          case measure => simp [intOf]; omega
        · have he' : ((e1 : Int) == 0) = false := by simp; omega
          go_wp2
          go_end0
          have := HO.out
          rw [lookOn_bad _ _ _ _ he] at this
          exact ⟨rfl, by rw [← this]; exact (HL.out).at_, (HL.out).chg⟩
      · go_wp2
        go_end0
        have := HO.out
        rw [List.drop_eq_nil_of_le (by omega), lookOn_nil] at this
        exact ⟨rfl, by rw [← this]; exact (HL.out).at_, (HL.out).chg⟩

end Go.Proofs.Ytndkkgkcbbmnpaa
namespace Go.Pg
/-- nest's encoding, or what is amiss -/
def It.encode (x : It) : List UInt8 × Nat :=
  if (x.look 0 0).2 ≠ 0 then ([], (x.look 0 0).2) else if 16777215 < x.body then ([], 20) else (x.enc, 0)
end Go.Pg
namespace Go.Proofs.Ytndkkgkcbbmnpaa
open Go.RowKit Go.Pg

theorem look_step {d : Nat} (h : LookC d) : LookC (d + 1) := by
  intro F w lb x l v1 v2 deep wt hit hk hF hd hw
  obtain ⟨u1, u2, h1, h2, h3⟩ := hit
  simp only [List.cons.injEq, Value.bool.injEq, and_true] at h1
  obtain ⟨rfl, rfl, rfl⟩ := h1
  obtain ⟨a, c, rfl, -, -, -⟩ := SliceAt.len h2
  cases x with
  | text b =>
    obtain ⟨a2, c2, rfl, -, -, -⟩ := SliceAt.len h3
    exact look_text F w lb b a a2 c c2 deep wt hk hd hw
  | list l =>
    obtain ⟨a2, c2, rfl, -, -, -⟩ := SliceAt.len h3
    exact look_list h F w lb l a a2 c _ c2 deep wt h3 hk hF hd hw
theorem look_any (d : Nat) : LookC d := by
  induction d with
  | zero => intro F w lb x l v1 v2 deep wt h; exact h.elim
  | succ d ih => exact look_step ih

/-- bytes in new memory, and an error's number -/
def Encd (w : World) (r : List UInt8 × Nat) (e : Ending) (w' : World) : Prop :=
  ∃ v', e = .returned (.tuple #[v', .int .i64 r.2]) ∧ OwnAt w' w.heap.size 5 1 byteR v' r.1 ∧ Below w.heap.size w w'

set_option maxRecDepth 100000 in
set_option maxHeartbeats 1000000 in
theorem encode_any (F : Nat → Prop) (w : World) (d : Nat) (x : It) (l : Bool) (v1 v2 : Value) (h : ItemAt F w d [.bool l, v1, v2] x) (hw : x.whole ≤ 140737488351232) :
    Calls Try.prog 41 #[.agg #[.bool l, v1, v2]] w (Encd w x.encode) := by
  obtain ⟨hl, a1, n1, c1, a2, n2, c2, rfl, rfl, -, -⟩ := ItemAt.form h
  have HL := Lib.hid hl
  clear hl
  have h' : ItemAt (fun b => F b ∧ b < w.heap.size) w d [.bool l, .slice a1 n1 c1, .slice a2 n2 c2] x := h.carry (fun b hb hF => ⟨hF, hb⟩) (fun _ _ _ => rfl)
  clear h
  have hbw := It.body_le_whole x
  obtain ⟨W0, hW0⟩ : ∃ W0, W0 = (w.alloc (.cells #[.bool l, .slice a1 n1 c1, .slice a2 n2 c2] 65)).alloc (.cells #[.int .i64 0, .int .i64 0] 93) := ⟨_, rfl⟩
  have hbel0 : Below w.heap.size w W0 := by rw [hW0]; exact Bel.alloc (Bel.alloc (Bel.refl w) _) _
  have hk0 : W0.heap[w.heap.size + 1]? = some (.cells #[.int .i64 0, .int .i64 0] 93 (0, 0)) := by
    rw [hW0]
    have := heap_alloc_new (w.alloc (.cells #[.bool l, .slice a1 n1 c1, .slice a2 n2 c2] 65)) (.cells #[.int .i64 0, .int .i64 0] 93)
    simpa using this
  have hbx0 : W0.heap[w.heap.size]? = some (.cells #[.bool l, .slice a1 n1 c1, .slice a2 n2 c2] 65 (0, 0)) := by
    rw [hW0, Below.heap_alloc _ _ _ (by simp)]; exact heap_alloc_new w _
  have hs0 : W0.heap.size = w.heap.size + 2 := by rw [hW0]; simp
  have HW0 := Lib.hid hW0
  have HK0 := Lib.hid hk0
  have HBX := Lib.hid hbx0
  have HS0 := Lib.hid hs0
  clear hk0 hbx0 hs0 hW0
  go_enter Try.func41, Try.ntmps41
  go_wp2_with fail
  rw [← HW0.out]
  refine (look_any d (fun b => F b ∧ b < w.heap.size) _ (w.heap.size + 1) x _ _ _ 0 0 ?_ HK0.out (by omega) (by omega) (by omega)).mono ?_
  · exact h'.below hbel0
  rintro e w1 ⟨rfl, hat, hch⟩
  have hs1 := hch.size
  have hs0 := HS0.out
  have hbx1 : w1.heap[w.heap.size]? = some (.cells #[.bool l, .slice a1 n1 c1, .slice a2 n2 c2] 65 (0, 0)) := by
    rw [hch.block _ (by omega) (by omega)]; exact HBX.out
  have hbel1 : Below w.heap.size w w1 := hbel0.trans (hch.toBelowAt (by omega) (fun k hk => by omega))
  obtain ⟨m, e0, hr⟩ : ∃ m e0, x.look 0 0 = (m, e0) := ⟨_, _, rfl⟩
  rw [hr] at hat
  have HR := Lib.hid hr
  clear hr hch hs1 hs0 hbel0
  obtain ⟨b0, b1, b2⟩ := cells3 hbx1
  obtain ⟨p0, p1⟩ := cells2 hat
  have HB1 := Lib.hid hbel1
  have HX1 := Lib.hid hbx1
  clear hbel1 hbx1 hat
  by_cases he : e0 = 0
  · subst he
    go_wp2_with fail
    refine (body_any d (fun b => F b ∧ b < w.heap.size) _ x _ _ _ (h'.carry (fun _ _ x => x) (fun b hb _ => (HB1.out).block b hb.2)) (by omega)).mono ?_
    rintro e w2 ⟨rfl, hb2⟩
    obtain ⟨n, hn⟩ : ∃ n, n = x.body := ⟨_, rfl⟩
    rw [← hn] at hbw ⊢
    have HN := Lib.hid hn
    clear hn
    by_cases hbig : 16777215 < n
    · go_wp2
      go_ret2
      exact ⟨.slice none 0 0, by unfold It.encode; rw [HR.out, ← HN.out]; simp [hbig], by unfold It.encode; rw [HR.out, ← HN.out]; simp [hbig]; exact OwnAt.nil _ _ _ _ _, Bel.call HB1.out hb2⟩
    · have hbx2 : w2.heap[w.heap.size]? = some (.cells #[.bool l, .slice a1 n1 c1, .slice a2 n2 c2] 65 (0, 0)) := by
        rw [hb2.block _ (Array.getElem?_eq_some_iff.1 HX1.out).1]; exact HX1.out
      obtain ⟨g0, g1, g2⟩ := cells3 hbx2
      have HB2 := Lib.hid (Bel.call HB1.out hb2)
      have hsz2 := (HB2.out).size
      clear hb2 hbx2
      go_wp2_with fail
      refine (write_any d (fun b => F b ∧ b < w.heap.size) w2 w.heap.size x _ _ _ (.slice none 0 0) [] hsz2 (fun b hb => hb.2) (h'.carry (fun _ _ x => x) (fun b hb _ => (HB2.out).block b hb.2)) (OwnAt.nil _ _ _ _ _) (by simpa using hw)).mono ?_
      rintro e w3 ⟨v', rfl, ho, hg, hm⟩
      go_wp2
      go_ret2
      refine ⟨v', by unfold It.encode; rw [HR.out, ← HN.out]; simp [hbig], by unfold It.encode; rw [HR.out, ← HN.out]; simp [hbig]; simpa using ho, (HB2.out).grown hg hsz2 (fun k hk => by simp [Value.ownBlock] at hk)⟩
  · have he' : ((e0 : Int) == 0) = false := by simp; omega
    have he2 : ((e0 : Int) != 0) = true := by simp; omega
    go_wp2
    go_region
    go_wp2
    go_ret2
    exact ⟨.slice none 0 0, by unfold It.encode; rw [HR.out]; simp [he], by unfold It.encode; rw [HR.out]; simp [he]; exact OwnAt.nil _ _ _ _ _, (HB1.out).drew⟩

end Go.Proofs.Ytndkkgkcbbmnpaa
namespace Go.Pg
open Go.RowKit
theorem Chg.atb {lb i : Nat} {a w : World} (h : Chg (fun k => k = lb) a w) (u : Value) : Chg (fun k => k = lb) a (w.setCell ⟨lb, i, none⟩ u) := h.setCell (.inr rfl) u
/-- b[:k] -/
theorem BytesAt.upto {F : Nat → Prop} {w : World} {a : Option Addr} {n c : Nat} {bs : List UInt8} (h : BytesAt F w (.slice a n c) bs) (k : Nat) (hk : k ≤ n) : BytesAt F w (.slice a k c) (bs.take k) := by
  obtain ⟨a', c', hv, h1, h2, h3, h4, h5⟩ := h
  simp only [Value.slice.injEq] at hv
  obtain ⟨rfl, rfl, rfl⟩ := hv
  have hl : (bs.take k).length = k := by simp; omega
  refine ⟨a, c, by rw [hl], by omega, h2, h3, fun hp => ?_, fun b o j ha hj => h5 b o j ha (by rw [hl] at hj; omega)⟩
  obtain ⟨b, o, ha, hF, hc⟩ := h4 (by omega)
  refine ⟨b, o, ha, hF, fun i x hx => hc i x ?_⟩
  rw [List.getElem?_take] at hx
  split at hx
  · exact hx
  · cases hx
/-- b[k:] -/
theorem BytesAt.since {F : Nat → Prop} {w : World} {a a2 : Option Addr} {n c : Nat} {bs : List UInt8} (h : BytesAt F w (.slice a n c) bs) (k : Nat) (hk : k ≤ n) (ha2 : (if c = k then a else a.map (·.add k)) = a2) :
    BytesAt F w (.slice a2 (n - k) (c - k)) (bs.drop k) := by
  obtain ⟨a', c', hv, h1, h2, h3, h4, h5⟩ := h
  simp only [Value.slice.injEq] at hv
  obtain ⟨rfl, rfl, rfl⟩ := hv
  have hl : (bs.drop k).length = bs.length - k := by simp
  refine ⟨a2, c - k, by rw [hl], by omega, by omega, fun hn => ?_, fun hp => ?_, fun b o j ha hj => ?_⟩
  · subst hn
    split at ha2
    · omega
    · simp at ha2; have := h3 ha2; omega
  · rw [hl] at hp
    obtain ⟨b, o, rfl, hF, hc⟩ := h4 (by omega)
    have hck : ¬ c = k := by omega
    rw [if_neg hck] at ha2
    have e : (⟨b, o, none⟩ : Addr).add k = ⟨b, o + k, none⟩ := by unfold Addr.add; split <;> simp_all
    simp only [Option.map_some, e] at ha2
    subst ha2
    refine ⟨b, o + k, rfl, hF, fun i x hx => ?_⟩
    obtain ⟨cs, g1, g2, g3⟩ := hc (k + i) x (by rw [List.getElem?_drop] at hx; exact hx)
    exact ⟨cs, g1, g2, fun j u hu => by have := g3 j u hu; rwa [show o + k + i * 1 + j = o + (k + i) * 1 + j by omega]⟩
  · rw [hl] at hj
    obtain ⟨b', o', rfl, -, -⟩ := h4 (by omega)
    have hck : ¬ c = k := by omega
    have e : (⟨b', o', none⟩ : Addr).add k = ⟨b', o' + k, none⟩ := by unfold Addr.add; split <;> simp_all
    rw [if_neg hck, Option.map_some, e, ha] at ha2
    simp only [Option.some.injEq, Addr.mk.injEq, and_true] at ha2
    obtain ⟨rfl, rfl⟩ := ha2
    have := h5 b' o' (k + j) rfl (by omega)
    rwa [show o' + k + j = o' + (k + j) by omega]
end Go.Pg
namespace Go.Pg
/-- what bytes say as a number -/
def beNum (l : List UInt8) : Nat := l.foldl (fun n c => n * 256 + c.toNat) 0
theorem beNum_snoc (l : List UInt8) (c : UInt8) : beNum (l ++ [c]) = beNum l * 256 + c.toNat := by simp [beNum]
theorem foldl_lt (l : List UInt8) : ∀ a : Nat, l.foldl (fun n c => n * 256 + c.toNat) a < (a + 1) * 256 ^ l.length := by
  induction l with
  | nil => intro a; simp
  | cons c l ih =>
    intro a
    have h1 := ih (a * 256 + c.toNat)
    have h2 := c.toNat_lt
    simp only [List.foldl_cons, List.length_cons, Nat.pow_succ]
    have h3 : (a * 256 + c.toNat + 1) * 256 ^ l.length ≤ ((a + 1) * 256) * 256 ^ l.length := Nat.mul_le_mul_right _ (by omega)
    have h4 : (a + 1) * (256 ^ l.length * 256) = ((a + 1) * 256) * 256 ^ l.length := by rw [Nat.mul_comm (256 ^ l.length), Nat.mul_assoc]
    omega
theorem beNum_lt (l : List UInt8) : beNum l < 256 ^ l.length := by
  have := foldl_lt l 0
  simpa [beNum] using this
/-- a body's size, by what its first byte has above that of an empty one -/
def readSize (n : Nat) (bs : List UInt8) : Nat × Nat × List UInt8 :=
  if n ≤ 55 then (0, n, bs)
  else if 58 < n then (23, 0, bs)
  else if bs.length < n - 55 then (22, 0, bs)
  else if (bs.headD 0) = 0 ∨ beNum (bs.take (n - 55)) ≤ 55 then (23, 0, bs.drop (n - 55))
  else (0, beNum (bs.take (n - 55)), bs.drop (n - 55))
theorem readSize_le (m : Nat) (t : List UInt8) : (readSize m t).2.1 ≤ 16777215 ∧ (readSize m t).2.2.length ≤ t.length := by
  unfold readSize
  split
  · exact ⟨by simp; omega, Nat.le_refl _⟩
  · split
    · exact ⟨by simp, Nat.le_refl _⟩
    · split
      · exact ⟨by simp, Nat.le_refl _⟩
      · split
        · exact ⟨by simp, by simp⟩
        · have h1 := beNum_lt (t.take (m - 55))
          have h2 : (t.take (m - 55)).length ≤ 3 := by rw [List.length_take]; omega
          have h3 : 256 ^ (t.take (m - 55)).length ≤ 256 ^ 3 := Nat.pow_le_pow_right (by omega) h2
          exact ⟨by simp only; omega, by simp⟩
/-- all items of a list's body -/
def rdAll (rd : List UInt8 → Nat × It × List UInt8) : Nat → List UInt8 → Nat × List It
  | 0, _ => (0, [])
  | k + 1, bs => if bs = [] then (0, []) else if (rd bs).1 ≠ 0 then ((rd bs).1, []) else ((rdAll rd k (rd bs).2.2).1, (rd bs).2.1 :: (rdAll rd k (rd bs).2.2).2)
/-- behind a text's size -/
def rdText (r : Nat × Nat × List UInt8) : Nat × It × List UInt8 :=
  if r.1 ≠ 0 then (r.1, .text [], [])
  else if r.2.2.length < r.2.1 then (22, .text [], [])
  else if r.2.1 = 1 ∧ (r.2.2.headD 0).toNat < 128 then (23, .text [], [])
  else (0, .text (r.2.2.take r.2.1), r.2.2.drop r.2.1)
/-- behind a list's size -/
def rdList (rd : List UInt8 → Nat × It × List UInt8) (r : Nat × Nat × List UInt8) : Nat × It × List UInt8 :=
  if r.1 ≠ 0 then (r.1, .text [], [])
  else if r.2.2.length < r.2.1 then (22, .text [], [])
  else if (rdAll rd r.2.1 (r.2.2.take r.2.1)).1 ≠ 0 then ((rdAll rd r.2.1 (r.2.2.take r.2.1)).1, .text [], [])
  else (0, .list (rdAll rd r.2.1 (r.2.2.take r.2.1)).2, r.2.2.drop r.2.1)
/-- the next item, of which so many lists may still be in one another -/
def rdItem : Nat → List UInt8 → Nat × It × List UInt8
  | _, [] => (22, .text [], [])
  | f, c :: t =>
    if c.toNat < 128 then (0, .text [c], t)
    else if c.toNat < 192 then rdText (readSize (c.toNat - 128) t)
    else match f with
      | 0 => (21, .text [], [])
      | f + 1 => rdList (rdItem f) (readSize (c.toNat - 192) t)
/-- bytes that are one item's -/
def rdWhole (bs : List UInt8) : Nat × It :=
  if (rdItem 8 bs).1 ≠ 0 then ((rdItem 8 bs).1, .text []) else if (rdItem 8 bs).2.2 ≠ [] then (24, .text []) else (0, (rdItem 8 bs).2.1)
end Go.Pg
