/-
  Contract of nest.write.
-/
import Derived.Test.YtndkkgkcbbmnpaaNestA
namespace Go.Proofs.Ytndkkgkcbbmnpaa
open Go.RowKit Go.Pg

theorem underlying25 : Try.prog.underlying 25 = some (.slice 5) := Try.underlying25
theorem infoU8 : (Try.prog.info? 5).map (fun i => (i.zero, i.size, i.bytes)) = some (some (.int .u8 0), 1, 1) := by kernel_rfl

/-- What nest.write holds to from its beginning in w on: v owns bs; the item's box stands; of what was there only v0's own block may have turned. -/
structure WInv (w : World) (base : Nat) (cs : Array Value) (v0 : Value) (W : World) (v : Value) (bs : List UInt8) : Prop where
  own : OwnAt W base 5 1 byteR v bs
  grown : w.grownBy W v0.ownBlock
  orig : ∀ g, v.ownBlock = some g → v0.ownBlock = some g ∨ w.heap.size < g
  own0 : ∀ g, v0.ownBlock = some g → base ≤ g ∧ g < w.heap.size
  box : W.heap[w.heap.size]? = some (.cells cs 65 (0, 0))
  size : w.heap.size < W.heap.size
theorem WInv.start {w : World} {base : Nat} {cs : Array Value} {v : Value} {bs : List UInt8} (h : OwnAt w base 5 1 byteR v bs) : WInv w base cs v (w.alloc (.cells cs 65)) v bs :=
  ⟨h.carry (fun g _ _ hlt => Below.heap_alloc _ _ _ hlt), World.grownBy_alloc _ _ _, fun g hg => .inl hg, h.own, heap_alloc_new w _, by simp⟩
section
variable {w : World} {base : Nat} {cs : Array Value} {v0 : Value} {W W' : World} {v v' : Value} {bs m : List UInt8}
theorem WInv.append (h : WInv w base cs v0 W v bs)
    (ho : OwnAt W' base 5 1 byteR v' (bs ++ m)) (hg : W.grownBy W' v.ownBlock) (hw : Moved W v v') : WInv w base cs v0 W' v' (bs ++ m) := by
  have hs := h.size
  have apart : ∀ g, v.ownBlock = some g → g ≠ w.heap.size := fun g hg' e => by
    rcases h.orig g hg' with h1 | h1
    · have := (h.own0 g h1).2; omega
    · omega
  refine ⟨ho, ⟨hg.os.trans h.grown.os, hg.tape.trans h.grown.tape, hg.output.trans h.grown.output, Nat.le_trans h.grown.size hg.size, fun k hk hn => ?_⟩, ?_, h.own0, ?_, Nat.lt_of_lt_of_le hs hg.size⟩
  · rw [hg.block k (by omega) (fun e => ?_)]
    · exact h.grown.block k hk hn
    · rcases h.orig k e.symm with h1 | h1
      · exact hn h1.symm
      · omega
  · intro g hg'
    rcases hw g hg' with h1 | h1
    · exact h.orig g h1
    · exact .inr (by omega)
  · rw [hg.block _ hs (fun e => apart _ e.symm rfl)]; exact h.box
theorem WInv.call (h : WInv w base cs v0 W v bs) (hc : Below W.heap.size W W') : WInv w base cs v0 W' v bs := by
  have hs := h.size
  have hg := h.grown
  exact ⟨h.own.carry (fun g _ _ hlt => hc.block g hlt), ⟨hc.os.trans hg.os, hc.tape.trans hg.tape, hc.output.trans hg.output, Nat.le_trans hg.size hc.size, fun k hk hn => (hc.block k (by omega)).trans (hg.block k hk hn)⟩,
    h.orig, h.own0, (hc.block _ hs).trans h.box, Nat.lt_of_lt_of_le hs hc.size⟩
theorem WInv.alloc (h : WInv w base cs v0 W v bs) (o : Obj) : WInv w base cs v0 (W.alloc o) v bs := h.call (Bel.alloc (Bel.refl W) o)
theorem WInv.bel (h : WInv w base cs v0 W v bs) (hb : base ≤ w.heap.size) : Below base w W := (Below.refl _ _).grown h.grown hb (fun k hk => (h.own0 k hk).1)
theorem WInv.base_le (h : WInv w base cs v0 W v bs) (hb : base ≤ w.heap.size) : base ≤ W.heap.size := Nat.le_trans hb (Nat.le_of_lt h.size)
theorem WInv.cells {l : Bool} {v1 v2 : Value} (h : WInv w base #[.bool l, v1, v2] v0 W v bs) :
    W.cell? ⟨w.heap.size, 0, none⟩ = some (.bool l) ∧ W.cell? ⟨w.heap.size, 1, none⟩ = some v1 ∧ W.cell? ⟨w.heap.size, 2, none⟩ = some v2 :=
  ⟨by rw [cell_of_row _ _ _ _ _ _ h.box]; rfl, by rw [cell_of_row _ _ _ _ _ _ h.box]; rfl, by rw [cell_of_row _ _ _ _ _ _ h.box]; rfl⟩
end
/-- what nest.write answers -/
def Wrote (w : World) (base : Nat) (v : Value) (bs : List UInt8) (e : Ending) (w' : World) : Prop :=
  ∃ v', e = .returned v' ∧ OwnAt w' base 5 1 byteR v' bs ∧ w.grownBy w' v.ownBlock ∧ Moved w v v'
theorem WInv.wrote {w : World} {base : Nat} {cs : Array Value} {v0 : Value} {W : World} {v : Value} {bs : List UInt8} (h : WInv w base cs v0 W v bs) : Wrote w base v0 bs (.returned v) W :=
  ⟨v, rfl, h.own, h.grown, fun g hg => (h.orig g hg).imp id Nat.le_of_lt⟩

def WriteC (d : Nat) : Prop := ∀ (F : Nat → Prop) (w : World) (base : Nat) (x : It) (l : Bool) (v1 v2 v : Value) (bs : List UInt8), base ≤ w.heap.size → (∀ b, F b → b < base) →
  ItemAt F w d [.bool l, v1, v2] x → OwnAt w base 5 1 byteR v bs → bs.length + x.whole ≤ 70368744177664 →
  Calls Try.prog 71 #[v, .agg #[.bool l, v1, v2]] w (Wrote w base v (bs ++ x.enc))

set_option maxHeartbeats 400000 in
theorem write_plain {d : Nat} (F : Nat → Prop) (w : World) (base : Nat) (x : It) (l : Bool) (v1 v2 v : Value) (bs : List UInt8) (hb : base ≤ w.heap.size) (hF : ∀ b, F b → b < base)
    (h : ItemAt F w d [.bool l, v1, v2] x) (hown : OwnAt w base 5 1 byteR v bs) (hlen : bs.length + x.whole ≤ 70368744177664) (hp : x.plain = true) :
    Calls Try.prog 71 #[v, .agg #[.bool l, v1, v2]] w (Wrote w base v (bs ++ x.enc)) := by
  obtain ⟨rfl, a1, n1, c1, a2, n2, c2, rfl, rfl, -, -⟩ := ItemAt.form h
  obtain ⟨i0, hi, hz0, hz1, hz2⟩ := info_parts infoU8
  go_enter Try.func71, Try.ntmps71
  go_wp2_with fail
  refine (plain_any (F := F) (d := d) (x := x) ?_).mono ?_
  · exact h.below ((Below.refl _ _).alloc (Nat.le_refl _) _)
  rintro e w1 ⟨rfl, hb1⟩
  have hI : WInv w base #[.bool x.isList, .slice a1 n1 c1, .slice a2 n2 c2] v w1 v bs := (WInv.start hown).call hb1
  have hsrc : BytesAt F w1 (.slice a1 n1 c1) x.bytes := (ItemAt.bytes h).carry (fun _ _ x => x) (fun b hFb _ => (hI.bel hb).block b (hF b hFb))
  have hle : (bs.length + x.bytes.length) * 1 ≤ 140737488355328 := by
    have := It.body_le_whole x; rw [It.body_eq] at this; omega
  have hb1' := hI.base_le hb
  obtain ⟨q0, q1, q2⟩ := hI.cells
  clear hb1
  go_wp2_with (at_builtin; refine wpList_append_at rfl (.tmp 13) (.tmp 15) 25 rfl base 5 i0 (.int .u8 0) 1 1 underlying25 hi hz0 hz1 hz2 rfl (by decide) (by decide) byteR.one _ bs rfl hI.own _ x.bytes F rfl hsrc hle hb1' ?_; intro v' w2 ho hg hw)
  go_ret
  have := (hI.append ho hg hw).wrote
  rwa [It.enc_eq, if_pos hp]

set_option maxHeartbeats 400000 in
set_option maxRecDepth 100000 in
theorem write_long {d : Nat} (hd : WriteC d) (F : Nat → Prop) (w : World) (base : Nat) (x : It) (l : Bool) (v1 v2 v : Value) (bs : List UInt8) (hb : base ≤ w.heap.size) (hF : ∀ b, F b → b < base)
    (h : ItemAt F w (d + 1) [.bool l, v1, v2] x) (hown : OwnAt w base 5 1 byteR v bs) (hlen : bs.length + x.whole ≤ 70368744177664) (hp : x.plain = false) :
    Calls Try.prog 71 #[v, .agg #[.bool l, v1, v2]] w (Wrote w base v (bs ++ x.enc)) := by
  obtain ⟨rfl, a1, n1, c1, a2, n2, c2, rfl, rfl, -, -⟩ := ItemAt.form h
  obtain ⟨i0, hi, hz0, hz1, hz2⟩ := info_parts infoU8
  have HD := Lib.hid hd
  clear hd
  obtain ⟨n, hn⟩ : ∃ n, n = x.body := ⟨_, rfl⟩
  have HN := Lib.hid hn
  have hbw := It.body_le_whole x
  have hle : n ≤ 70368744177664 := by omega
  clear hn hbw
  have hLB : (x.isList = false ∧ (x.base : Int) = 128) ∨ (x.isList = true ∧ (x.base : Int) = 192) := by
    unfold It.base
    cases x.isList <;> simp
  rcases hLB with ⟨hL, hB⟩ | ⟨hL, hB⟩
  all_goals
    have HBB := Lib.hid hB
    clear hB
    rw [hL] at h ⊢
    have HL := Lib.hid hL
    clear hL
    go_enter Try.func71, Try.ntmps71
    go_wp2_with fail
    refine (plain_any (F := F) (d := d + 1) (x := x) ?_).mono ?_
    · exact h.below ((Below.refl _ _).alloc (Nat.le_refl _) _)
    rintro e w1 ⟨rfl, hb1⟩
    have hI : WInv w base #[_, .slice a1 n1 c1, .slice a2 n2 c2] v w1 v bs := (WInv.start hown).call hb1
    clear hb1
    obtain ⟨q0, q1, q2⟩ := hI.cells
    go_wp2_with fail
    refine (body_any (d + 1) F _ x _ _ _ ?_ ?_).mono ?_
    · exact h.carry (fun _ _ x => x) (fun b hFb _ => (hI.bel hb).block b (hF b hFb))
    · rw [← HN.out]; omega
    rintro e w2 ⟨rfl, hb2⟩
    rw [← HN.out]
    replace hI := hI.call hb2
    clear hb2 q0 q1 q2
    obtain ⟨q0, q1, q2⟩ := hI.cells
    obtain ⟨hd, hhd⟩ : ∃ hd, hd = headB x.base n := ⟨_, rfl⟩
    have hsz : hd.length + n = x.whole := by
      rw [hhd, headB_length, It.whole_eq, hp, ← HN.out]; rfl
    have HH := Lib.hid hhd
    have hle1 : (bs.length + hd.length) * 1 ≤ 140737488355328 := by omega
    by_cases h55 : n ≤ 55
    case' pos =>
      have hsrc1 : Hid (BytesAt (fun _ => True) (w2.alloc (.cells #[.int .u8 (x.base + n)] 5)) (.slice (some ⟨w2.heap.size, 0, none⟩) 1 1) hd) := by
        rw [hhd]; unfold headB; rw [if_pos h55]
        exact byte_new _ _ _ _ (by omega) (by unfold It.base; split <;> omega)
      rw [HBB.out] at hsrc1
      clear hhd
      have hb1' := fun o => (hI.alloc o).base_le hb
      go_wp2_with (at_builtin; refine wpList_append_at rfl (.tmp 23) (.tmp 28) 25 rfl base 5 i0 (.int .u8 0) 1 1 underlying25 hi hz0 hz1 hz2 rfl (by decide) (by decide) byteR.one _ bs rfl (hI.alloc _).own _ hd (fun _ => True) rfl hsrc1.out hle1 (hb1' _) ?next1)
      case' next1 => intro v' w3 ho hg hw
      replace hI := (hI.alloc _).append ho hg hw
      clear ho hg hw q0 q1 q2 hle1 hb1' hsrc1
    case' neg =>
      clear hhd
      have hk6 := number_le 6 n (by omega)
      have hk1 : 1 ≤ number n := by rw [number_pos (by omega)]; omega
      go_wp2_with fail
      refine (number_any n _ (by omega)).mono ?_
      rintro e w3 ⟨rfl, rfl⟩
      obtain ⟨k, hk⟩ : ∃ k, k = number n := ⟨_, rfl⟩
      rw [← hk] at hk6 hk1 ⊢
      have HK := Lib.hid hk
      clear hk
      have hb1' := fun o => (hI.alloc o).base_le hb
      have hsrc1 : Hid (BytesAt (fun _ => True) (w2.alloc (.cells #[.int .u8 (x.base + 55 + k)] 5)) (.slice (some ⟨w2.heap.size, 0, none⟩) 1 1) (hd.take 1)) := by
        rw [HH.out]; unfold headB; rw [if_neg h55, ← HK.out]
        exact byte_new _ _ _ _ (by omega) (by unfold It.base; split <;> omega)
      rw [HBB.out] at hsrc1
      simp only [Int.reduceAdd] at hsrc1
      have hle3 : (bs.length + (hd.take 1).length) * 1 ≤ 140737488355328 := by rw [List.length_take]; omega
      have hk : hd.length = k + 1 := by rw [HH.out]; unfold headB; rw [if_neg h55, ← HK.out]; simp [beBytes_length]
      have HKL := Lib.hid hk
      clear hk
      go_wp2_with (at_builtin; refine wpList_append_at rfl (.tmp 32) (.tmp 38) 25 rfl base 5 i0 (.int .u8 0) 1 1 underlying25 hi hz0 hz1 hz2 rfl (by decide) (by decide) byteR.one _ bs rfl (hI.alloc _).own _ (hd.take 1) (fun _ => True) rfl hsrc1.out hle3 (hb1' _) ?_; intro v1 w4 ho hg hw)
      replace hI := (hI.alloc _).append ho hg hw
      clear ho hg hw q0 q1 q2 hb1' hsrc1 hle3
      have HI := Lib.hid hI
      clear hI
      go_loopw [0, 8] (fun s i wr => ∃ (j : Nat) (vr : Value), j ≤ k ∧ i = .int .i64 ((j : Int) - 1) ∧ s = vr ∧ Hid (WInv w base #[.bool _, .slice a1 n1 c1, .slice a2 n2 c2] v wr vr (bs ++ hd.take (1 + (k - j))))) (fun _ i _ => (intOf i + 1).toNat)
      case atStart => exact ⟨k, _, Nat.le_refl _, num_eq (by omega), rfl, by rw [Nat.sub_self]; exact HI.out⟩
      case' round =>
        obtain ⟨j, vr, hj, rfl, rfl, HR⟩ := hrel
        clear HI
        obtain ⟨w3, rfl⟩ : ∃ w3 : World, w3 = wr := ⟨_, rfl⟩
        obtain ⟨v', rfl⟩ : ∃ v' : Value, v' = u0 := ⟨_, rfl⟩
        by_cases hj0 : 0 < j
        case' pos =>
          obtain ⟨y, hy⟩ : ∃ y, y = UInt8.ofNat (n / 256 ^ (j - 1) % 256) := ⟨_, rfl⟩
          obtain ⟨L, hL⟩ : ∃ L, L = hd.take (1 + (k - j)) := ⟨_, rfl⟩
          have HE : Hid (L ++ [y] = hd.take (1 + (k - (j - 1)))) := by
            show _ = _
            have h1 := beBytes_take k n (k - j) (by omega)
            rw [hL, hy, HH.out, headB, if_neg h55, ← HK.out, show 1 + (k - j) = (k - j) + 1 by omega, show 1 + (k - (j - 1)) = (k - j + 1) + 1 by omega, List.take_succ_cons, List.take_succ_cons, h1, show k - 1 - (k - j) = j - 1 by omega]
            rfl
          have hsrc1 : Hid (BytesAt (fun _ => True) (w3.alloc (.cells #[.int .u8 ((n : Int) / 2 ^ (8 * (j - 1)) % 256)] 5)) (.slice (some ⟨w3.heap.size, 0, none⟩) 1 1) [y]) := by
            rw [hy]
            exact byte_new _ _ _ _ (shift_byte n (j - 1)) (Nat.mod_lt _ (by omega))
          rw [← hL] at HR
          have hle3 : ((bs ++ L).length + [y].length) * 1 ≤ 140737488355328 := by rw [List.length_append, hL, List.length_take]; simp; omega
          have hb1' := fun o => ((HR.out).alloc o).base_le hb
          clear hy hL
          go_wp2_with (at_builtin; refine wpList_append_at rfl (.tmp 46) (.tmp 52) 25 rfl base 5 i0 (.int .u8 0) 1 1 underlying25 hi hz0 hz1 hz2 rfl (by decide) (by decide) byteR.one _ (bs ++ L) rfl ((HR.out).alloc _).own _ [y] (fun _ => True) rfl hsrc1.out hle3 (hb1' _) ?_; intro v5 w5 ho hg hw)
          have HI5 := Lib.hid (((HR.out).alloc _).append (m := [y]) ho hg hw)
          clear ho hg hw
          go_roundw
          case rel => exact ⟨j - 1, v5, by omega, num_eq (by omega), rfl, (by rw [← HE.out, ← List.append_assoc]; exact HI5.out)⟩
          case measure => simp [intOf]; omega
        case' neg =>
          obtain rfl : j = 0 := by omega
          have hI := HR.out
          rw [Nat.sub_zero, Nat.add_comm, ← HKL.out, List.take_length] at hI
    all_goals
      obtain ⟨q0, q1, q2⟩ := hI.cells
      have hsrc : BytesAt F w3 (.slice a1 n1 c1) x.bytes := (ItemAt.bytes h).carry (fun _ _ x => x) (fun b hFb _ => (hI.bel hb).block b (hF b hFb))
      have hle2 : ((bs ++ hd).length + x.bytes.length) * 1 ≤ 140737488355328 := by
        have h2 := HN.out
        rw [It.body_eq] at h2
        simp only [List.length_append]; omega
      have hb1' := hI.base_le hb
      go_wp2_with (at_builtin; refine wpList_append_at rfl (.tmp 54) (.tmp 56) 25 rfl base 5 i0 (.int .u8 0) 1 1 underlying25 hi hz0 hz1 hz2 rfl (by decide) (by decide) byteR.one _ (bs ++ hd) rfl hI.own _ x.bytes F rfl hsrc hle2 hb1' ?next)
      case next =>
      intro v'' w4 ho hg hw
      replace hI := hI.append (m := x.bytes) (by first | exact ho | (rw [List.append_assoc]; exact ho)) hg hw
      clear ho hg hw q0 q1 q2 hle2 hb1' hsrc
      obtain ⟨q0, q1, q2⟩ := hI.cells
      have his : ItemsAt F w4 d (.slice a2 n2 c2) x.items := (ItemAt.items h).carry (fun _ _ x => x) (fun b hFb _ => (hI.bel hb).block b (hF b hFb))
      have hbody : x.bytes.length + It.wholes x.items = n := by rw [HN.out, It.body_eq]
      have HF : Hid (bs ++ x.enc = bs ++ hd ++ x.bytes ++ It.encs x.items) := by
        show _ = _
        rw [It.enc_eq, hp, HH.out, ← HN.out, It.bodyB_eq]
        simp only [Bool.false_eq_true, if_false, List.append_assoc]
      rcases SliceAt.split his with ⟨he, rfl⟩ | ⟨b, o, rfl, hn2, hpos, -⟩
      · go_wp2_with fail
        go_rounds 1
        go_ret
        rw [HF.out, he]
        simpa [It.encs] using hI.wrote
      · have HN2 := Lib.hid hn2
        have hn63 : n2 ≤ 70368744177664 := by
          have : x.items.length ≤ It.wholes x.items := It.length_le_wholes _
          omega
        have HS := Lib.hid hsz
        clear hn2 hbody hsz
        have hq := hI.size
        have HI := Lib.hid hI
        have HIS := Lib.hid his
        clear hI his
        go_wp2_with fail
        obtain ⟨w0, hw0⟩ : ∃ w0, w0 = w4 := ⟨_, rfl⟩
        go_loopw [0, 10, 61] (fun s y i wr => ∃ (k : Nat) (vr : Value), k ≤ n2 ∧ i = .int .i64 k ∧ s = vr ∧ Hid (WInv w base #[.bool _, .slice a1 n1 c1, .slice (some ⟨b, o, none⟩) n2 c2] v wr vr (bs ++ hd ++ x.bytes ++ It.encs (x.items.take k)))) (fun _ _ i _ => n2 - (intOf i).toNat)
        case atStart => exact ⟨0, _, Nat.zero_le _, rfl, rfl, (by show WInv _ _ _ _ _ _ _; simpa [It.encs] using HI.out)⟩
        case round =>
          obtain ⟨k, vr, hk, rfl, rfl, HR⟩ := hrel
          have hN := HN2.out
          by_cases hlt : k < n2
          · have hki : k < x.items.length := by omega
            have hwr := HR.out
            have his' := (HIS.out).carry (F' := F) (w' := wr) (fun _ _ x => x) (fun b hFb _ => by rw [hwr.bel hb |>.block b (hF b hFb)]; exact (HI.out.bel hb |>.block b (hF b hFb)).symm)
            obtain ⟨b1, m1, d1, b2, m2, d2, q0, q1, q2, hit⟩ := ItemsAt.cell his' k hki
            obtain ⟨y, hy⟩ : ∃ y, y = x.items[k] := ⟨_, rfl⟩
            obtain ⟨L, hL⟩ : ∃ L, L = bs ++ hd ++ x.bytes ++ It.encs (x.items.take k) := ⟨_, rfl⟩
            have hlen5 : L.length + y.whole ≤ 70368744177664 := by
              have h1 := It.wholes_take_succ x.items k hki
              have h2 := It.wholes_take_le x.items (k + 1)
              have h3 := HN.out
              have h4 := HS.out
              rw [It.body_eq] at h3
              rw [hL, hy]
              simp only [List.length_append, It.encs_length]
              omega
            have HE : Hid (L ++ y.enc = bs ++ hd ++ x.bytes ++ It.encs (x.items.take (k + 1))) := by
              show _ = _
              rw [hL, It.encs_take_succ _ _ hki, ← hy]; simp only [List.append_assoc]
            rw [← hL] at HR hwr
            rw [← hy] at q0 hit
            clear hy hL his' hwr hN
            go_wp2_with fail
            refine (HD.out F _ base y _ _ _ _ L ?_ hF ?_ ?_ hlen5).mono ?_
            · exact ((HR.out).alloc _).base_le hb
            · exact hit.below ((Below.refl _ _).alloc (Nat.le_refl _) _)
            · exact ((HR.out).alloc _).own
            rintro e w5 ⟨v5, rfl, ho5, hg5, hm5⟩
            have HI5 := Lib.hid (((HR.out).alloc _).append ho5 hg5 hm5)
            clear ho5 hg5 hm5
            go_wp2_with fail
            go_roundw
            case rel => exact ⟨k + 1, v5, by omega, num_eq (by omega), rfl, (by show WInv _ _ _ _ _ _ _; rw [← HE.out]; exact HI5.out)⟩
            case measure => simp [intOf]; omega
          · obtain rfl : k = n2 := by omega
            go_wp2
            go_ret
            have := HR.out
            rw [HF.out]
            rw [List.take_of_length_le (by omega)] at this
            exact this.wrote

end Go.Proofs.Ytndkkgkcbbmnpaa
