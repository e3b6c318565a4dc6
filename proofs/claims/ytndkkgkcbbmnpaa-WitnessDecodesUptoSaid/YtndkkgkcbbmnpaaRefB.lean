/-
  Contracts of pergolaref02.body, Bytes.
-/
import Derived.Test.YtndkkgkcbbmnpaaRefA
namespace Go.Proofs.Ytndkkgkcbbmnpaa
open Go.RowKit Go.Pg

def RBodyC (d : Nat) : Prop := ∀ (F : Nat → Prop) (w : World) (x : It) (l : Bool) (v1 v2 : Value), ItemAt F w d [.bool l, v1, v2] x → x.body ≤ 16777215 →
  Calls Try.prog 94 #[.agg #[.bool l, v1, v2]] w (Fresh w 5 1 byteR x.bodyB)
def RBytesC (d : Nat) : Prop := ∀ (F : Nat → Prop) (w : World) (x : It) (l : Bool) (v1 v2 : Value), ItemAt F w d [.bool l, v1, v2] x → x.body ≤ 16777215 →
  Calls Try.prog 76 #[.agg #[.bool l, v1, v2]] w (Fresh w 5 1 byteR x.enc)

set_option maxRecDepth 100000 in
set_option maxHeartbeats 1000000 in
theorem rbody_step {d : Nat} (hd0 : RBytesC d) : RBodyC (d + 1) := by
  intro F w x l v1 v2 h hx
  obtain ⟨hl, a1, n1, c1, a2, n2, c2, rfl, rfl, -, -⟩ := ItemAt.form h
  obtain ⟨i0, hi, hz0, hz1, hz2⟩ := info_parts infoU8
  have hbs := ItemAt.bytes h
  have his := ItemAt.items h
  have HD := Lib.hid hd0
  have HX := Lib.hid hx
  have hbe := It.body_eq x
  have HBE := Lib.hid hbe
  have hn2 : n2 = x.items.length := by
    rcases SliceAt.split his with ⟨h1, h2⟩ | ⟨_, _, _, h2, _⟩
    · rw [h1, h2]; rfl
    · exact h2
  have hn63 : n2 ≤ 1099511627776 := by have := It.length_le_wholes x.items; omega
  have HN2 := Lib.hid hn2
  have hbs0 := BytesAt.below hbs (Bel.alloc (Bel.refl w) (.cells #[.bool l, .slice a1 n1 c1, .slice a2 n2 c2] 65))
  have hle0 : (([] : List UInt8).length + x.bytes.length) * 1 ≤ 140737488355328 := by simp; omega
  have hbase0 : w.heap.size + 1 ≤ (w.alloc (.cells #[.bool l, .slice a1 n1 c1, .slice a2 n2 c2] 65)).heap.size := by simp
  clear hn2 hbe hx hd0 hl h
  go_enter Try.func94, Try.ntmps94
  go_wp2_with (at_builtin; refine wpList_append_at rfl (.tmp 5) (.tmp 7) 25 rfl (w.heap.size + 1) 5 i0 (.int .u8 0) 1 1 underlying25 hi hz0 hz1 hz2 rfl (by decide) (by decide) byteR.one _ [] rfl (OwnAt.nil _ _ _ _ _) _ x.bytes F rfl hbs0 hle0 hbase0 ?next)
  case next =>
  intro v' w2 ho hg hm
  have ho1 : OwnAt w2 (w.heap.size + 1) 5 1 byteR v' (x.bytes ++ It.encs (x.items.take 0)) := by simpa [It.encs] using ho
  have hB : Below w.heap.size w w2 ∧ w2.heap[w.heap.size]? = some (.cells #[.bool l, .slice a1 n1 c1, .slice a2 n2 c2] 65 (0, 0)) := by
    refine ⟨(Bel.alloc (Bel.refl w) _).grown hg (by simp) (fun k hk => by simp [Value.ownBlock] at hk), ?_⟩
    rw [hg.block _ (by simp) (by simp [Value.ownBlock])]; exact heap_alloc_new w _
  have HO := Lib.hid ho1
  have HB := Lib.hid hB
  clear ho ho1 hB hg hm hbs0
  go_wp2_with fail
  go_loopw [3, 4] (fun s i wr => ∃ k : Nat, k ≤ n2 ∧ i = .int .i64 k ∧ Hid (OwnAt wr (w.heap.size + 1) 5 1 byteR s (x.bytes ++ It.encs (x.items.take k))) ∧
      Hid (Below w.heap.size w wr ∧ wr.heap[w.heap.size]? = some (.cells #[.bool l, .slice a1 n1 c1, .slice a2 n2 c2] 65 (0, 0)))) (fun _ i _ => n2 - (intOf i).toNat)
  case atStart => exact ⟨0, Nat.zero_le _, rfl, HO.out, HB.out⟩
  case round =>
    obtain ⟨k, hk, rfl, HOr, HBr⟩ := hrel
    obtain ⟨q0, q1, q2⟩ := cells3 HBr.out.2
    have hsr := (Array.getElem?_eq_some_iff.1 HBr.out.2).1
    have hN := HN2.out
    clear HO HB
    by_cases hlt : k < n2
    · have hki : k < x.items.length := by omega
      rcases SliceAt.split his with ⟨h1, h2⟩ | ⟨b, o, rfl, -, -, hFb⟩
      · rw [h1] at hki; simp at hki
      have his' := ItemsAt.below his HBr.out.1
      obtain ⟨y1, z1, t1, y2, z2, t2, g0, g1, g2, hit⟩ := ItemsAt.cell his' k hki
      obtain ⟨y, hy⟩ : ∃ y, y = x.items[k] := ⟨_, rfl⟩
      rw [← hy] at g0 hit
      obtain ⟨L, hL⟩ : ∃ L, L = x.bytes ++ It.encs (x.items.take k) := ⟨_, rfl⟩
      have h1 := It.wholes_take_succ x.items k hki
      have h2 := It.wholes_take_le x.items (k + 1)
      have h3 := It.body_le_whole y
      have hyb : y.body ≤ 16777215 := by have := HBE.out; have := HX.out; rw [← hy] at h1; omega
      have hLl : L.length + y.whole ≤ 16777215 := by
        have := HBE.out; have := HX.out
        rw [hL, List.length_append, It.encs_length]; rw [← hy] at h1; omega
      have HE : Hid (L ++ y.enc = x.bytes ++ It.encs (x.items.take (k + 1))) := by
        show _ = _
        rw [hL, It.encs_take_succ _ _ hki, ← hy, List.append_assoc]
      have hyl := It.enc_length y
      rw [← hL] at HOr
      have HYL := Lib.hid hyl
      clear hy hL h1 h2 h3 his' hN hyl
      go_wp2_with fail
      refine (HD.out F wr y _ _ _ hit hyb).mono ?_
      rintro e w3 ⟨v3, rfl, ho3, hb3⟩
      have hO2 : OwnAt w3 (w.heap.size + 1) 5 1 byteR u3 L := (HOr.out).carry (fun g _ _ hlt => hb3.block g hlt)
      have hs3 : BytesAt (fun _ => True) w3 v3 y.enc := ho3.at (fun _ _ _ _ => trivial) (by decide)
      have hle : (L.length + y.enc.length) * 1 ≤ 140737488355328 := by rw [HYL.out]; omega
      have hbase : w.heap.size + 1 ≤ w3.heap.size := by have := hb3.size; omega
      have hB3 : Below w.heap.size w w3 ∧ w3.heap[w.heap.size]? = some (.cells #[.bool l, .slice a1 n1 c1, .slice (some ⟨b, o, none⟩) n2 c2] 65 (0, 0)) :=
        ⟨Bel.call HBr.out.1 hb3, by rw [hb3.block _ hsr]; exact HBr.out.2⟩
      have HB3 := Lib.hid hB3
      have HO2 := Lib.hid hO2
      have HS3 := Lib.hid hs3
      clear hB3 hb3 ho3 hO2 hs3 hit g0 g1 g2 q0 q1 q2
      go_wp2_with (at_builtin; refine wpList_append_at rfl (.tmp 16) (.tmp 22) 25 rfl (w.heap.size + 1) 5 i0 (.int .u8 0) 1 1 underlying25 hi hz0 hz1 hz2 rfl (by decide) (by decide) byteR.one _ L rfl HO2.out _ y.enc (fun _ => True) rfl HS3.out hle hbase ?_; intro v4 w4 ho hg hm)
      have HO4 := Lib.hid ho
      have hown := (HO2.out).own
      have hB4 : Below w.heap.size w w4 ∧ w4.heap[w.heap.size]? = some (.cells #[.bool l, .slice a1 n1 c1, .slice (some ⟨b, o, none⟩) n2 c2] 65 (0, 0)) := by
        refine ⟨(HB3.out.1).grown hg (by omega) (fun k hk => by have := (hown k hk).1; omega), ?_⟩
        rw [hg.block _ (by omega) (fun e => by have := (hown _ e.symm).1; omega)]; exact HB3.out.2
      have HB4 := Lib.hid hB4
      clear ho hg hm hB4 hown
      go_roundw
      case rel => exact ⟨k + 1, by omega, num_eq (by omega), (by show OwnAt _ _ _ _ _ _ _; rw [← HE.out]; exact HO4.out), HB4.out⟩
      case measure => simp [intOf]; omega
    · obtain rfl : k = n2 := by omega
      go_wp2
      go_ret
      have hO := HOr.out
      rw [List.take_of_length_le (by omega), ← It.bodyB_eq] at hO
      exact ⟨_, rfl, hO.lower (by omega), HBr.out.1⟩
end Go.Proofs.Ytndkkgkcbbmnpaa
