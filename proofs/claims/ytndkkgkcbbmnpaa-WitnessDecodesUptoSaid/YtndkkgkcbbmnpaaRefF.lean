/-
  Contract of pergolaref02.Encode.
-/
import Derived.Test.YtndkkgkcbbmnpaaRefE
import Derived.Test.YtndkkgkcbbmnpaaNestE
namespace Go.Proofs.Ytndkkgkcbbmnpaa
open Go.RowKit Go.Pg

set_option maxRecDepth 100000 in
set_option maxHeartbeats 1000000 in
theorem rencode_any (F : Nat → Prop) (w : World) (d : Nat) (x : It) (l : Bool) (v1 v2 : Value) (h : ItemAt F w d [.bool l, v1, v2] x) (hw : x.whole ≤ 70368744177664) :
    Calls Try.prog 45 #[.agg #[.bool l, v1, v2]] w (Encd w x.encode) := by
  obtain ⟨hl, a1, n1, c1, a2, n2, c2, rfl, rfl, -, -⟩ := ItemAt.form h
  have hbs := ItemAt.bytes h
  have hn1 : n1 = x.bytes.length := by
    obtain ⟨a, c, hv, -⟩ := SliceAt.len hbs
    simp only [Value.slice.injEq] at hv
    exact hv.2.1
  have hbw := It.body_le_whole x
  have hbe := It.body_eq x
  have hrl := It.rsizes_le x.items
  have hro := It.rsizes_or x.items
  obtain ⟨d', rfl⟩ : ∃ d', d = d' + 1 := by
    cases d with
    | zero => exact h.elim
    | succ d => exact ⟨d, rfl⟩
  have his := ItemAt.items h
  have hn2 : n2 = x.items.length := by
    rcases SliceAt.split his with ⟨h1, h2⟩ | ⟨_, _, _, h2, _⟩
    · rw [h1, h2]; rfl
    · exact h2
  have hlw := It.length_le_wholes x.items
  have hn63 : n2 ≤ 70368744177664 := by omega
  have hn163 : n1 ≤ 70368744177664 := by omega
  have hbig : (16777215 < n1 + It.rsizes x.items ↔ 16777215 < x.body) := by omega
  have hsum : n1 + It.rsizes x.items ≤ 70368744177664 := by omega
  have HBIG := Lib.hid hbig
  have HSUM := Lib.hid hsum
  have HN2 := Lib.hid hn2
  have HIS := Lib.hid his
  have HWW := Lib.hid hw
  have HIT := Lib.hid h
  obtain ⟨m, e0, hr⟩ : ∃ m e0, x.look 0 0 = (m, e0) := ⟨_, _, rfl⟩
  have HR := Lib.hid hr
  have hw0 : 0 + x.whole ≤ 1125899906842624 := by omega
  clear hl hbs hn1 hbw hbe hrl hro hn2 hlw hbig hsum hw his hr h
  go_enter Try.func45, Try.ntmps45
  go_wp2_with fail
  refine (rwalk_any (d' + 1) F _ x _ _ _ 0 0 ?_ (by omega) hw0).mono ?_
  · exact (HIT.out).below (Bel.alloc (Bel.refl w) _)
  rintro e w1 ⟨rfl, hb1⟩
  have hbx : w1.heap[w.heap.size]? = some (.cells #[.bool l, .slice a1 n1 c1, .slice a2 n2 c2] 65 (0, 0)) := boxblock hb1
  obtain ⟨q0, q1, q2⟩ := cells3 hbx
  have HB1 := Lib.hid (And.intro (Bel.call (Bel.alloc (Bel.refl w) _) hb1) hbx)
  rw [HR.out]
  clear hb1 hbx
  by_cases he : e0 = 0
  · subst he
    go_wp2_with fail
    go_loopw [6, 7] (fun s i wr => ∃ k m0 : Nat, k ≤ n2 ∧ i = .int .i64 k ∧ s = .int .i64 m0 ∧ Hid (m0 = n1 + It.rsizes (x.items.take k)) ∧
      Hid (Below w.heap.size w wr ∧ wr.heap[w.heap.size]? = some (.cells #[.bool l, .slice a1 n1 c1, .slice a2 n2 c2] 65 (0, 0)))) (fun _ i _ => n2 - (intOf i).toNat)
    case atStart => exact ⟨0, n1, Nat.zero_le _, rfl, rfl, by show _ = _; simp [It.rsizes], HB1.out⟩
    case round =>
      obtain ⟨k, m0, hk, rfl, rfl, HM, HB⟩ := hrel
      clear q0 q1 q2
      obtain ⟨q0, q1, q2⟩ := cells3 HB.out.2
      have hsr := (Array.getElem?_eq_some_iff.1 HB.out.2).1
      have hN := HN2.out
      have htl : It.rsizes (x.items.take k) ≤ It.rsizes x.items := by
        have := It.rsizes_append (x.items.take k) (x.items.drop k)
        rw [List.take_append_drop] at this; omega
      have hm63 : m0 ≤ 70368744177664 := by have := HM.out; have := HSUM.out; omega
      clear htl
      by_cases hlt : k < n2
      · have hki : k < x.items.length := by omega
        rcases SliceAt.split HIS.out with ⟨h1, h2⟩ | ⟨b, o, rfl, -, -, hFb⟩
        · rw [h1] at hki; simp at hki
        have his' := ItemsAt.below HIS.out HB.out.1
        obtain ⟨y1, z1, t1, y2, z2, t2, g0, g1, g2, hit⟩ := ItemsAt.cell his' k hki
        obtain ⟨y, hy⟩ : ∃ y, y = x.items[k] := ⟨_, rfl⟩
        rw [← hy] at g0 hit
        have h1 := It.rsizes_take_succ x.items k hki
        have h2 := It.wholes_take_succ x.items k hki
        have h3 := It.wholes_take_le x.items (k + 1)
        have h4 := It.rsize_le y
        have h5 := It.body_le_whole x
        have h6 := It.body_eq x
        have hyw : y.whole ≤ 70368744177664 := by have := HWW.out; rw [← hy] at h2; omega
        have hyr : y.rsize ≤ 70368744177664 := by omega
        have HE : Hid (m0 + y.rsize = n1 + It.rsizes (x.items.take (k + 1))) := by show _ = _; rw [h1, HM.out, ← hy]; omega
        clear hy h1 h2 h3 h4 h5 h6 his' hN
        go_wp2_with fail
        refine (rsize_any d' F wr y _ _ _ hit hyw).mono ?_
        rintro e w3 ⟨rfl, hb3⟩
        have hB3 : Below w.heap.size w w3 ∧ w3.heap[w.heap.size]? = some (.cells #[.bool l, .slice a1 n1 c1, .slice (some ⟨b, o, none⟩) n2 c2] 65 (0, 0)) :=
          ⟨Bel.call HB.out.1 hb3, by rw [hb3.block _ hsr]; exact HB.out.2⟩
        have HB3 := Lib.hid hB3
        clear hB3 hb3 hit
        go_wp2_with fail
        go_roundw
        case rel => exact ⟨k + 1, m0 + y.rsize, by omega, num_eq (by omega), num_eq (by omega), HE, HB3.out⟩
        case measure => simp [intOf]; omega
      · obtain rfl : k = n2 := by omega
        have hm := HM.out
        rw [List.take_of_length_le (by omega)] at hm
        have hbig : 16777215 < m0 ↔ 16777215 < x.body := by rw [hm]; exact HBIG.out
        have HBG := Lib.hid hbig
        clear hm hbig hN
        by_cases hb : (16777215 : Int) < (m0 : Int)
        · have he : x.encode = ([], 20) := by unfold It.encode; rw [HR.out, if_neg (by simp), if_pos (HBG.out.1 (by omega))]
          have HEE := Lib.hid he
          clear he
          go_wp2_with fail
          go_ret2
          exact ⟨.slice none 0 0, by rw [HEE.out]; rfl, by rw [HEE.out]; exact OwnAt.nil _ _ _ _ _, HB.out.1⟩
        · have hxb : x.body ≤ 16777215 := by have := HBG.out; omega
          have he : x.encode = (x.enc, 0) := by unfold It.encode; rw [HR.out, if_neg (by simp), if_neg (by omega)]
          have HEE := Lib.hid he
          clear he
          go_wp2_with fail
          refine (rbytes_any (d' + 1) F _ x _ _ _ ?_ hxb).mono ?_
          · exact (HIT.out).below HB.out.1
          rintro e w3 ⟨v3, rfl, ho3, hb3⟩
          have HB3 := Lib.hid (Bel.call HB.out.1 hb3)
          have HO3 := Lib.hid (ho3.lower (HB.out.1).size)
          clear ho3 hb3
          go_wp2_with fail
          go_ret2
          exact ⟨v3, by rw [HEE.out]; rfl, by rw [HEE.out]; exact HO3.out, HB3.out⟩
  · have he' : (((e0 : Nat) : Int) != 0) = true := by simp; omega
    have hee : x.encode = ([], e0) := by unfold It.encode; rw [HR.out]; simp [he]
    have HEE := Lib.hid hee
    clear hee
    go_wp2
    go_ret2
    exact ⟨.slice none 0 0, by rw [HEE.out]; rfl, by rw [HEE.out]; exact OwnAt.nil _ _ _ _ _, HB1.out.1⟩

end Go.Proofs.Ytndkkgkcbbmnpaa
