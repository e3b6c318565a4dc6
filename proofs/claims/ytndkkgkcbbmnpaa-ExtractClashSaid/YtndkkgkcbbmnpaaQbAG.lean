/-
  Contract of pergolaref02.walk.
  Contract of pergolaref02.Encode.
  Contract of pergolaref21.texts.
  Contracts of pergolaref01.Ahead, pergolaref21.rises.
  Contract of pergolaref21.Encode.
  Every witness' bytes, or that it has none, are what the document says (the statement WitnessEncodes, where what is read is of bulk at most 1048576).
  Contract of pergolaref02.copied; pieces of bytes.
-/
import Derived.Test.YtndkkgkcbbmnpaaQbAF
import Derived.Deep.RegionLaw
namespace Go.Proofs.Ytndkkgkcbbmnpaa
open Go.RowKit Go.Pg

def Walked (w : World) (r : Nat × Nat) (e : Ending) (w' : World) : Prop :=
  e = .returned (.tuple #[.int .i64 r.1, .int .i64 r.2]) ∧ Below w.heap.size w w'
def RWalkC (d : Nat) : Prop := ∀ (F : Nat → Prop) (w : World) (x : It) (l : Bool) (v1 v2 : Value) (deep wt : Nat), ItemAt F w d [.bool l, v1, v2] x → deep ≤ 8 → wt + x.whole ≤ 1125899906842624 →
  Calls Try.prog 74 #[.agg #[.bool l, v1, v2], .int .i64 deep, .int .i64 wt] w (Walked w (x.look deep wt))

set_option maxRecDepth 100000 in
set_option maxHeartbeats 1000000 in
theorem rwalk_text (w : World) (b : List UInt8) (a a2 : Option Addr) (c c2 : Nat) (deep wt : Nat) (hw : wt + (It.text b).whole ≤ 1125899906842624) :
    Calls Try.prog 74 #[.agg #[.bool false, .slice a b.length c, .slice a2 0 c2], .int .i64 deep, .int .i64 wt] w (Walked w ((It.text b).look deep wt)) := by
  obtain ⟨n, hn⟩ : ∃ n, n = b.length := ⟨_, rfl⟩
  rw [← hn]
  have hnw : n ≤ (It.text b).whole := by rw [hn]; exact It.body_le_whole (.text b)
  have hpos := It.whole_pos (.text b)
  have HN := Lib.hid hn
  obtain ⟨m, hm⟩ : ∃ m : Nat, m = wt + max n 1 := ⟨_, rfl⟩
  have hmb : m ≤ 1125899906842624 := by omega
  have hlk : (It.text b).look deep wt = (m, if 16777215 < m then 20 else 0) := by
    simp only [It.look, ← hn, ← hm]; split <;> rfl
  have HL := Lib.hid hlk
  have hcase : ((1 : Int) < (n : Int) ∧ (wt : Int) + (n : Int) = (m : Int)) ∨ (¬ (1 : Int) < (n : Int) ∧ (wt : Int) + 1 = (m : Int)) := by omega
  clear hm hn hnw hpos hw hlk
  rcases hcase with ⟨h1, h2⟩ | ⟨h1, h2⟩
  all_goals
    by_cases hbig : (16777215 : Int) < (m : Int)
    all_goals
      go_enter Try.func74, Try.ntmps74
      go_wp2
      first
        | (go_ret2; exact ⟨by rw [HL.out, if_pos (by omega)]; rfl, Bel.alloc (Bel.refl w) _⟩)
        | (go_rounds 1; go_ret2; exact ⟨by rw [HL.out, if_neg (by omega)]; rfl, Bel.alloc (Bel.refl w) _⟩)

set_option maxRecDepth 100000 in
set_option maxHeartbeats 1000000 in
theorem rwalk_list {d : Nat} (hd0 : RWalkC d) (F : Nat → Prop) (w : World) (l : List It) (a a2 : Option Addr) (c n2 c2 : Nat) (deep wt : Nat)
    (his : ItemsAt F w d (.slice a2 n2 c2) l) (hd : deep ≤ 8) (hw : wt + (It.list l).whole ≤ 1125899906842624) :
    Calls Try.prog 74 #[.agg #[.bool true, .slice a 0 c, .slice a2 n2 c2], .int .i64 deep, .int .i64 wt] w (Walked w ((It.list l).look deep wt)) := by
  have HD := Lib.hid hd0
  obtain ⟨m, hm⟩ : ∃ m : Nat, m = wt + 1 := ⟨_, rfl⟩
  have hmx : (wt : Int) + 1 = (m : Int) := by omega
  have HM := Lib.hid hm
  have hwb : It.wholes l + 1 ≤ (It.list l).whole := by simp only [It.whole]; exact sz_ge _
  have hmb : m + It.wholes l ≤ 1125899906842624 := by omega
  have hwm : wt + It.wholes l ≤ 1125899906842624 := by omega
  have hn2 : n2 = l.length := by
    rcases SliceAt.split his with ⟨h1, h2⟩ | ⟨_, _, _, h2, _⟩
    · rw [h1, h2]; rfl
    · exact h2
  have hn63 : n2 ≤ 1125899906842624 := by have := It.length_le_wholes l; omega
  have HN2 := Lib.hid hn2
  have HIS := Lib.hid his
  clear hm hd0 his hwb hw hn2
  have hcases : (((8 : Int) ≤ (deep : Int)) ∧ Hid ((It.list l).look deep wt = (wt, 21))) ∨
      (¬ ((8 : Int) ≤ (deep : Int)) ∧ ¬ (0 : Int) < (deep : Int) ∧ (16777215 : Int) < (wt : Int) ∧ Hid ((It.list l).look deep wt = (wt, 20))) ∨
      (¬ ((8 : Int) ≤ (deep : Int)) ∧ ¬ (0 : Int) < (deep : Int) ∧ ¬ (16777215 : Int) < (wt : Int) ∧ Hid (lookHead deep wt = (wt, 0))) ∨
      (¬ ((8 : Int) ≤ (deep : Int)) ∧ (0 : Int) < (deep : Int) ∧ (16777215 : Int) < (m : Int) ∧ Hid ((It.list l).look deep wt = (m, 20))) ∨
      (¬ ((8 : Int) ≤ (deep : Int)) ∧ (0 : Int) < (deep : Int) ∧ ¬ (16777215 : Int) < (m : Int) ∧ Hid (lookHead deep wt = (m, 0))) := by
    have hmm := HM.out
    rw [look_list_eq]
    unfold lookHead Hid
    rw [← hmm]
    by_cases h8 : deep = 8
    · exact .inl ⟨by omega, by rw [if_pos h8]; rfl⟩
    · rw [if_neg h8]
      by_cases h0 : deep = 0
      · rw [if_pos h0]
        by_cases hb : 16777215 < wt
        · exact .inr (.inl ⟨by omega, by omega, by omega, by rw [if_pos hb]; rfl⟩)
        · exact .inr (.inr (.inl ⟨by omega, by omega, by omega, by rw [if_neg hb]⟩))
      · rw [if_neg h0]
        by_cases hb : 16777215 < m
        · exact .inr (.inr (.inr (.inl ⟨by omega, by omega, by omega, by rw [if_pos hb]; rfl⟩)))
        · exact .inr (.inr (.inr (.inr ⟨by omega, by omega, by omega, by rw [if_neg hb]⟩)))
  rcases hcases with ⟨e8, HH⟩ | ⟨e8, e0, hb, HH⟩ | ⟨e8, e0, hb, HH⟩ | ⟨e8, e0, hb, HH⟩ | ⟨e8, e0, hb, HH⟩
  case' inl =>
    go_enter Try.func74, Try.ntmps74
    go_wp2
    go_ret2
    exact ⟨by rw [HH.out]; rfl, Bel.alloc (Bel.refl w) _⟩
  case' inr.inl =>
    go_enter Try.func74, Try.ntmps74
    go_wp2
    go_ret2
    exact ⟨by rw [HH.out]; rfl, Bel.alloc (Bel.refl w) _⟩
  case' inr.inr.inr.inl =>
    go_enter Try.func74, Try.ntmps74
    go_wp2
    go_ret2
    exact ⟨by rw [HH.out]; rfl, Bel.alloc (Bel.refl w) _⟩
  all_goals
    try (have hzd : decide (0 < deep) = false := by simp; omega)
    try (have hzd : decide (0 < deep) = true := by simp; omega)
    try (have hbz : decide ((16777215 : Int) < (wt : Int)) = false := by simp; omega)
    try (have hbz : decide ((16777215 : Int) < (m : Int)) = false := by simp; omega)
    go_enter Try.func74, Try.ntmps74
    go_wp2
    go_loopw [2, 8] (fun s i wr => ∃ k m0 : Nat, i = .int .i64 k ∧ k ≤ n2 ∧ s = .int .i64 m0 ∧ m0 + It.wholes (l.drop k) ≤ 1125899906842624 ∧ Hid (lookOn (l.drop k) (deep + 1) (m0, 0) = (It.list l).look deep wt) ∧
      Hid (Below w.heap.size w wr ∧ wr.heap[w.heap.size]? = some (.cells #[.bool true, .slice a 0 c, .slice a2 n2 c2] 65 (0, 0)))) (fun _ i _ => n2 - (intOf i).toNat)
    case atStart =>
      first
        | exact ⟨0, wt, rfl, Nat.zero_le _, rfl, hwm, by show _ = _; rw [look_list_eq, HH.out]; rfl, Bel.alloc (Bel.refl w) _, heap_alloc_new w _⟩
        | exact ⟨0, m, rfl, Nat.zero_le _, rfl, hmb, by show _ = _; rw [look_list_eq, HH.out]; rfl, Bel.alloc (Bel.refl w) _, heap_alloc_new w _⟩
    case round =>
      obtain ⟨k, m1, rfl, hk, rfl, hb1, HO, HB⟩ := hrel
      obtain ⟨q0, q1, q2⟩ := cells3 HB.out.2
      have hsr := (Array.getElem?_eq_some_iff.1 HB.out.2).1
      have hN := HN2.out
      by_cases hlt : k < n2
      · have hki : k < l.length := by omega
        rcases SliceAt.split HIS.out with ⟨h1, h2⟩ | ⟨b, o, rfl, -, -, hFb⟩
        · omega
        have his' := ItemsAt.below HIS.out HB.out.1
        obtain ⟨y1, z1, t1, y2, z2, t2, g0, g1, g2, hit⟩ := ItemsAt.cell his' k hki
        obtain ⟨y, hy⟩ : ∃ y, y = l[k] := ⟨_, rfl⟩
        rw [← hy] at g0 hit
        have hdrop : l.drop k = y :: l.drop (k + 1) := by rw [hy]; exact List.drop_eq_getElem_cons hki
        have hbw : m1 + y.whole + It.wholes (l.drop (k + 1)) ≤ 1125899906842624 := by
          rw [hdrop] at hb1; simp only [It.wholes] at hb1; omega
        have HO2 : Hid (lookOn (l.drop (k + 1)) (deep + 1) (y.look (deep + 1) m1) = (It.list l).look deep wt) := by
          have := HO.out
          rwa [hdrop, lookOn_cons] at this
        have hle := It.look_le y (deep + 1) m1
        clear hy hdrop his' HO hb1 hN
        go_wp2_with fail
        rw [show ((deep : Int) + 1) = ((deep + 1 : Nat) : Int) from rfl]
        refine (HD.out F wr y _ _ _ (deep + 1) m1 hit (by omega) (by omega)).mono ?_
        rintro e w5 ⟨rfl, hb5⟩
        obtain ⟨m2, e2, hr⟩ : ∃ m2 e2, y.look (deep + 1) m1 = (m2, e2) := ⟨_, _, rfl⟩
        rw [hr] at hle HO2 ⊢
        have hle' : m2 ≤ m1 + y.whole := hle
        clear hle
        have hB5 : Below w.heap.size w w5 ∧ w5.heap[w.heap.size]? = some (.cells #[.bool true, .slice a 0 c, .slice (some ⟨b, o, none⟩) n2 c2] 65 (0, 0)) :=
          ⟨Bel.call HB.out.1 hb5, by rw [hb5.block _ hsr]; exact HB.out.2⟩
        have HB5 := Lib.hid hB5
        clear hb5 hB5 hr hit
        by_cases he : e2 = 0
        · subst he
          go_wp2_with fail
          go_roundw
          case rel =>
            first
              | exact ⟨k + 1, m2, num_eq (by omega), by omega, rfl, by omega, HO2, HB5.out⟩
              | ((repeat apply Exists.intro); exact ⟨⟨k + 1, m2, num_eq (by omega), by omega, rfl, by omega, HO2, HB5.out⟩, rfl⟩)
          case measure => simp [intOf]; omega
        · have he' : (((e2 : Nat) : Int) != 0) = true := by simp; omega
          go_wp2_with fail
          go_ret2
          have := HO2.out
          rw [lookOn_bad _ _ _ _ he] at this
          exact ⟨by rw [← this]; rfl, HB5.out.1⟩
      · go_wp2
        go_ret2
        have := HO.out
        rw [List.drop_eq_nil_of_le (by omega), lookOn_nil] at this
        exact ⟨by rw [← this]; rfl, HB.out.1⟩

theorem rwalk_any (d : Nat) : RWalkC d := by
  induction d with
  | zero => intro F w x l v1 v2 deep wt h; exact h.elim
  | succ d ih =>
    intro F w x l v1 v2 deep wt h hd hx
    obtain ⟨u1, u2, h1, h2, h3⟩ := h
    simp only [List.cons.injEq, Value.bool.injEq, and_true] at h1
    obtain ⟨rfl, rfl, rfl⟩ := h1
    obtain ⟨a, c, rfl, -, -, -⟩ := SliceAt.len h2
    obtain ⟨a2, c2, rfl, -, -, -⟩ := SliceAt.len h3
    cases x with
    | list l => exact rwalk_list ih F w l a a2 c _ c2 deep wt h3 hd hx
    | text b => exact rwalk_text w b a a2 c c2 deep wt hx
end Go.Proofs.Ytndkkgkcbbmnpaa
namespace Go.Proofs.Ytndkkgkcbbmnpaa
open Go.RowKit Go.Pg

set_option maxRecDepth 100000 in
set_option maxHeartbeats 1000000 in
theorem rencode_any (F : Nat → Prop) (w : World) (d : Nat) (x : It) (l : Bool) (v1 v2 : Value) (h : ItemAt F w d [.bool l, v1, v2] x) (hw : x.whole ≤ 140737488351232) :
    Calls Try.prog 45 #[.agg #[.bool l, v1, v2]] w (Encd w x.encode) := by
  obtain ⟨hl, a1, n1, c1, a2, n2, c2, rfl, rfl, -, -⟩ := ItemAt.form h
  have hbs := ItemAt.bytes h
  have hn1 : n1 = x.bytes.length := by
    obtain ⟨a, c, hv, -⟩ := SliceAt.len hbs
    simp only [Value.slice.injEq] at hv
    exact hv.2.1
  have hbw := It.body_le_whole x
  have hbe := It.body_eq x
  have hrl := It.rsizes_le x.items
  have hro := It.rsizes_or x.items
  obtain ⟨d', rfl⟩ : ∃ d', d = d' + 1 := by
    cases d with
    | zero => exact h.elim
    | succ d => exact ⟨d, rfl⟩
  have his := ItemAt.items h
  have hn2 : n2 = x.items.length := by
    rcases SliceAt.split his with ⟨h1, h2⟩ | ⟨_, _, _, h2, _⟩
    · rw [h1, h2]; rfl
    · exact h2
  have hlw := It.length_le_wholes x.items
  have hn63 : n2 ≤ 140737488351232 := by omega
  have hn163 : n1 ≤ 140737488351232 := by omega
  have hbig : (16777215 < n1 + It.rsizes x.items ↔ 16777215 < x.body) := by omega
  have hsum : n1 + It.rsizes x.items ≤ 140737488351232 := by omega
  have HBIG := Lib.hid hbig
  have HSUM := Lib.hid hsum
  have HN2 := Lib.hid hn2
  have HIS := Lib.hid his
  have HWW := Lib.hid hw
  have HIT := Lib.hid h
  obtain ⟨m, e0, hr⟩ : ∃ m e0, x.look 0 0 = (m, e0) := ⟨_, _, rfl⟩
  have HR := Lib.hid hr
  have hw0 : 0 + x.whole ≤ 1125899906842624 := by omega
  clear hl hbs hn1 hbw hbe hrl hro hn2 hlw hbig hsum hw his hr h
  go_enter Try.func45, Try.ntmps45
  go_wp2_with fail
  refine (rwalk_any (d' + 1) F _ x _ _ _ 0 0 ?_ (by omega) hw0).mono ?_
  · exact (HIT.out).below (Bel.alloc (Bel.refl w) _)
  rintro e w1 ⟨rfl, hb1⟩
  have hbx : w1.heap[w.heap.size]? = some (.cells #[.bool l, .slice a1 n1 c1, .slice a2 n2 c2] 65 (0, 0)) := boxblock hb1
  obtain ⟨q0, q1, q2⟩ := cells3 hbx
  have HB1 := Lib.hid (And.intro (Bel.call (Bel.alloc (Bel.refl w) _) hb1) hbx)
  rw [HR.out]
  clear hb1 hbx
  by_cases he : e0 = 0
  · subst he
    go_wp2_with fail
    go_loopw [6, 7] (fun s i wr => ∃ k m0 : Nat, k ≤ n2 ∧ i = .int .i64 k ∧ s = .int .i64 m0 ∧ Hid (m0 = n1 + It.rsizes (x.items.take k)) ∧
      Hid (Below w.heap.size w wr ∧ wr.heap[w.heap.size]? = some (.cells #[.bool l, .slice a1 n1 c1, .slice a2 n2 c2] 65 (0, 0)))) (fun _ i _ => n2 - (intOf i).toNat)
    case atStart => exact ⟨0, n1, Nat.zero_le _, rfl, rfl, by show _ = _; simp [It.rsizes], HB1.out⟩
    case round =>
      obtain ⟨k, m0, hk, rfl, rfl, HM, HB⟩ := hrel
      clear q0 q1 q2
      obtain ⟨q0, q1, q2⟩ := cells3 HB.out.2
      have hsr := (Array.getElem?_eq_some_iff.1 HB.out.2).1
      have hN := HN2.out
      have htl : It.rsizes (x.items.take k) ≤ It.rsizes x.items := by
        have := It.rsizes_append (x.items.take k) (x.items.drop k)
        rw [List.take_append_drop] at this; omega
      have hm63 : m0 ≤ 140737488351232 := by have := HM.out; have := HSUM.out; omega
      clear htl
      by_cases hlt : k < n2
      · have hki : k < x.items.length := by omega
        rcases SliceAt.split HIS.out with ⟨h1, h2⟩ | ⟨b, o, rfl, -, -, hFb⟩
        · rw [h1] at hki; simp at hki
        have his' := ItemsAt.below HIS.out HB.out.1
        obtain ⟨y1, z1, t1, y2, z2, t2, g0, g1, g2, hit⟩ := ItemsAt.cell his' k hki
        obtain ⟨y, hy⟩ : ∃ y, y = x.items[k] := ⟨_, rfl⟩
        rw [← hy] at g0 hit
        have h1 := It.rsizes_take_succ x.items k hki
        have h2 := It.wholes_take_succ x.items k hki
        have h3 := It.wholes_take_le x.items (k + 1)
        have h4 := It.rsize_le y
        have h5 := It.body_le_whole x
        have h6 := It.body_eq x
        have hyw : y.whole ≤ 140737488351232 := by have := HWW.out; rw [← hy] at h2; omega
        have hyr : y.rsize ≤ 140737488351232 := by omega
        have HE : Hid (m0 + y.rsize = n1 + It.rsizes (x.items.take (k + 1))) := by show _ = _; rw [h1, HM.out, ← hy]; omega
        clear hy h1 h2 h3 h4 h5 h6 his' hN
        go_wp2_with fail
        refine (rsize_any d' F wr y _ _ _ hit hyw).mono ?_
        rintro e w3 ⟨rfl, hb3⟩
        have hB3 : Below w.heap.size w w3 ∧ w3.heap[w.heap.size]? = some (.cells #[.bool l, .slice a1 n1 c1, .slice (some ⟨b, o, none⟩) n2 c2] 65 (0, 0)) :=
          ⟨Bel.call HB.out.1 hb3, by rw [hb3.block _ hsr]; exact HB.out.2⟩
        have HB3 := Lib.hid hB3
        clear hB3 hb3 hit
        go_wp2_with fail
        go_roundw
        case rel => exact ⟨k + 1, m0 + y.rsize, by omega, num_eq (by omega), num_eq (by omega), HE, HB3.out⟩
        case measure => simp [intOf]; omega
      · obtain rfl : k = n2 := by omega
        have hm := HM.out
        rw [List.take_of_length_le (by omega)] at hm
        have hbig : 16777215 < m0 ↔ 16777215 < x.body := by rw [hm]; exact HBIG.out
        have HBG := Lib.hid hbig
        clear hm hbig hN
        by_cases hb : (16777215 : Int) < (m0 : Int)
        · have he : x.encode = ([], 20) := by unfold It.encode; rw [HR.out, if_neg (by simp), if_pos (HBG.out.1 (by omega))]
          have HEE := Lib.hid he
          clear he
          go_wp2_with fail
          go_ret2
          exact ⟨.slice none 0 0, by rw [HEE.out]; rfl, by rw [HEE.out]; exact OwnAt.nil _ _ _ _ _, HB.out.1⟩
        · have hxb : x.body ≤ 16777215 := by have := HBG.out; omega
          have he : x.encode = (x.enc, 0) := by unfold It.encode; rw [HR.out, if_neg (by simp), if_neg (by omega)]
          have HEE := Lib.hid he
          clear he
          go_wp2_with fail
          refine (rbytes_any (d' + 1) F _ x _ _ _ ?_ hxb).mono ?_
          · exact (HIT.out).below HB.out.1
          rintro e w3 ⟨v3, rfl, ho3, hb3⟩
          have HB3 := Lib.hid (Bel.call HB.out.1 hb3)
          have HO3 := Lib.hid (ho3.lower (HB.out.1).size)
          clear ho3 hb3
          go_wp2_with fail
          go_ret2
          exact ⟨v3, by rw [HEE.out]; rfl, by rw [HEE.out]; exact HO3.out, HB3.out⟩
  · have he' : (((e0 : Nat) : Int) != 0) = true := by simp; omega
    have hee : x.encode = ([], e0) := by unfold It.encode; rw [HR.out]; simp [he]
    have HEE := Lib.hid hee
    clear hee
    go_wp2
    go_ret2
    exact ⟨.slice none 0 0, by rw [HEE.out]; rfl, by rw [HEE.out]; exact OwnAt.nil _ _ _ _ _, HB1.out.1⟩

end Go.Proofs.Ytndkkgkcbbmnpaa
namespace Go.Proofs.Ytndkkgkcbbmnpaa
open Go.RowKit Go.Pg

set_option maxRecDepth 100000 in
set_option maxHeartbeats 1000000 in
theorem rtexts_any (F : Nat → Prop) (w : World) (v : Value) (l : List (List UInt8)) (h : RowsAt F w v l) (hl : l.length ≤ 1099511627776) :
    Calls Try.prog 46 #[v] w fun e w' => ∃ v2, e = .returned (.agg #[.bool true, .slice none 0 0, v2]) ∧ ItemAt (fun b => F b ∨ w.heap.size ≤ b) w' 2 [.bool true, .slice none 0 0, v2] (textsI l) ∧ Below w.heap.size w w' := by
  obtain ⟨a, c, rfl, -, -, -⟩ := SliceAt.len h
  replace h : RowsAt (fun b => F b ∧ b < w.heap.size) w _ l := RowsAt.carry h (fun b hb hF => ⟨hF, hb⟩) (fun _ _ _ => rfl)
  obtain ⟨i0, hi, hz0, hz1, hz2⟩ := info_parts infoItem
  obtain ⟨n, hn⟩ : ∃ n, n = l.length := ⟨_, rfl⟩
  rw [← hn] at h hl ⊢
  have HN := Lib.hid hn
  clear hn
  go_enter Try.func46, Try.ntmps46
  go_wp2
  go_loopw [4] (fun i wr => ∃ (k : Nat) (a1 : Option Addr) (c1 : Nat), k ≤ n ∧ i = .int .i64 k ∧ Hid (OwnList (fun F w cs x => ItemAt F w 1 cs x) (fun b => F b ∧ b < w.heap.size) (w.heap.size + 2) wr 65 3 (.slice a1 k c1) ((l.take k).map .text)) ∧
      Hid (Below w.heap.size w wr ∧ wr.heap[w.heap.size]? = some (.cells #[.bool false, .slice none 0 0, .slice none 0 0] 65 (0, 0)) ∧ wr.heap[w.heap.size + 1]? = some (.cells #[.bool true, .slice none 0 0, .slice a1 k c1] 65 (0, 0)))) (fun i _ => n - (intOf i).toNat)
  case atStart =>
    refine ⟨0, none, 0, Nat.zero_le _, rfl, OwnList.nil, Bel.alloc (Bel.alloc (Bel.refl w) _) _, ?_, ?_⟩
    · exact (Below.heap_alloc _ _ _ (by simp)).trans (heap_alloc_new w _)
    · have := heap_alloc_new (w.alloc (.cells #[.bool false, .slice none 0 0, .slice none 0 0] 65)) (.cells #[.bool true, .slice none 0 0, .slice none 0 0] 65)
      simpa using this
  case round =>
    obtain ⟨k, a1, c1, hk, rfl, HO, HB⟩ := hrel
    have hN := HN.out
    obtain ⟨q0, q1, q2⟩ := cells3 HB.out.2.2
    have fq := frozen_of_row wr (w.heap.size + 1) 2 _ _ HB.out.2.2
    by_cases hlt : k < n
    · rcases SliceAt.split h with ⟨_, h0⟩ | ⟨b, o, rfl, -, -, -⟩
      · omega
      have hwr := RowsAt.below h HB.out.1
      obtain ⟨u, g1, t1⟩ := RowsAt.cell hwr k (by omega)
      obtain ⟨au, cu, rfl, -, -, -⟩ := SliceAt.len t1
      have htk : (l.take (k + 1)).map It.text = (l.take k).map It.text ++ [It.text (l[k]'(by omega))] := by
        rw [List.take_succ_eq_append_getElem (show k < l.length by omega), List.map_append]; rfl
      obtain ⟨x, hx⟩ : ∃ x, x = l[k]'(by omega) := ⟨_, rfl⟩
      rw [← hx] at t1 g1 htk
      have HT := Lib.hid htk
      obtain ⟨L, hL⟩ : ∃ L, L = (l.take k).map It.text := ⟨_, rfl⟩
      rw [← hL] at HO HT
      have hLl : L.length = k := by rw [hL]; simp; omega
      have HLL := Lib.hid hLl
      have hit : ItemAt (fun b => F b ∧ b < w.heap.size) wr 1 [.bool false, .slice au x.length cu, .slice none 0 0] (.text x) :=
        ⟨_, _, rfl, t1, SliceAt.nil _ _ _ _⟩
      have hsw := (Array.getElem?_eq_some_iff.1 HB.out.2.2).1
      have howr := (HO.out).own
      obtain ⟨R, hR1, hRo, hRs, hRn⟩ := (HO.out).push (carriedItem 1) hit rfl (by decide) (fun b' _ hb' => ⟨hb', fun e => by have := (howr b' e).1; omega⟩) 65
      have hle : (L.length + [It.text x].length) * 56 ≤ 140737488355328 := by rw [hLl]; simp; omega
      have hlen : L.length + [It.text x].length = k + 1 := by rw [hLl]; rfl
      have hbase : w.heap.size + 2 ≤ (wr.alloc (.cells [.bool false, .slice au x.length cu, .slice none 0 0].toArray 65)).drew.heap.size := by simp; omega
      have hX : ∀ w2 : World, (wr.alloc (.cells [.bool false, .slice au x.length cu, .slice none 0 0].toArray 65)).drew.grownBy w2 (Value.slice a1 k c1).ownBlock →
          Below w.heap.size w w2 ∧ w2.heap[w.heap.size]? = some (.cells #[.bool false, .slice none 0 0, .slice none 0 0] 65 (0, 0)) ∧ w2.heap[w.heap.size + 1]? = some (.cells #[.bool true, .slice none 0 0, .slice a1 k c1] 65 (0, 0)) := by
        intro w2 hg
        have hsz2 := hg.size
        simp only [World.size_drew, World.size_alloc] at hsz2
        refine ⟨((Bel.alloc HB.out.1 _).drew).grown hg (by simp; omega) (fun k hk => by have := (howr k hk).1; omega), ?_, ?_⟩
        · rw [hg.block _ (by simp; omega) (fun e => by have := (howr _ e.symm).1; omega)]
          exact (Below.heap_alloc wr _ _ (by omega)).trans HB.out.2.1
        · rw [hg.block _ (by simp; omega) (fun e => by have := (howr _ e.symm).1; omega)]
          exact (Below.heap_alloc wr _ _ (by omega)).trans HB.out.2.2
      have HX := Lib.hid hX
      have hRn' : ∀ v' W2, OwnAt W2 (w.heap.size + 2) 65 3 R v' (L ++ [It.text x]) → (wr.alloc (.cells [.bool false, .slice au x.length cu, .slice none 0 0].toArray 65)).drew.grownBy W2 (Value.slice a1 k c1).ownBlock → Moved (wr.alloc (.cells [.bool false, .slice au x.length cu, .slice none 0 0].toArray 65)).drew (.slice a1 k c1) v' → OwnList (fun F w cs x => ItemAt F w 1 cs x) (fun b => F b ∧ b < w.heap.size) (w.heap.size + 2) W2 65 3 v' (L ++ [It.text x]) :=
        fun v' W2 ho hg hm => hRn v' W2 ho ⟨hg.os, hg.tape, hg.output, hg.size, hg.block⟩ hm
      have HRN := Lib.hid hRn'
      have HRO := Lib.hid hRo.drew'
      have HRS := Lib.hid (hRs.drew' (by decide))
      have HR1 := Lib.hid hR1
      have HLE := Lib.hid hlen
      clear hwr hx htk hL hLl hN hX hRn hRn' hRo hRs hR1 howr t1 hit hlen
      go_wp2
      go_region_law (refine step_append_at rfl (.tmp 13) (.tmp 19) 63 rfl (w.heap.size + 2) 65 i0 (.agg #[.bool false, .slice none 0 0, .slice none 0 0]) 3 56 underlyingItems hi hz0 hz1 hz2 rfl (by decide) (by decide) HR1.out (.slice a1 k c1) L (by simp [Act.eval]) HRO.out (.slice (some ⟨wr.heap.size, 0, none⟩) 1 1) [It.text x] (fun _ => True) (by simp [Act.eval]) HRS.out Nat.one_pos hle hbase (k + 1) HLE.out ?_; intro g cap w2 ho hg hm; have hx2 := (HX.out _ hg).2.2; obtain ⟨r0, r1, r2⟩ := cells3 hx2; have fr := frozen_of_row w2 (w.heap.size + 1) 2 _ _ hx2)
      all_goals
        have hOn := HRN.out _ _ ho hg hm
        have hXX := HX.out _ hg
        have hown := hOn.own
        have hOs : Hid (OwnList (fun F w cs x => ItemAt F w 1 cs x) (fun b => F b ∧ b < w.heap.size) (w.heap.size + 2) (w2.setCell ⟨w.heap.size + 1, 2, none⟩ (.slice (some ⟨g, 0, none⟩) (k + 1) cap)) 65 3 (.slice (some ⟨g, 0, none⟩) (k + 1) cap) ((l.take (k + 1)).map .text)) := by
          rw [HT.out]
          exact hOn.carry (carriedItem 1) (by simp) (fun b' hb' _ => Below.heap_setCell _ _ _ _ (by have := hb'.2; show b' ≠ w.heap.size + 1; omega)) (fun g' hg' => Below.heap_setCell _ _ _ _ (by have := (hown g' hg').1; show g' ≠ w.heap.size + 1; omega))
        have hBs : Hid (Below w.heap.size w (w2.setCell ⟨w.heap.size + 1, 2, none⟩ (.slice (some ⟨g, 0, none⟩) (k + 1) cap)) ∧ (w2.setCell ⟨w.heap.size + 1, 2, none⟩ (.slice (some ⟨g, 0, none⟩) (k + 1) cap)).heap[w.heap.size]? = some (.cells #[.bool false, .slice none 0 0, .slice none 0 0] 65 (0, 0)) ∧
            (w2.setCell ⟨w.heap.size + 1, 2, none⟩ (.slice (some ⟨g, 0, none⟩) (k + 1) cap)).heap[w.heap.size + 1]? = some (.cells #[.bool true, .slice none 0 0, .slice (some ⟨g, 0, none⟩) (k + 1) cap] 65 (0, 0))) :=
          ⟨hXX.1.setCell (by show w.heap.size ≤ w.heap.size + 1; omega) _, by rw [Below.heap_setCell _ _ _ _ (by show w.heap.size ≠ w.heap.size + 1; omega)]; exact hXX.2.1, blk_setCell hXX.2.2⟩
        clear hOn hXX hown ho hg hm hx2 r0 r1 r2 fr
        go_wp2
        go_roundw
        case rel => exact ⟨k + 1, _, _, by omega, num_eq (by omega), hOs, hBs⟩
        case measure => simp [intOf]; omega
    · obtain rfl : k = n := by omega
      have hO := HO.out
      rw [List.take_of_length_le (by omega)] at hO
      have hits := hO.at (carriedItem 1) (G' := fun b => F b ∧ b < w.heap.size ∨ w.heap.size + 2 ≤ b) (fun _ h _ => .inl h) (fun b h _ => .inr h) (by decide)
      have HIT := Lib.hid hits
      have hkk := HB.out.2.1
      obtain ⟨p0, p1, p2⟩ := cells3 hkk
      have f0 := frozen_of_row wr w.heap.size 0 _ _ hkk
      have f1 := frozen_of_row wr w.heap.size 1 _ _ hkk
      have f2 := frozen_of_row wr w.heap.size 2 _ _ hkk
      have HK := Lib.hid hkk
      clear hO hits hN hkk
      go_wp2
      obtain ⟨W, hW⟩ : ∃ W, W = ((wr.setCell ⟨w.heap.size, 0, none⟩ (.bool true)).setCell ⟨w.heap.size, 1, none⟩ (.slice none 0 0)).setCell ⟨w.heap.size, 2, none⟩ (.slice a1 k c1) := ⟨_, rfl⟩
      have hWk : W.heap[w.heap.size]? = some (.cells #[.bool true, .slice none 0 0, .slice a1 k c1] 65 (0, 0)) := by
        rw [hW]; exact blk_setCell (blk_setCell (blk_setCell HK.out))
      rw [← hW]
      obtain ⟨r0, r1, r2⟩ := cells3 hWk
      refine bodyPost_ret (v := .agg #[.bool true, .slice none 0 0, .slice a1 k c1]) (by simp [results, Try.results46, go_sem, r0, r1, r2]) rfl ?_
      have hbel : Below w.heap.size w W := by
        rw [hW]
        exact ((HB.out.1.setCell (Nat.le_refl _) _).setCell (Nat.le_refl _) _).setCell (Nat.le_refl _) _
      refine ⟨_, rfl, ⟨_, _, rfl, SliceAt.nil _ _ _ _, ?_⟩, hbel⟩
      refine ItemsAt.carry HIT.out (fun b _ hb => by rcases hb with hb | hb; exact .inl hb.1; exact .inr (by omega)) (fun b hb hlt' => ?_)
      have hne : b ≠ w.heap.size := by rcases hb with hb | hb <;> omega
      rw [hW, Below.heap_setCell _ _ _ _ hne, Below.heap_setCell _ _ _ _ hne, Below.heap_setCell _ _ _ _ hne]

end Go.Proofs.Ytndkkgkcbbmnpaa
namespace Go.Pg
theorem compareBytes_drop (bs ds : List UInt8) (k : Nat) (h1 : k < bs.length) (h2 : k < ds.length) :
    Lib.compareBytes (bs.drop k) (ds.drop k) = if bs[k] < ds[k] then -1 else if ds[k] < bs[k] then 1 else Lib.compareBytes (bs.drop (k + 1)) (ds.drop (k + 1)) := by
  rw [List.drop_eq_getElem_cons h1, List.drop_eq_getElem_cons h2]; rfl
theorem compareBytes_end (bs ds : List UInt8) (k : Nat) (h1 : k ≤ bs.length) (h2 : k ≤ ds.length) (h : bs.length ≤ k ∨ ds.length ≤ k) :
    decide (Lib.compareBytes (bs.drop k) (ds.drop k) < 0) = decide (bs.length < ds.length) := by
  rcases Nat.lt_or_ge bs.length ds.length with hl | hl
  · have e1 : bs.drop k = [] := List.drop_eq_nil_of_le (by omega)
    have e2 : ∃ x r, ds.drop k = x :: r := by
      cases hd : ds.drop k with
      | nil => have := congrArg List.length hd; simp at this; omega
      | cons x r => exact ⟨x, r, rfl⟩
    obtain ⟨x, r, e2⟩ := e2
    rw [e1, e2]; simp [Lib.compareBytes, hl]
  · have e1 : ds.drop k = [] := List.drop_eq_nil_of_le (by omega)
    rw [e1]
    cases bs.drop k with
    | nil => simp [Lib.compareBytes]; omega
    | cons x r => simp [Lib.compareBytes]; omega
end Go.Pg
namespace Go.Proofs.Ytndkkgkcbbmnpaa
open Go.RowKit Go.Pg

set_option maxRecDepth 100000 in
set_option maxHeartbeats 1000000 in
theorem ahead_any (F G : Nat → Prop) (w : World) (u v : Value) (bs ds : List UInt8) (h : BytesAt F w u bs) (k : BytesAt G w v ds) (hbl : bs.length ≤ 1152921504606846976) :
    Calls Try.prog 73 #[u, v] w fun e w' => e = .returned (.bool (decide (Lib.compareBytes bs ds < 0))) ∧ ∃ m, w' = w.drewN m := by
  obtain ⟨a, c, rfl, -, -, -⟩ := SliceAt.len h
  obtain ⟨a', c', rfl, -, -, -⟩ := SliceAt.len k
  obtain ⟨n, hn⟩ : ∃ n, n = bs.length := ⟨_, rfl⟩
  obtain ⟨n', hn'⟩ : ∃ n', n' = ds.length := ⟨_, rfl⟩
  rw [← hn] at h hbl ⊢
  rw [← hn'] at k ⊢
  have HN := Lib.hid hn
  have HN' := Lib.hid hn'
  clear hn hn'
  go_enter Try.func73, Try.ntmps73
  go_wp2
  go_loopw [5] (fun i wr => ∃ j : Nat, j ≤ n ∧ j ≤ n' ∧ i = .int .i64 j ∧ Hid (Lib.compareBytes bs ds = Lib.compareBytes (bs.drop j) (ds.drop j)) ∧ Hid (∃ m, wr = w.drewN m)) (fun i _ => n - (intOf i).toNat)
  case atStart => exact ⟨0, Nat.zero_le _, Nat.zero_le _, rfl, rfl, 0, rfl⟩
  case round =>
    obtain ⟨j, hj, hj', rfl, HC, HM⟩ := hrel
    obtain ⟨m, rfl⟩ := HM.out
    have hN := HN.out
    have hN' := HN'.out
    by_cases hlt : j < n
    · by_cases hlt' : j < n'
      · rcases SliceAt.split h with ⟨_, h0⟩ | ⟨b, o, rfl, -, -, -⟩
        · omega
        rcases SliceAt.split k with ⟨_, h0⟩ | ⟨b', o', rfl, -, -, -⟩
        · omega
        have c1 := BytesAt.cell h j (by omega)
        have c2 := BytesAt.cell k j (by omega)
        have hd := compareBytes_drop bs ds j (by omega) (by omega)
        obtain ⟨x, hx⟩ : ∃ x, x = bs[j]'(by omega) := ⟨_, rfl⟩
        obtain ⟨y, hy⟩ : ∃ y, y = ds[j]'(by omega) := ⟨_, rfl⟩
        rw [← hx, ← hy] at hd
        rw [← hx] at c1
        rw [← hy] at c2
        have HD := Lib.hid (HC.out.trans hd)
        clear hd hx hy hN hN' HM HC
        have z4 : (j : Int) < (n : Int) := by omega
        have z5 : (j : Int) < (n' : Int) := by omega
        by_cases hxy : x = y
        · subst hxy
          have hne : ((x.toNat : Int) != (x.toNat : Int)) = false := by simp
          go_wp2
          go_quiet (fail)
          go_wp2
          go_roundw
          case rel => exact ⟨j + 1, by omega, by omega, num_eq (by omega), (by show _ = _; rw [HD.out]; simp), m + nq, rfl⟩
          case measure => simp [intOf]; omega
        · have hne' : x.toNat ≠ y.toNat := fun e => hxy (UInt8.toNat_inj.1 e)
          have hne : ((x.toNat : Int) != (y.toNat : Int)) = true := by simp; omega
          clear hne'
          go_wp2
          go_quiet (fail)
          go_wp2
          go_quiet (fail)
          go_wp2
          go_ret
          refine ⟨ret_bool ?_, _, by rw [World.drewN_drewN, World.drewN_drewN]⟩
          rw [HD.out]
          have e : ((x.toNat : Int) < (y.toNat : Int)) ↔ x < y := by rw [UInt8.lt_iff_toNat_lt]; omega
          by_cases hl : x < y
          · have e2 := e.2 hl
            simp [hl]; simpa using e2
          · have : y < x := by rw [UInt8.lt_iff_toNat_lt] at hl ⊢; have : x.toNat ≠ y.toNat := fun e => hxy (UInt8.toNat_inj.1 e); omega
            have e2 : ¬ (x.toNat : Int) < (y.toNat : Int) := fun h => hl (e.1 h)
            simp [hl, this]; simpa using e2
      · go_wp2
        go_ret
        exact ⟨ret_bool (by rw [HC.out, compareBytes_end bs ds j (by omega) (by omega) (.inr (by omega)), ← HN.out, ← HN'.out]; first | done | simp), m, rfl⟩
    · go_wp2
      go_ret
      exact ⟨ret_bool (by rw [HC.out, compareBytes_end bs ds j (by omega) (by omega) (.inl (by omega)), ← HN.out, ← HN'.out]; first | done | simp), m, rfl⟩

set_option maxRecDepth 100000 in
set_option maxHeartbeats 1000000 in
theorem rrises_any (F : Nat → Prop) (w : World) (v : Value) (l : List (List UInt8)) (h : RowsAt F w v l) (hl : l.length ≤ 1152921504606846976) (hlen : ∀ x ∈ l, x.length ≤ 1152921504606846976) :
    Calls Try.prog 44 #[v] w fun e w' => e = .returned (.bool (rising l)) ∧ ∃ m, w' = w.drewN m := by
  obtain ⟨a, c, rfl, -, -, -⟩ := SliceAt.len h
  obtain ⟨n, hn⟩ : ∃ n, n = l.length := ⟨_, rfl⟩
  rw [← hn] at h hl ⊢
  have HN := Lib.hid hn
  have HLEN := Lib.hid hlen
  clear hn hlen
  go_enter Try.func44, Try.ntmps44
  go_wp2
  go_loopw [3] (fun i wr => ∃ k : Nat, 1 ≤ k ∧ k ≤ n + 1 ∧ i = .int .i64 k ∧ Hid (rising l = rising (l.drop (k - 1))) ∧ Hid (∃ m, wr = w.drewN m)) (fun i _ => n + 1 - (intOf i).toNat)
  case atStart => exact ⟨1, Nat.le_refl _, by omega, rfl, rfl, 0, rfl⟩
  case round =>
    obtain ⟨k, h1, hk, rfl, HR, HM⟩ := hrel
    have hwr : RowsAt F wr (.slice a n c) l := by
      obtain ⟨m, hm⟩ := HM.out
      rw [hm]; exact RowsAt.carry h (fun _ _ x => x) (fun _ _ _ => rfl)
    have hN := HN.out
    by_cases hlt : k < n
    · rcases SliceAt.split hwr with ⟨_, h0⟩ | ⟨b, o, rfl, -, -, -⟩
      · omega
      obtain ⟨u1, c1, t1⟩ := RowsAt.cell hwr (k - 1) (by omega)
      obtain ⟨u2, c2, t2⟩ := RowsAt.cell hwr k (by omega)
      have hx1l := HLEN.out _ (List.getElem_mem (show k - 1 < l.length by omega))
      obtain ⟨x1, hx1⟩ : ∃ x, x = l[k - 1]'(by omega) := ⟨_, rfl⟩
      obtain ⟨x2, hx2⟩ : ∃ x, x = l[k]'(by omega) := ⟨_, rfl⟩
      have hst := rising_step l k h1 (by omega)
      rw [← hx1, ← hx2] at hst
      rw [← hx1] at t1 hx1l
      rw [← hx2] at t2
      have HS := Lib.hid (HR.out.trans hst)
      clear hst hx1 hx2 hN HR hwr
      have hadd : ((k : Int) - 1).toNat = k - 1 := by omega
      have hwr1 : IntKind.i64.wrap ((k : Int) - 1) = (k : Int) - 1 := IntWalk.i64_in _ (by omega)
      have z1 : (1 : Int) ≤ (k : Int) := by omega
      have z2 : (0 : Int) ≤ (k : Int) - 1 := by omega
      have z3 : (k : Int) - 1 < (n : Int) := by omega
      have z4 : (k : Int) < (n : Int) := by omega
      go_wp2
      go_quiet (((go_at_call 73; exact Calls.quiet_of (ahead_any F F _ u1 u2 x1 x2 (t1.draws _) (t2.draws _) hx1l))))
      clear t1 t2 c1 c2 hx1l
      by_cases hneg : Lib.compareBytes x1 x2 < 0
      · have hdn : decide (Lib.compareBytes x1 x2 < 0) = true := by simpa using hneg
        have HDN := Lib.hid hdn
        rw [hdn]
        clear hdn hneg
        go_wp2
        go_roundw
        case rel => exact ⟨k + 1, by omega, by omega, num_eq (by omega), (by show _ = _; rw [HS.out, HDN.out]; rfl), (by obtain ⟨m, hm⟩ := HM.out; rw [hm]; exact ⟨_, World.drewN_drewN _ _ _⟩)⟩
        case measure => simp [intOf]; omega
      · have hdn : decide (Lib.compareBytes x1 x2 < 0) = false := by simpa using hneg
        have HDN := Lib.hid hdn
        rw [hdn]
        clear hdn hneg
        go_wp2
        go_ret
        exact ⟨ret_bool (by rw [HS.out, HDN.out]; rfl), (by obtain ⟨m, hm⟩ := HM.out; rw [hm]; exact ⟨_, World.drewN_drewN _ _ _⟩)⟩
    · go_wp2
      go_ret
      exact ⟨ret_bool (by rw [HR.out, rising_end l k (by omega)]), HM.out⟩

end Go.Proofs.Ytndkkgkcbbmnpaa
namespace Go.Proofs.Ytndkkgkcbbmnpaa
open Go.RowKit Go.Pg

theorem pairR {F : Nat → Prop} {w2 w3 w4 : World} {N C : List (List UInt8)} {v1 u1 v2 u2 : Value} (h4 : Below w3.heap.size w3 w4)
    (hit3 : ItemAt F w3 2 [.bool true, v1, v2] (textsI N)) (hit4 : ItemAt F w4 2 [.bool true, u1, u2] (textsI C)) (hs : w2.heap.size ≤ w4.heap.size) (t : TypeId) :
    ItemAt (fun b => F b ∨ w2.heap.size ≤ b) (w4.alloc (.cells #[.bool true, v1, v2, .bool true, u1, u2] t)) 3 [.bool true, .slice none 0 0, .slice (some ⟨w4.heap.size, 0, none⟩) 2 2] (witI N C) := by
  have h1 : ItemAt F w4 2 [.bool true, v1, v2] (textsI N) := hit3.below h4
  exact ⟨_, _, rfl, SliceAt.nil _ _ _ _, rows_alloc (l := [textsI N, textsI C]) (carriedItem 2) ((Rows.one h1 rfl).append (Rows.one hit4 rfl)) (show 2 ≤ maxLen by decide) (fun _ _ x => .inl x) (.inr hs) t⟩

set_option maxRecDepth 100000 in
set_option maxHeartbeats 2000000 in
theorem rwencode_any (F : Nat → Prop) (w : World) (a1 a2 : Option Addr) (n1 c1 n2 c2 : Nat) (N C : List (List UInt8)) (hN : RowsAt F w (.slice a1 n1 c1) N) (hC : RowsAt F w (.slice a2 n2 c2) C)
    (hNl : N.length ≤ 1099511627776) (hCl : C.length ≤ 1099511627776) (hNx : ∀ x ∈ N, x.length ≤ 140737488351232) (hCx : ∀ x ∈ C, x.length ≤ 140737488351232) (hw : (witI N C).whole ≤ 140737488351232) :
    Calls Try.prog 14 #[.agg #[.slice a1 n1 c1, .slice a2 n2 c2]] w (Encd w (witEncode N C)) := by
  have HW := Lib.hid hw
  have HNX := Lib.hid (fun x hx => Nat.le_trans (hNx x hx) (show 140737488351232 ≤ 1152921504606846976 by omega))
  have HCX := Lib.hid (fun x hx => Nat.le_trans (hCx x hx) (show 140737488351232 ≤ 1152921504606846976 by omega))
  replace hN : RowsAt (fun b => F b ∧ b < w.heap.size) w _ N := RowsAt.carry hN (fun b hb hF => ⟨hF, hb⟩) (fun _ _ _ => rfl)
  replace hC : RowsAt (fun b => F b ∧ b < w.heap.size) w _ C := RowsAt.carry hC (fun b hb hF => ⟨hF, hb⟩) (fun _ _ _ => rfl)
  obtain ⟨W0, hW0⟩ : ∃ W0, W0 = w.alloc (.cells #[.slice a1 n1 c1, .slice a2 n2 c2] 24) := ⟨_, rfl⟩
  have hb0 : Below w.heap.size w W0 := by rw [hW0]; exact Bel.alloc (Bel.refl w) _
  have hk0 : W0.heap[w.heap.size]? = some (.cells #[.slice a1 n1 c1, .slice a2 n2 c2] 24 (0, 0)) := by rw [hW0]; exact heap_alloc_new w _
  have HW0 := Lib.hid hW0
  clear hw hNx hCx hW0
  obtain ⟨r1, hr1⟩ : ∃ r, r = rising N := ⟨_, rfl⟩
  obtain ⟨r2, hr2⟩ : ∃ r, r = rising C := ⟨_, rfl⟩
  have HR1 := Lib.hid hr1
  have HR2 := Lib.hid hr2
  clear hr1 hr2
  have hN0 := RowsAt.below hN hb0
  have hC0 := RowsAt.below hC hb0
  obtain ⟨p0, p1⟩ := cells2 hk0
  have hsz0 := (Array.getElem?_eq_some_iff.1 hk0).1
  have HK0 := Lib.hid hk0
  have HB0 := Lib.hid hb0
  clear hk0 hb0
  go_enter Try.func14, Try.ntmps14
  go_wp2_with fail
  rw [← HW0.out]
  refine (rrises_any (fun b => F b ∧ b < w.heap.size) W0 _ N hN0 (by omega) HNX.out).mono ?_
  rintro e w1 ⟨rfl, m1, rfl⟩
  rw [← HR1.out]
  have hC1 : RowsAt (fun b => F b ∧ b < w.heap.size) (W0.drewN m1) _ C := RowsAt.carry hC0 (fun _ _ x => x) (fun _ _ _ => rfl)
  go_wp2_with fail
  refine (rrises_any (fun b => F b ∧ b < w.heap.size) (W0.drewN m1) _ C hC1 (by omega) HCX.out).mono ?_
  rintro e w2' ⟨rfl, m2, rfl⟩
  rw [← HR2.out]
  clear hC1
  obtain ⟨w2, hw2⟩ : ∃ w2, w2 = (W0.drewN m1).drewN m2 := ⟨_, rfl⟩
  have HB2 : Hid (Below w.heap.size w w2) := by rw [hw2]; exact ⟨(HB0.out).os, (HB0.out).tape, (HB0.out).output, (HB0.out).size, (HB0.out).block⟩
  have hh2 : w2.heap = W0.heap := by rw [hw2]; rfl
  have q0 : w2.cell? ⟨w.heap.size, 0, none⟩ = some (.slice a1 n1 c1) := by rw [hw2]; exact p0
  have q1 : w2.cell? ⟨w.heap.size, 1, none⟩ = some (.slice a2 n2 c2) := by rw [hw2]; exact p1
  have hN2 : ∀ W : World, W.heap = w2.heap → RowsAt (fun b => F b ∧ b < w.heap.size) W (.slice a1 n1 c1) N := fun W hW => RowsAt.carry hN0 (fun _ _ x => x) (fun b _ _ => by rw [hW, hh2])
  have hC2 : ∀ W : World, W.heap = w2.heap → RowsAt (fun b => F b ∧ b < w.heap.size) W (.slice a2 n2 c2) C := fun W hW => RowsAt.carry hC0 (fun _ _ x => x) (fun b _ _ => by rw [hW, hh2])
  have hkeep : ∀ W, Below w2.heap.size w2 W → W.cell? ⟨w.heap.size, 0, none⟩ = some (.slice a1 n1 c1) ∧ W.cell? ⟨w.heap.size, 1, none⟩ = some (.slice a2 n2 c2) := fun W hW => ⟨cell_below hW q0, cell_below hW q1⟩
  have HN2 := Lib.hid hN2
  have HC2 := Lib.hid hC2
  have HK2 := Lib.hid hkeep
  clear hN2 hC2 hkeep hh2 p0 p1
  go_wp2_with fail
  rw [World.drewN_drewN] at hw2
  rw [← hw2]
  clear hw2
  go_region_held3 (fun w' => w'.cell? ⟨w.heap.size, 0, none⟩ = some (.slice a1 n1 c1) ∧ w'.cell? ⟨w.heap.size, 1, none⟩ = some (.slice a2 n2 c2)) (first | go_keep | exact HK2.out _ (by assumption) | exact HK2.out _ (Bel.alloc (by assumption) _))
    (first
      | (go_at_call_of 46 (Value.slice a1 n1 c1); refine (rtexts_any (fun b => F b ∧ b < w.heap.size) _ _ N ?_ hNl).mono ?_; (exact HN2.out _ rfl); rintro e w3 ⟨v3, rfl, hit3, hb3⟩; have hB3 : Below w2.heap.size w2 w3 := Bel.call (Bel.drew (Bel.refl w2)) hb3; obtain ⟨-, x1, y1, z1, x2, y2, z2, -, rfl, -, -⟩ := ItemAt.form hit3)
      | (go_at_call_of 46 (Value.slice a2 n2 c2); refine (rtexts_any (fun b => F b ∧ b < w.heap.size) _ _ C ?_ hCl).mono ?_; (exact RowsAt.below (HC2.out w2.drew rfl) hb3); rintro e w4 ⟨v4, rfl, hit4, hb4⟩; have hB4 : Below w2.heap.size w2 w4 := Bel.call hB3 hb4; obtain ⟨-, x1', y1', z1', x2', y2', z2', -, rfl, -, -⟩ := ItemAt.form hit4)
      | (go_at_call 45; refine (rencode_any _ _ 3 (witI N C) _ _ _ (pairR (F := fun b => (F b ∧ b < w.heap.size) ∨ w2.heap.size ≤ b) (w2 := w2) hb4 (hit3.carry (fun b _ hb => hb) (fun _ _ _ => rfl)) (hit4.carry (fun b _ hb => hb.imp id (fun h => Nat.le_trans hB3.size h)) (fun _ _ _ => rfl)) hB4.size _) HW.out).mono ?_; rintro e w6 ⟨v6, rfl, ho6, hb6⟩; have hB6 : Below w2.heap.size w2 w6 := Bel.call (Bel.alloc hB4 _) hb6))
  have HB6 := Lib.hid (Below.trans HB2.out (hB6.mono (HB2.out).size))
  obtain ⟨E, hE⟩ : ∃ E, E = (witI N C).encode := ⟨_, rfl⟩
  rw [← hE] at ho6 ⊢
  have HE := Lib.hid hE
  have hbase := (HB2.out).size
  have hbase4 := hB4.size
  have ho7 := ho6.lower (base' := w.heap.size) (by simp; omega)
  have HO7 := Lib.hid ho7
  clear hE hB3 hB4 hB6 hb3 hb4 hb6 hit3 hit4 ho6 ho7 q0 q1
  have hfin : witEncode N C = if r1 && r2 then (if E.2 = 0 then (E.1, 0) else ([], 210)) else ([], 210) := by
    unfold witEncode; rw [← HR1.out, ← HR2.out, ← HE.out]
  have HF := Lib.hid hfin
  clear hfin
  by_cases he : E.2 = 0
  · have he2 : (((E.2 : Nat) : Int) != 0) = false := by simp; omega
    cases r1
    · go_wp2
      go_ret2
      exact ⟨.slice none 0 0, by rw [HF.out]; rfl, by rw [HF.out]; exact OwnAt.nil _ _ _ _ _, HB6.out⟩
    · cases r2
      · go_wp2
        go_ret2
        exact ⟨.slice none 0 0, by rw [HF.out]; rfl, by rw [HF.out]; exact OwnAt.nil _ _ _ _ _, HB6.out⟩
      · have HF3 : Hid (witEncode N C = (E.1, 0)) := by show _ = _; rw [HF.out]; simp [he]
        go_wp2
        go_ret2
        exact ⟨v6, by rw [HF3.out]; rfl, by rw [HF3.out]; exact HO7.out, HB6.out⟩
  · have he2 : (((E.2 : Nat) : Int) != 0) = true := by simp; omega
    have hfin2 : witEncode N C = ([], 210) := by rw [HF.out]; rw [if_neg he]; split <;> rfl
    have HF2 := Lib.hid hfin2
    clear hfin2
    cases r1
    all_goals
      cases r2
      all_goals
        go_wp2
        go_ret2
        exact ⟨.slice none 0 0, by rw [HF2.out]; rfl, by rw [HF2.out]; exact OwnAt.nil _ _ _ _ _, HB6.out⟩

end Go.Proofs.Ytndkkgkcbbmnpaa
namespace Go.Pg
theorem sz_small (n : Nat) (h : n ≤ 16777215) : sz n ≤ n + 4 := by
  have := number_le 3 n (by omega)
  unfold sz; split <;> omega
end Go.Pg
namespace Go.Proofs.Ytndkkgkcbbmnpaa
open Go.ChangeShapes Go.WideShapes Go.ChangeAt Go.RowKit Go.Pg
theorem whole_text (x : List UInt8) (h : x.length ≤ 1048576) : (It.text x).whole ≤ x.length + 4 := by
  have := sz_small x.length (by omega)
  simp only [It.whole]; split <;> omega
theorem wholes_texts (l : List (List UInt8)) (h : rowsSum l ≤ 1048576) : It.wholes (l.map .text) ≤ 4 * rowsSum l := by
  induction l with
  | nil => simp [It.wholes]
  | cons x r ih =>
    have h0 : rowsSum (x :: r) = x.length + 1 + rowsSum r := by simp [rowsSum]
    have h1 := whole_text x (by omega)
    have h2 := ih (by omega)
    simp only [List.map_cons, It.wholes]; omega
theorem whole_textsI (l : List (List UInt8)) (h : rowsSum l ≤ 1048576) : (textsI l).whole ≤ 4 * rowsSum l + 4 := by
  have h1 := wholes_texts l h
  have h2 := sz_small (It.wholes (l.map .text)) (by omega)
  unfold textsI; simp only [It.whole]; omega
theorem whole_witI (N C : List (List UInt8)) (h : rowsSum N + rowsSum C ≤ 1048576) : (witI N C).whole ≤ 16777215 := by
  have h1 := whole_textsI N (by omega)
  have h2 := whole_textsI C (by omega)
  have h3 : It.wholes [textsI N, textsI C] = (textsI N).whole + (textsI C).whole := by simp [It.wholes]
  have h4 := sz_small (It.wholes [textsI N, textsI C]) (by omega)
  unfold witI; simp only [It.whole]; omega

set_option maxRecDepth 100000 in
set_option maxHeartbeats 1000000 in
theorem encodes_walk (F : Nat → Prop) (w : World) (a1 a2 : Option Addr) (n1 c1 n2 c2 : Nat) (N C : List (List UInt8)) (hN : RowsAt F w (.slice a1 n1 c1) N) (hC : RowsAt F w (.slice a2 n2 c2) C) (hs : rowsSum N + rowsSum C ≤ 1048576) :
    Calls Try.prog 3 #[.agg #[.slice a1 n1 c1, .slice a2 n2 c2]] w fun e w' => e = .returned (.bool true) ∧ Below w.heap.size w w' := by
  have hNl := rowsSum_len N
  have hCl := rowsSum_len C
  have hNx := rowsSum_mem N
  have hCx := rowsSum_mem C
  have hw := whole_witI N C hs
  obtain ⟨E, hE⟩ : ∃ E, E = witEncode N C := ⟨_, rfl⟩
  obtain ⟨W0, hW0⟩ : ∃ W0, W0 = w.alloc (.cells #[.slice a1 n1 c1, .slice a2 n2 c2] 24) := ⟨_, rfl⟩
  have hb0 : Below w.heap.size w W0 := by rw [hW0]; exact Bel.alloc (Bel.refl w) _
  have hk0 : W0.heap[w.heap.size]? = some (.cells #[.slice a1 n1 c1, .slice a2 n2 c2] 24 (0, 0)) := by rw [hW0]; exact heap_alloc_new w _
  have hN0 := RowsAt.below hN hb0
  have hC0 := RowsAt.below hC hb0
  have hcall := wencode_any F W0 a1 a2 n1 c1 n2 c2 N C hN0 hC0 (by omega) (by omega) (fun x hx => by have := hNx x hx; omega) (fun x hx => by have := hCx x hx; omega) (by omega)
  have hcall2 : ∀ w1, Below W0.heap.size W0 w1 → _ := fun w1 hb => rwencode_any F w1 a1 a2 n1 c1 n2 c2 N C (RowsAt.below hN0 hb) (RowsAt.below hC0 hb) (by omega) (by omega) (fun x hx => by have := hNx x hx; omega) (fun x hx => by have := hCx x hx; omega) (by omega)
  rw [← hE] at hcall hcall2
  have hsw := (Array.getElem?_eq_some_iff.1 hk0).1
  have HW0 := Lib.hid hW0
  have HC1 := Lib.hid hcall
  have HC2 := Lib.hid hcall2
  have HB0 := Lib.hid hb0
  have HK0 := Lib.hid hk0
  clear hNl hCl hNx hCx hw hE hW0 hb0 hk0 hN0 hC0 hN hC hcall hcall2 hs
  go_enter Try.func3, Try.ntmps3
  go_wp2_with fail
  rw [← HW0.out]
  refine HC1.out.mono ?_
  rintro e w1 ⟨v1, rfl, ho1, hb1⟩
  obtain ⟨x1, z1, rfl, -, -, -⟩ := ho1.len
  have hk1 := (hb1.block _ hsw).trans HK0.out
  obtain ⟨q0, q1⟩ := cells2 hk1
  have hat1 := ho1.at (F := fun _ => True) (fun _ _ _ _ => trivial) (by decide)
  have hsw1 : w.heap.size < w1.heap.size := Nat.lt_of_lt_of_le hsw hb1.size
  have HAT1 := Lib.hid hat1
  have HB1 := Lib.hid hb1
  clear hk1 ho1 hb1 hat1
  go_wp2_with fail
  refine (HC2.out w1 HB1.out).mono ?_
  rintro e w2 ⟨v2, rfl, ho2, hb2⟩
  obtain ⟨x2, z2, rfl, -, -, -⟩ := ho2.len
  have hat2 := ho2.at (F := fun _ => True) (fun _ _ _ _ => trivial) (by decide)
  have HAT2 := Lib.hid hat2
  have HB2 := Lib.hid hb2
  clear ho2 hb2 hat2 q0 q1
  go_wp2_with fail
  refine (alive_any w2).mono ?_
  rintro e w3 ⟨rfl, hb3⟩
  have s1 := run_string_at (P := Try.prog) (BytesAt.below (BytesAt.below HAT1.out HB2.out) hb3) 25 5 9 Try.underlying25 Try.underlying5 Try.underlying9
  have s2 := run_string_at (P := Try.prog) (BytesAt.below HAT2.out hb3) 25 5 9 Try.underlying25 Try.underlying5 Try.underlying9
  have HB3 := Lib.hid hb3
  clear hb3
  go_wp2_with fail
  go_ret
  exact ⟨rfl, Bel.call (Bel.call (Bel.call HB0.out HB1.out) HB2.out) HB3.out⟩
end Go.Proofs.Ytndkkgkcbbmnpaa
namespace Go.Pg
open Go.RowKit
/-- the bytes from one place up to another -/
def seg (B : List UInt8) (p e : Nat) : List UInt8 := (B.take e).drop p
theorem seg_nil (B : List UInt8) (p e : Nat) (h : e ≤ p) : seg B p e = [] := by
  unfold seg; apply List.drop_of_length_le; rw [List.length_take]; omega
theorem seg_len (B : List UInt8) (p e : Nat) (h : e ≤ B.length) : (seg B p e).length = e - p := by
  unfold seg; rw [List.length_drop, List.length_take]; omega
theorem seg_drop (B : List UInt8) (p e k : Nat) : (seg B p e).drop k = seg B (p + k) e := by
  unfold seg; rw [List.drop_drop]
theorem seg_take (B : List UInt8) (p e k : Nat) (h : p + k ≤ e) : (seg B p e).take k = seg B p (p + k) := by
  unfold seg
  rw [List.take_drop, List.take_take, Nat.min_eq_left h]
theorem seg_get (B : List UInt8) (p e i : Nat) (h : p + i < e) : (seg B p e)[i]? = B[p + i]? := by
  unfold seg
  rw [List.getElem?_drop, List.getElem?_take, if_pos h]
theorem seg_cons (B : List UInt8) (p e : Nat) (h : p < e) (he : e ≤ B.length) : seg B p e = B[p]'(by omega) :: seg B (p + 1) e := by
  unfold seg
  rw [List.drop_eq_getElem_cons (by rw [List.length_take]; omega), List.getElem_take]
theorem seg_getD (B : List UInt8) (p e : Nat) (h : p < e) (he : e ≤ B.length) : seg B p e = B.getD p 0 :: seg B (p + 1) e := by
  rw [seg_cons B p e h he, List.getD_eq_getElem?_getD, List.getElem?_eq_getElem (by omega)]; rfl
theorem BytesAt.cellD {F : Nat → Prop} {w : World} {b o n c : Nat} {bs : List UInt8} (h : BytesAt F w (.slice (some ⟨b, o, none⟩) n c) bs) (i : Nat) (hi : i < bs.length) : w.cell? ⟨b, o + i, none⟩ = some (.int .u8 ((bs.getD i 0).toNat : Int)) := by
  rw [BytesAt.cell h i hi, List.getD_eq_getElem?_getD, List.getElem?_eq_getElem hi]; rfl
theorem seg_all (B : List UInt8) : seg B 0 B.length = B := by unfold seg; simp
theorem addr_map_add (b o k : Nat) : (some (⟨b, o, none⟩ : Addr)).map (·.add k) = some ⟨b, o + k, none⟩ := by
  simp only [Option.map_some, Option.some.injEq]
  unfold Addr.add; split <;> simp_all
/-- b[lo:hi] -/
theorem BytesAt.seg {F : Nat → Prop} {w : World} {a a2 : Option Addr} {n c : Nat} {bs : List UInt8} (h : BytesAt F w (.slice a n c) bs) (lo hi : Nat) (hl : lo ≤ hi) (hk : hi ≤ n) (ha2 : (if c = lo then a else a.map (·.add lo)) = a2) :
    BytesAt F w (.slice a2 (hi - lo) (c - lo)) (seg bs lo hi) :=
  BytesAt.since (BytesAt.upto h hi hk) lo hl ha2
theorem BytesAt.n {F : Nat → Prop} {w : World} {a : Option Addr} {n c : Nat} {bs : List UInt8} (h : BytesAt F w (.slice a n c) bs) : n = bs.length ∧ n ≤ c ∧ c ≤ maxLen := by
  obtain ⟨a', c', hv, h1, h2, -⟩ := h
  simp only [Value.slice.injEq] at hv
  obtain ⟨-, rfl, rfl⟩ := hv
  exact ⟨rfl, h1, h2⟩
end Go.Pg
namespace Go.Proofs.Ytndkkgkcbbmnpaa
open Go.RowKit Go.Pg

set_option maxRecDepth 100000 in
set_option maxHeartbeats 400000 in
theorem copied_any (F : Nat → Prop) (w : World) (v : Value) (bs : List UInt8) (h : BytesAt F w v bs) (hlen : bs.length ≤ 140737488351232) :
    Calls Try.prog 111 #[v] w (Fresh w 5 1 byteR bs) := by
  obtain ⟨i0, hi, hz0, hz1, hz2⟩ := info_parts infoU8
  have hle : (([] : List UInt8).length + bs.length) * 1 ≤ 140737488355328 := by simp; omega
  go_enter Try.func111, Try.ntmps111
  go_wp2_with (at_builtin; refine wpList_append_at rfl (.tmp 4) (.tmp 5) 25 rfl w.heap.size 5 i0 (.int .u8 0) 1 1 underlying25 hi hz0 hz1 hz2 rfl (by decide) (by decide) byteR.one (.slice none 0 0) [] rfl (OwnAt.nil _ _ _ _ _) _ bs F rfl h hle (Nat.le_refl _) ?_; intro v' w2 ho hg hm)
  have HO := Lib.hid ho
  have HG := Lib.hid hg
  clear ho hg hm
  go_wp2
  go_ret
  exact ⟨v', rfl, by simpa using HO.out, (Below.refl _ _).grown HG.out (Nat.le_refl _) (fun k hk => by simp [Value.ownBlock] at hk)⟩
end Go.Proofs.Ytndkkgkcbbmnpaa
