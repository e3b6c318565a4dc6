/-
  Contract of (*nest.reader).list, where that of item is known.
-/
import Derived.Test.YtndkkgkcbbmnpaaDecE
import Derived.Deep.LoopGhost
import Derived.Test.YtndkkgkcbbmnpaaTexts
namespace Go.Proofs.Ytndkkgkcbbmnpaa
open Go.RowKit Go.Pg

/-- the loop's state: the inner reader, the list that is gathered -/
structure LsSt (F : Nat → Prop) (f K : Nat) (L : List UInt8) (w3 wr : World) (ib : Nat) (os : List (Option It)) (e : Nat) (rest : List UInt8) (ar : Option Addr) (nr cr : Nat) (as_ : Option Addr) (cs : Nat) : Prop where
  rd : wr.heap[ib]? = some (.cells #[.slice ar nr cr, .int .i64 e] 117 (0, 0))
  ls : wr.heap[ib + 1]? = some (.cells #[.bool true, .slice none 0 0, .slice as_ os.length cs] 65 (0, 0))
  own : OwnList (OItem (f + 1)) (fun b => ib + 1 < b) (ib + 2) wr 65 3 (.slice as_ os.length cs) os
  bel : Below w3.heap.size w3 wr
  st : ListSt f K L os e rest
  bytes : e = 0 → BytesAt F wr (.slice ar nr cr) rest
  len : os.length + rest.length ≤ K
theorem LsSt.nr {F : Nat → Prop} {f K : Nat} {L : List UInt8} {w3 wr : World} {ib : Nat} {os : List (Option It)} {e : Nat} {rest : List UInt8} {ar : Option Addr} {nr cr : Nat} {as_ : Option Addr} {cs : Nat} (h : LsSt F f K L w3 wr ib os e rest ar nr cr as_ cs) (he : e = 0) : nr = rest.length := by
  obtain ⟨a', c', hv, h1, -⟩ := h.bytes he
  simp only [Value.slice.injEq] at hv
  exact hv.2.1

theorem items_of_some {F : Nat → Prop} {w : World} {d : Nat} {v : Value} {its : List It} (h : SliceAt F w 3 (OItem d F w) v (its.map some)) : ItemsAt F w d v its := by
  obtain ⟨a, c, hv, h1, h2, h3, h4, h5⟩ := h
  simp only [List.length_map] at hv h1 h4 h5
  refine ⟨a, c, hv, h1, h2, h3, fun hp => ?_, h5⟩
  obtain ⟨b, o, ha, hF, hr⟩ := h4 hp
  exact ⟨b, o, ha, hF, fun i x hx => hr i (some x) (by rw [List.getElem?_map, hx]; rfl)⟩
theorem LsSt.done {F : Nat → Prop} {f K : Nat} {L : List UInt8} {w3 wr : World} {ib : Nat} {os : List (Option It)} {ar : Option Addr} {nr cr : Nat} {as_ : Option Addr} {cs : Nat} (h : LsSt F f K L w3 wr ib os 0 [] ar nr cr as_ cs) :
    (rdAll (rdItem f) K L).1 = 0 ∧ ItemAt (fun b => ib + 1 < b) wr (f + 2) [.bool true, .slice none 0 0, .slice as_ os.length cs] (.list (rdAll (rdItem f) K L).2) := by
  obtain ⟨h1, h2⟩ := h.st.done
  refine ⟨h1, _, _, rfl, SliceAt.nil _ _ _ _, items_of_some ?_⟩
  have := h.own.at (carriedO (f + 1)) (G' := fun b => ib + 1 < b) (fun _ h _ => h) (fun b h _ => h) (by decide)
  rw [h2] at this ⊢
  exact this
/-- one item more -/
theorem LsSt.push {F : Nat → Prop} {f K : Nat} {L : List UInt8} {w3 wr : World} {os : List (Option It)} {x : UInt8} {t : List UInt8} {ar : Option Addr} {nr cr : Nat} {as_ : Option Addr} {cs : Nat} (h : LsSt F f K L w3 wr w3.heap.size os 0 (x :: t) ar nr cr as_ cs)
    (hFw : ∀ b, w3.heap.size ≤ b → ¬ F b) {w5 : World} {l : Bool} {i1 i2 i3 : Option Addr} {y1 z1 y2 z2 y3 z3 : Nat}
    (hit : (rdItem f (x :: t)).1 = 0 → ItemAt (fun b => wr.drew.heap.size ≤ b) w5 (f + 1) [.bool l, .slice i1 y1 z1, .slice i3 y3 z3] (rdItem f (x :: t)).2.1 ∧ BytesAt F w5 (.slice i2 y2 z2) (rdItem f (x :: t)).2.2)
    (hk : w5.heap[w3.heap.size]? = some (.cells #[.slice i2 y2 z2, .int .i64 (rdItem f (x :: t)).1] 117 (0, 0)))
    (hc : Chg (fun k => k = w3.heap.size) wr.drew w5) :
    w3.heap.size + 2 ≤ w5.heap.size ∧ w5.heap[w3.heap.size + 1]? = some (.cells #[.bool true, .slice none 0 0, .slice as_ os.length cs] 65 (0, 0)) ∧
    ∃ (o : Option It) (R : List Value → Option It → Prop), (∀ cs x, R cs x → ∀ u ∈ cs, u.oneCell' = true) ∧
      OwnAt (w5.alloc (.cells [.bool l, .slice i1 y1 z1, .slice i3 y3 z3].toArray 65)) (w3.heap.size + 2) 65 3 R (.slice as_ os.length cs) os ∧
      SliceAt (fun _ => True) (w5.alloc (.cells [.bool l, .slice i1 y1 z1, .slice i3 y3 z3].toArray 65)) 3 R (.slice (some ⟨w5.heap.size, 0, none⟩) 1 1) [o] ∧
      ∀ (g cap : Nat) (W2 : World), OwnAt W2 (w3.heap.size + 2) 65 3 R (.slice (some ⟨g, 0, none⟩) (os.length + 1) cap) (os ++ [o]) →
        (w5.alloc (.cells [.bool l, .slice i1 y1 z1, .slice i3 y3 z3].toArray 65)).grownBy W2 (Value.slice as_ os.length cs).ownBlock →
        Moved (w5.alloc (.cells [.bool l, .slice i1 y1 z1, .slice i3 y3 z3].toArray 65)) (.slice as_ os.length cs) (.slice (some ⟨g, 0, none⟩) (os.length + 1) cap) →
        W2.heap[w3.heap.size + 1]? = some (.cells #[.bool true, .slice none 0 0, .slice as_ os.length cs] 65 (0, 0)) ∧
        LsSt F f K L w3 (W2.setCell ⟨w3.heap.size + 1, 2, none⟩ (.slice (some ⟨g, 0, none⟩) (os.length + 1) cap)) w3.heap.size (os ++ [o]) (rdItem f (x :: t)).1 (rdItem f (x :: t)).2.2 i2 y2 z2 (some ⟨g, 0, none⟩) cap := by
  have hls := (Array.getElem?_eq_some_iff.1 h.ls).1
  have hsz : wr.heap.size ≤ w5.heap.size := by simpa using hc.size
  have hown := h.own.own
  have hls5 : w5.heap[w3.heap.size + 1]? = some (.cells #[.bool true, .slice none 0 0, .slice as_ os.length cs] 65 (0, 0)) := by
    rw [hc.block _ (by simpa using hls) (by omega)]; exact h.ls
  have hO5 : OwnList (OItem (f + 1)) (fun b => w3.heap.size + 1 < b) (w3.heap.size + 2) w5 65 3 (.slice as_ os.length cs) os :=
    h.own.carry (carriedO (f + 1)) hsz (fun b hb hlt => hc.block b (by simpa using hlt) (by omega)) (fun g hg => hc.block g (by have := hown g hg; simpa using this.2) (by have := hown g hg; omega))
  have hO : OItem (f + 1) (fun b => wr.heap.size ≤ b) w5 [.bool l, .slice i1 y1 z1, .slice i3 y3 z3] (if (rdItem f (x :: t)).1 = 0 then some (rdItem f (x :: t)).2.1 else none) := by
    split
    · exact (hit (by assumption)).1
    · exact ⟨_, _, _, _, _, _, _, rfl⟩
  obtain ⟨R, hR1, hRo, hRs, hRn⟩ := hO5.push (carriedO (f + 1)) hO rfl (by decide) (fun b' _ hb' => ⟨by have : wr.heap.size ≤ b' := hb'; show w3.heap.size + 1 < b'; omega, fun e => by have h1 := (hown b' e).2; have h2 : wr.heap.size ≤ b' := hb'; omega⟩) 65
  refine ⟨by omega, hls5, _, R, hR1, hRo, hRs, fun g cap W2 ho hg hm => ?_⟩
  have hOn := hRn _ W2 ho hg hm
  have hsz2 := hg.size
  simp only [World.size_alloc] at hsz2
  have hblk : ∀ b, b < w5.heap.size → (∀ g, (Value.slice as_ os.length cs).ownBlock = some g → b ≠ g) → W2.heap[b]? = w5.heap[b]? := fun b hb hne => by
    rw [hg.block b (by simp; omega) (fun e => hne b e.symm rfl), Below.heap_alloc _ _ _ hb]
  have hW1 : W2.heap[w3.heap.size + 1]? = some (.cells #[.bool true, .slice none 0 0, .slice as_ os.length cs] 65 (0, 0)) := by
    rw [hblk _ (by omega) (fun g hg e => by have := (hown g hg).1; omega)]; exact hls5
  have hW0 := (hblk w3.heap.size (by omega) (fun g hg e => by have := (hown g hg).1; omega)).trans hk
  have hbel5 : Below w3.heap.size w3 w5 := h.bel.drew.trans (hc.toBelowAt (by simp; omega) (fun k hk e => by omega))
  have hlen : (os ++ [if (rdItem f (x :: t)).1 = 0 then some (rdItem f (x :: t)).2.1 else none]).length = os.length + 1 := by simp
  have hownN := hOn.own
  have hr := rdItem_rest f x t
  have hl := h.len
  simp only [List.length_cons] at hl
  refine ⟨hW1, ?_, ?_, ?_, ?_, h.st.step, fun h0 => ?_, by omega⟩
  · rw [Below.heap_setCell _ _ _ _ (by show w3.heap.size ≠ w3.heap.size + 1; omega)]; exact hW0
  · rw [hlen]; exact blk_setCell hW1
  · rw [hlen]
    exact hOn.carry (carriedO (f + 1)) (by simp) (fun b' hb' _ => Below.heap_setCell _ _ _ _ (by have : w3.heap.size + 1 < b' := hb'; show b' ≠ w3.heap.size + 1; omega)) (fun g' hg' => Below.heap_setCell _ _ _ _ (by have := (hownN g' hg').1; show g' ≠ w3.heap.size + 1; omega))
  · exact ((hbel5.alloc (by omega) _).grown hg (by simp; omega) (fun k hk => by have := (hown k hk).1; omega)).setCell (by show w3.heap.size ≤ w3.heap.size + 1; omega) _
  · refine (hit h0).2.carry (fun _ _ x => x) (fun b hb hlt => ?_)
    have hbs : b < w3.heap.size := by
      by_cases hh : b < w3.heap.size
      · exact hh
      · exact absurd hb (hFw b (by omega))
    rw [Below.heap_setCell _ _ _ _ (by show b ≠ w3.heap.size + 1; omega), hblk b hlt (fun g hg e => by have := (hown g hg).1; omega)]

set_option maxRecDepth 100000 in
set_option maxHeartbeats 4000000 in
theorem list_step (f : Nat) (hit0 : RItemC f) : RListC f := by
  intro F0 w rb a n c deep m bs h0 hk hF0 hn hd hm
  have hlt := (Array.getElem?_eq_some_iff.1 hk).1
  obtain ⟨F, hFd⟩ : ∃ F : Nat → Prop, F = fun b => F0 b ∧ b < w.heap.size := ⟨_, rfl⟩
  have h : BytesAt F w (.slice a n c) bs := by rw [hFd]; exact h0.carry (fun b hb hF => ⟨hF, hb⟩) (fun _ _ _ => rfl)
  have hF : ¬ F rb := by rw [hFd]; exact fun h => hF0 h.1
  have hFw : ∀ b, w.heap.size ≤ b → ¬ F b := fun b hb hf => by rw [hFd] at hf; have := hf.2; omega
  have hnl : n = bs.length := by
    obtain ⟨a', c', hv, h1, -⟩ := h
    simp only [Value.slice.injEq] at hv
    simpa using hv.2.1
  have hk0 : (w.alloc (.cells #[.bool false, .slice none 0 0, .slice none 0 0] 65)).heap[rb]? = some (.cells #[.slice a n c, .int .i64 0] 117 (0, 0)) := by rw [Below.heap_alloc _ _ _ hlt]; exact hk
  have hbs0 : BytesAt F (w.alloc (.cells #[.bool false, .slice none 0 0, .slice none 0 0] 65)) (.slice a n c) bs := BytesAt.below h (Bel.alloc (Bel.refl w) _)
  have HK0 := Lib.hid hk0
  have HBS0 := Lib.hid hbs0
  have HFD := Lib.hid hFd
  have HFW := Lib.hid hFw
  have HIT := Lib.hid hit0
  obtain ⟨i0, hi, hz0, hz1, hz2⟩ := info_parts infoItem
  have hsl := readSize_le m bs
  obtain ⟨e1, k, t, hrs⟩ : ∃ e1 k t, readSize m bs = (e1, k, t) := ⟨_, _, _, rfl⟩
  rw [hrs] at hsl ⊢
  have HRS := Lib.hid hrs
  have hk24 : k ≤ 16777215 := hsl.1
  have htl : t.length ≤ 70368744177664 := by have h2 : t.length ≤ bs.length := hsl.2; omega
  clear hk hk0 hbs0 h h0 hFd hFw hnl hit0 hrs hsl
  go_enter Try.func109, Try.ntmps109
  go_wp2_with fail
  refine (size_any F _ rb a n c m bs HBS0.out HK0.out hF (by omega) hm).mono ?_
  rintro e w2 ⟨s1, s2, a3, n3, c3, s3, g1, g2⟩
  rw [HRS.out] at s1 s2 s3 g1
  have hb2 : w2.heap[w.heap.size]? = some (.cells #[.bool false, .slice none 0 0, .slice none 0 0] 65 (0, 0)) := by
    rw [g2.block _ (by simp) (by omega)]; exact heap_alloc_new w _
  have hsb2 := (Array.getElem?_eq_some_iff.1 hb2).1
  have S3 := Lib.hid s3
  have G1 := Lib.hid g1
  have G2 := Lib.hid (((Chg.refl (fun k => k = rb) w).alloc _).trans g2 (fun _ _ x => x))
  have HB2 := Lib.hid hb2
  obtain ⟨q0, q1, q2⟩ := cells3 hb2
  have f0 := frozen_of_row w2 w.heap.size 0 _ _ hb2
  have f1 := frozen_of_row w2 w.heap.size 1 _ _ hb2
  have f2 := frozen_of_row w2 w.heap.size 2 _ _ hb2
  clear hb2 g1 g2 s3
  by_cases he1 : e1 = 0
  · subst he1
    obtain rfl := s1 rfl
    have s3 := S3.out rfl
    have hn3 : n3 = t.length := by
      obtain ⟨a', c', hv, h1, -⟩ := s3
      simp only [Value.slice.injEq] at hv
      exact hv.2.1
    have hn3b : n3 ≤ 70368744177664 := by omega
    have HN3 := Lib.hid hn3
    have HS3 := Lib.hid s3
    clear s1 s2 s3 hn3
    go_wp2_with fail
    by_cases hkn : n3 < k
    · have HR2 : Hid (rdList (rdItem f) (0, k, t) = (22, .text [], [])) := by
        show _ = _
        rw [rdList, if_neg (by simp), if_pos (by have := HN3.out; simp only; omega)]
      refine (take_no _ rb a3 n3 c3 _ G1.out (by omega)).mono ?_
      rintro e w3 ⟨rfl, g3, g4⟩
      have hb3 := (g4.block _ hsb2 (by omega)).trans HB2.out
      have G3 := Lib.hid g3
      have G4 := Lib.hid (G2.out.trans g4 (fun _ _ x => x))
      have HB3 := Lib.hid hb3
      clear g3 g4 q0 q1 q2 f0 f1 f2
      obtain ⟨q0, q1, q2⟩ := cells3 hb3
      have f0 := frozen_of_row w3 w.heap.size 0 _ _ hb3
      have f1 := frozen_of_row w3 w.heap.size 1 _ _ hb3
      have f2 := frozen_of_row w3 w.heap.size 2 _ _ hb3
      clear hb3
      go_wp2_with fail
      have hbx := box3 HB3.out (.bool false) (.slice none 0 0) (.slice none 0 0)
      obtain ⟨W, hW⟩ : ∃ W, W = ((w3.setCell ⟨w.heap.size, 0, none⟩ (.bool false)).setCell ⟨w.heap.size, 1, none⟩ (.slice none 0 0)).setCell ⟨w.heap.size, 2, none⟩ (.slice none 0 0) := ⟨_, rfl⟩
      rw [← hW] at hbx ⊢
      obtain ⟨r0, r1, r2⟩ := cells3 hbx.at_
      refine bodyPost_ret (v := .agg #[.bool false, .slice none 0 0, .slice none 0 0]) (by simp [results, Try.results109, go_sem, r0, r1, r2]) rfl ?_
      rw [HR2.out]
      exact Itemd.done (F := F0) hlt (fun h => by cases h) G3.out G4.out hbx
    · obtain ⟨L, hL⟩ : ∃ L, L = t.take k := ⟨_, rfl⟩
      obtain ⟨T, hT⟩ : ∃ T, T = t.drop k := ⟨_, rfl⟩
      have HR2 : Hid (rdList (rdItem f) (0, k, t) = if (rdAll (rdItem f) k L).1 ≠ 0 then ((rdAll (rdItem f) k L).1, .text [], []) else (0, .list (rdAll (rdItem f) k L).2, T)) := by
        show _ = _
        rw [rdList, if_neg (by simp), if_neg (by have := HN3.out; simp only; omega), hL, hT]
      have hLl : L.length = k := by rw [hL, List.length_take]; have := HN3.out; omega
      refine (take_ok F _ rb a3 n3 c3 k t HS3.out G1.out hF (by omega) (by omega)).mono ?_
      rintro e w3 ⟨b1, d1, b2, m2, d2, rfl, hu, hs, g3, g4⟩
      rw [← hL] at hu
      rw [← hT] at hs
      have hb3 := (g4.block _ hsb2 (by omega)).trans HB2.out
      have hsb3 := (Array.getElem?_eq_some_iff.1 hb3).1
      have hrb3 := (Array.getElem?_eq_some_iff.1 g3).1
      have G3 := Lib.hid g3
      have G4 := Lib.hid (G2.out.trans g4 (fun _ _ x => x))
      have HB3 := Lib.hid hb3
      have HS3' := Lib.hid hs
      have HU3 := Lib.hid hu
      have HLL := Lib.hid hLl
      clear g3 g4 q0 q1 q2 f0 f1 f2 hs hu hb3 hL hT hLl
      go_wp2_with fail
      have hZ : LsSt F f k L w3 ((w3.alloc (.cells #[.slice b1 k d1, .int .i64 0] 117)).alloc (.cells #[.bool true, .slice none 0 0, .slice none 0 0] 65)) w3.heap.size [] 0 L b1 k d1 none 0 := by
        have hlL := HLL.out
        refine ⟨?_, ?_, OwnList.nil, Below.alloc (Below.alloc (Below.refl _ _) (Nat.le_refl _) _) (by simp) _, ListSt.start f k L (by omega), fun _ => ?_, by simp; omega⟩
        · exact (Below.heap_alloc _ _ _ (by simp)).trans (heap_alloc_new w3 _)
        · have := heap_alloc_new (w3.alloc (.cells #[.slice b1 k d1, .int .i64 0] 117)) (.cells #[.bool true, .slice none 0 0, .slice none 0 0] 65)
          simpa using this
        · exact BytesAt.below HU3.out (Bel.alloc (Bel.alloc (Bel.refl w3) _) _)
      have HZ := Lib.hid hZ
      clear hZ
      go_loopg [] k (fun gk wr => ∃ (os : List (Option It)) (e : Nat) (rest : List UInt8) (ar : Option Addr) (nr cr : Nat) (as_ : Option Addr) (cs : Nat), Hid (LsSt F f k L w3 wr w3.heap.size os e rest ar nr cr as_ cs) ∧ Hid (rest.length ≤ gk))
      case atStart => exact ⟨_, _, _, _, _, _, _, _, HZ, Lib.hid (by have := HLL.out; omega)⟩
      case round =>
        obtain ⟨os, e, rest, ar, nr, cr, as_, cs, HS, HG⟩ := hrel
        obtain ⟨p0, p1, p2⟩ := cells3 HS.out.ls
        have fq := frozen_of_row wr (w3.heap.size + 1) 2 _ _ HS.out.ls
        have hbx0 := (HS.out.bel.block _ hsb3).trans HB3.out
        obtain ⟨r0, r1, r2⟩ := cells3 hbx0
        have f0 := frozen_of_row wr w.heap.size 0 _ _ hbx0
        have f1 := frozen_of_row wr w.heap.size 1 _ _ hbx0
        have f2 := frozen_of_row wr w.heap.size 2 _ _ hbx0
        have HBX := Lib.hid hbx0
        have G3r := Lib.hid ((HS.out.bel.block _ hrb3).trans G3.out)
        have G4r := Lib.hid (G4.out.trans (Chg.ofBelow HS.out.bel (fun _ => False)) (fun _ _ h => h.elim))
        clear hbx0
        by_cases he : e = 0
        · subst he
          have hnr := HS.out.nr rfl
          have hrd : wr.heap[w3.heap.size]? = some (.cells #[.slice ar nr cr, .int .i64 0] 117 (0, 0)) := HS.out.rd
          obtain ⟨q0, q1⟩ := cells2 hrd
          have HRD := Lib.hid hrd
          clear hrd
          rcases rest with - | ⟨x, t'⟩
          · simp only [List.length_nil] at hnr
            subst hnr
            go_wp2_with fail
            have hbx := box3 HBX.out (.bool true) (.slice none 0 0) (.slice as_ os.length cs)
            obtain ⟨W, hW⟩ : ∃ W, W = ((wr.setCell ⟨w.heap.size, 0, none⟩ (.bool true)).setCell ⟨w.heap.size, 1, none⟩ (.slice none 0 0)).setCell ⟨w.heap.size, 2, none⟩ (.slice as_ os.length cs) := ⟨_, rfl⟩
            rw [← hW] at hbx ⊢
            clear r0 r1 r2
            obtain ⟨r0, r1, r2⟩ := cells3 hbx.at_
            refine bodyPost_ret (v := .agg #[.bool true, .slice none 0 0, .slice as_ os.length cs]) (by simp [results, Try.results109, go_sem, r0, r1, r2]) rfl ?_
            obtain ⟨d0, d1'⟩ := HS.out.done
            rw [HR2.out, if_neg (by simp [d0])]
            refine Itemd.done (F := F0) hlt (fun _ => ⟨d1'.carry (fun b _ hb => by have : w3.heap.size + 1 < b := hb; show w.heap.size < b; omega) (fun _ _ _ => rfl), ?_⟩) G3r.out G4r.out hbx
            have := BytesAt.below HS3'.out HS.out.bel
            rw [HFD.out] at this
            exact this
          · have hnr0 : 0 < nr := by rw [hnr]; simp
            have hlen := HS.out.len
            simp only [List.length_cons] at hlen hnr
            have hnrb : nr ≤ 70368744177664 := by omega
            have HL := Lib.hid hlen
            have HNR := Lib.hid hnr
            have HBY := Lib.hid (SliceAt.drew' (HS.out.bytes rfl) (by decide))
            have hdw : IntKind.i64.wrap ((deep:Int) + 1) = ((deep + 1 : Nat) : Int) := by rw [IntKind.wrap_i64]; omega
            have HDW := Lib.hid hdw
            have hle : (os.length + 1) * 56 ≤ 140737488355328 := by omega
            clear hlen hnr hdw
            go_wp2_with fail
            go_region_law (first | (go_simp; go_at_call 95; rw [HDW.out]; refine (HIT.out F _ w3.heap.size ar nr cr (deep + 1) (x :: t') HBY.out HRD.out (HFW.out _ (by omega)) hnrb (by omega)).mono ?_; rintro e5 w5 ⟨l5, i1, y1, z1, i3, y3, z3, i2, y2, z2, rfl, k1, k2, k3⟩; obtain ⟨j1, j2, o, R, j3, j4, j5, j6⟩ := HS.out.push (fun b hb => HFW.out b (by omega)) k1 k2 k3; have HR1 := Lib.hid j3; have HRO := Lib.hid j4; have HRS := Lib.hid j5; have HRN := Lib.hid j6; obtain ⟨s0, s1, s2⟩ := cells3 j2; obtain ⟨s3, s4, s5⟩ := cells3 ((Below.heap_alloc w5 (.cells #[.bool l5, .slice i1 y1 z1, .slice i3 y3 z3] 65) _ (by omega)).trans j2); clear k1 k2 k3 j2 j3 j4 j5 j6) | (refine step_append_at rfl (.tmp 42) (.tmp 46) 63 rfl (w3.heap.size + 2) 65 i0 (.agg #[.bool false, .slice none 0 0, .slice none 0 0]) 3 56 underlyingItems hi hz0 hz1 hz2 rfl (by decide) (by decide) HR1.out (.slice as_ os.length cs) os (by simp [Act.eval]) HRO.out (.slice (some ⟨w5.heap.size, 0, none⟩) 1 1) [o] (fun _ => True) (by simp [Act.eval]) HRS.out Nat.one_pos hle (by simp; omega) (os.length + 1) rfl ?_; intro g cap W2 ho hg hm; obtain ⟨n1, n2⟩ := HRN.out g cap W2 ho hg hm; obtain ⟨m0, m1, m2'⟩ := cells3 n1; have fr := frozen_of_row W2 (w3.heap.size + 1) 2 _ _ n1; have HN := Lib.hid n2; clear n1 n2 ho hg hm))
            all_goals
              go_wp2_with fail
              have hlt' : (rdItem f (x :: t')).2.2.length ≤ gk - 1 ∧ gk - 1 < gk := by
                have h1 := rdItem_rest f x t'
                have h2 := HG.out
                simp only [List.length_cons] at h2
                omega
              have HLT := Lib.hid hlt'
              go_roundg (gk - 1)
              case rel => exact ⟨_, _, _, _, _, _, _, _, HN, Lib.hid HLT.out.1⟩
              case measure => exact HLT.out.2
        · obtain ⟨q0, q1⟩ := cells2 HS.out.rd
          have HE := Lib.hid he
          have ht : (((e:Nat):Int) == 0) = false := by simp; omega
          have ht2 : (((e:Nat):Int) != 0) = true := by simp; omega
          have hst := HS.out.st.2 he
          have HST := Lib.hid hst
          clear hst he
          rcases Nat.eq_zero_or_pos nr with hz | hz
          all_goals
            try subst hz
            go_wp2_with fail
            refine (int_fail _ rb b2 m2 d2 _ e rfl G3r.out).mono ?_
            rintro e5 w5 ⟨rfl, k1, k2⟩
            have hb5 := (k2.block _ (Nat.lt_of_lt_of_le hsb3 HS.out.bel.size) (by omega)).trans HBX.out
            have K1 := Lib.hid k1
            have K2 := Lib.hid (G4r.out.trans k2 (fun _ _ x => x))
            have HB5 := Lib.hid hb5
            clear k1 k2 r0 r1 r2 f0 f1 f2
            obtain ⟨r0, r1, r2⟩ := cells3 hb5
            have f0 := frozen_of_row w5 w.heap.size 0 _ _ hb5
            have f1 := frozen_of_row w5 w.heap.size 1 _ _ hb5
            have f2 := frozen_of_row w5 w.heap.size 2 _ _ hb5
            clear hb5
            go_wp2_with fail
            have hbx := box3 HB5.out (.bool false) (.slice none 0 0) (.slice none 0 0)
            obtain ⟨W, hW⟩ : ∃ W, W = ((w5.setCell ⟨w.heap.size, 0, none⟩ (.bool false)).setCell ⟨w.heap.size, 1, none⟩ (.slice none 0 0)).setCell ⟨w.heap.size, 2, none⟩ (.slice none 0 0) := ⟨_, rfl⟩
            rw [← hW] at hbx ⊢
            clear r0 r1 r2
            obtain ⟨r0, r1, r2⟩ := cells3 hbx.at_
            refine bodyPost_ret (v := .agg #[.bool false, .slice none 0 0, .slice none 0 0]) (by simp [results, Try.results109, go_sem, r0, r1, r2]) rfl ?_
            rw [HR2.out, HST.out, if_pos HE.out]
            exact Itemd.done (F := F0) hlt (fun h => absurd h HE.out) K1.out K2.out hbx
  · obtain rfl := s2 he1
    have HR2 : Hid (rdList (rdItem f) (e1, k, t) = (e1, .text [], [])) := by
      show _ = _
      rw [rdList, if_pos he1]
    clear s1 s2
    go_wp2_with fail
    have hbx := box3 HB2.out (.bool false) (.slice none 0 0) (.slice none 0 0)
    obtain ⟨W, hW⟩ : ∃ W, W = ((w2.setCell ⟨w.heap.size, 0, none⟩ (.bool false)).setCell ⟨w.heap.size, 1, none⟩ (.slice none 0 0)).setCell ⟨w.heap.size, 2, none⟩ (.slice none 0 0) := ⟨_, rfl⟩
    rw [← hW] at hbx ⊢
    obtain ⟨r0, r1, r2⟩ := cells3 hbx.at_
    refine bodyPost_ret (v := .agg #[.bool false, .slice none 0 0, .slice none 0 0]) (by simp [results, Try.results109, go_sem, r0, r1, r2]) rfl ?_
    rw [HR2.out]
    exact Itemd.done (F := F0) hlt (fun h => absurd h he1) G1.out G2.out hbx
end Go.Proofs.Ytndkkgkcbbmnpaa
