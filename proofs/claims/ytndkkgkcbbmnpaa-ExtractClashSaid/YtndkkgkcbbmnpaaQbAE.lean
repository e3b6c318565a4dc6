/-
  Contract of (*nest.reader).list, where that of item is known.
  Contracts of (*nest.reader).item at every depth, of nest.First.
  Contract of nest.Decode.
  Contract of witness.read.
  Which items have an encoding; witnesses: reading and writing them are one another's inverse (plain law).
-/
import Derived.Test.YtndkkgkcbbmnpaaQbAD
import Derived.Deep.LoopGhost
namespace Go.Proofs.Ytndkkgkcbbmnpaa
open Go.RowKit Go.Pg

/-- the loop's state: the inner reader, the list that is gathered -/
structure LsSt (F : Nat → Prop) (f K : Nat) (L : List UInt8) (w3 wr : World) (ib : Nat) (os : List (Option It)) (e : Nat) (rest : List UInt8) (ar : Option Addr) (nr cr : Nat) (as_ : Option Addr) (cs : Nat) : Prop where
  rd : wr.heap[ib]? = some (.cells #[.slice ar nr cr, .int .i64 e] 117 (0, 0))
  ls : wr.heap[ib + 1]? = some (.cells #[.bool true, .slice none 0 0, .slice as_ os.length cs] 65 (0, 0))
  own : OwnList (OItem (f + 1)) (fun b => ib + 1 < b) (ib + 2) wr 65 3 (.slice as_ os.length cs) os
  bel : Below w3.heap.size w3 wr
  st : ListSt f K L os e rest
  bytes : e = 0 → BytesAt F wr (.slice ar nr cr) rest
  len : os.length + rest.length ≤ K
theorem LsSt.nr {F : Nat → Prop} {f K : Nat} {L : List UInt8} {w3 wr : World} {ib : Nat} {os : List (Option It)} {e : Nat} {rest : List UInt8} {ar : Option Addr} {nr cr : Nat} {as_ : Option Addr} {cs : Nat} (h : LsSt F f K L w3 wr ib os e rest ar nr cr as_ cs) (he : e = 0) : nr = rest.length := by
  obtain ⟨a', c', hv, h1, -⟩ := h.bytes he
  simp only [Value.slice.injEq] at hv
  exact hv.2.1

theorem items_of_some {F : Nat → Prop} {w : World} {d : Nat} {v : Value} {its : List It} (h : SliceAt F w 3 (OItem d F w) v (its.map some)) : ItemsAt F w d v its := by
  obtain ⟨a, c, hv, h1, h2, h3, h4, h5⟩ := h
  simp only [List.length_map] at hv h1 h4 h5
  refine ⟨a, c, hv, h1, h2, h3, fun hp => ?_, h5⟩
  obtain ⟨b, o, ha, hF, hr⟩ := h4 hp
  exact ⟨b, o, ha, hF, fun i x hx => hr i (some x) (by rw [List.getElem?_map, hx]; rfl)⟩
theorem LsSt.done {F : Nat → Prop} {f K : Nat} {L : List UInt8} {w3 wr : World} {ib : Nat} {os : List (Option It)} {ar : Option Addr} {nr cr : Nat} {as_ : Option Addr} {cs : Nat} (h : LsSt F f K L w3 wr ib os 0 [] ar nr cr as_ cs) :
    (rdAll (rdItem f) K L).1 = 0 ∧ ItemAt (fun b => ib + 1 < b) wr (f + 2) [.bool true, .slice none 0 0, .slice as_ os.length cs] (.list (rdAll (rdItem f) K L).2) := by
  obtain ⟨h1, h2⟩ := h.st.done
  refine ⟨h1, _, _, rfl, SliceAt.nil _ _ _ _, items_of_some ?_⟩
  have := h.own.at (carriedO (f + 1)) (G' := fun b => ib + 1 < b) (fun _ h _ => h) (fun b h _ => h) (by decide)
  rw [h2] at this ⊢
  exact this
/-- one item more -/
theorem LsSt.push {F : Nat → Prop} {f K : Nat} {L : List UInt8} {w3 wr : World} {os : List (Option It)} {x : UInt8} {t : List UInt8} {ar : Option Addr} {nr cr : Nat} {as_ : Option Addr} {cs : Nat} (h : LsSt F f K L w3 wr w3.heap.size os 0 (x :: t) ar nr cr as_ cs)
    (hFw : ∀ b, w3.heap.size ≤ b → ¬ F b) {w5 : World} {l : Bool} {i1 i2 i3 : Option Addr} {y1 z1 y2 z2 y3 z3 : Nat}
    (hit : (rdItem f (x :: t)).1 = 0 → ItemAt (fun b => wr.drew.heap.size ≤ b) w5 (f + 1) [.bool l, .slice i1 y1 z1, .slice i3 y3 z3] (rdItem f (x :: t)).2.1 ∧ BytesAt F w5 (.slice i2 y2 z2) (rdItem f (x :: t)).2.2)
    (hk : w5.heap[w3.heap.size]? = some (.cells #[.slice i2 y2 z2, .int .i64 (rdItem f (x :: t)).1] 117 (0, 0)))
    (hc : Chg (fun k => k = w3.heap.size) wr.drew w5) :
    w3.heap.size + 2 ≤ w5.heap.size ∧ w5.heap[w3.heap.size + 1]? = some (.cells #[.bool true, .slice none 0 0, .slice as_ os.length cs] 65 (0, 0)) ∧
    ∃ (o : Option It) (R : List Value → Option It → Prop), (∀ cs x, R cs x → ∀ u ∈ cs, u.oneCell' = true) ∧
      OwnAt (w5.alloc (.cells [.bool l, .slice i1 y1 z1, .slice i3 y3 z3].toArray 65)) (w3.heap.size + 2) 65 3 R (.slice as_ os.length cs) os ∧
      SliceAt (fun _ => True) (w5.alloc (.cells [.bool l, .slice i1 y1 z1, .slice i3 y3 z3].toArray 65)) 3 R (.slice (some ⟨w5.heap.size, 0, none⟩) 1 1) [o] ∧
      ∀ (g cap : Nat) (W2 : World), OwnAt W2 (w3.heap.size + 2) 65 3 R (.slice (some ⟨g, 0, none⟩) (os.length + 1) cap) (os ++ [o]) →
        (w5.alloc (.cells [.bool l, .slice i1 y1 z1, .slice i3 y3 z3].toArray 65)).grownBy W2 (Value.slice as_ os.length cs).ownBlock →
        Moved (w5.alloc (.cells [.bool l, .slice i1 y1 z1, .slice i3 y3 z3].toArray 65)) (.slice as_ os.length cs) (.slice (some ⟨g, 0, none⟩) (os.length + 1) cap) →
        W2.heap[w3.heap.size + 1]? = some (.cells #[.bool true, .slice none 0 0, .slice as_ os.length cs] 65 (0, 0)) ∧
        LsSt F f K L w3 (W2.setCell ⟨w3.heap.size + 1, 2, none⟩ (.slice (some ⟨g, 0, none⟩) (os.length + 1) cap)) w3.heap.size (os ++ [o]) (rdItem f (x :: t)).1 (rdItem f (x :: t)).2.2 i2 y2 z2 (some ⟨g, 0, none⟩) cap := by
  have hls := (Array.getElem?_eq_some_iff.1 h.ls).1
  have hsz : wr.heap.size ≤ w5.heap.size := by simpa using hc.size
  have hown := h.own.own
  have hls5 : w5.heap[w3.heap.size + 1]? = some (.cells #[.bool true, .slice none 0 0, .slice as_ os.length cs] 65 (0, 0)) := by
    rw [hc.block _ (by simpa using hls) (by omega)]; exact h.ls
  have hO5 : OwnList (OItem (f + 1)) (fun b => w3.heap.size + 1 < b) (w3.heap.size + 2) w5 65 3 (.slice as_ os.length cs) os :=
    h.own.carry (carriedO (f + 1)) hsz (fun b hb hlt => hc.block b (by simpa using hlt) (by omega)) (fun g hg => hc.block g (by have := hown g hg; simpa using this.2) (by have := hown g hg; omega))
  have hO : OItem (f + 1) (fun b => wr.heap.size ≤ b) w5 [.bool l, .slice i1 y1 z1, .slice i3 y3 z3] (if (rdItem f (x :: t)).1 = 0 then some (rdItem f (x :: t)).2.1 else none) := by
    split
    · exact (hit (by assumption)).1
    · exact ⟨_, _, _, _, _, _, _, rfl⟩
  obtain ⟨R, hR1, hRo, hRs, hRn⟩ := hO5.push (carriedO (f + 1)) hO rfl (by decide) (fun b' _ hb' => ⟨by have : wr.heap.size ≤ b' := hb'; show w3.heap.size + 1 < b'; omega, fun e => by have h1 := (hown b' e).2; have h2 : wr.heap.size ≤ b' := hb'; omega⟩) 65
  refine ⟨by omega, hls5, _, R, hR1, hRo, hRs, fun g cap W2 ho hg hm => ?_⟩
  have hOn := hRn _ W2 ho hg hm
  have hsz2 := hg.size
  simp only [World.size_alloc] at hsz2
  have hblk : ∀ b, b < w5.heap.size → (∀ g, (Value.slice as_ os.length cs).ownBlock = some g → b ≠ g) → W2.heap[b]? = w5.heap[b]? := fun b hb hne => by
    rw [hg.block b (by simp; omega) (fun e => hne b e.symm rfl), Below.heap_alloc _ _ _ hb]
  have hW1 : W2.heap[w3.heap.size + 1]? = some (.cells #[.bool true, .slice none 0 0, .slice as_ os.length cs] 65 (0, 0)) := by
    rw [hblk _ (by omega) (fun g hg e => by have := (hown g hg).1; omega)]; exact hls5
  have hW0 := (hblk w3.heap.size (by omega) (fun g hg e => by have := (hown g hg).1; omega)).trans hk
  have hbel5 : Below w3.heap.size w3 w5 := h.bel.drew.trans (hc.toBelowAt (by simp; omega) (fun k hk e => by omega))
  have hlen : (os ++ [if (rdItem f (x :: t)).1 = 0 then some (rdItem f (x :: t)).2.1 else none]).length = os.length + 1 := by simp
  have hownN := hOn.own
  have hr := rdItem_rest f x t
  have hl := h.len
  simp only [List.length_cons] at hl
  refine ⟨hW1, ?_, ?_, ?_, ?_, h.st.step, fun h0 => ?_, by omega⟩
  · rw [Below.heap_setCell _ _ _ _ (by show w3.heap.size ≠ w3.heap.size + 1; omega)]; exact hW0
  · rw [hlen]; exact blk_setCell hW1
  · rw [hlen]
    exact hOn.carry (carriedO (f + 1)) (by simp) (fun b' hb' _ => Below.heap_setCell _ _ _ _ (by have : w3.heap.size + 1 < b' := hb'; show b' ≠ w3.heap.size + 1; omega)) (fun g' hg' => Below.heap_setCell _ _ _ _ (by have := (hownN g' hg').1; show g' ≠ w3.heap.size + 1; omega))
  · exact ((hbel5.alloc (by omega) _).grown hg (by simp; omega) (fun k hk => by have := (hown k hk).1; omega)).setCell (by show w3.heap.size ≤ w3.heap.size + 1; omega) _
  · refine (hit h0).2.carry (fun _ _ x => x) (fun b hb hlt => ?_)
    have hbs : b < w3.heap.size := by
      by_cases hh : b < w3.heap.size
      · exact hh
      · exact absurd hb (hFw b (by omega))
    rw [Below.heap_setCell _ _ _ _ (by show b ≠ w3.heap.size + 1; omega), hblk b hlt (fun g hg e => by have := (hown g hg).1; omega)]

set_option maxRecDepth 100000 in
set_option maxHeartbeats 4000000 in
theorem list_step (f : Nat) (hit0 : RItemC f) : RListC f := by
  intro F0 w rb a n c deep m bs h0 hk hF0 hn hd hm
  have hlt := (Array.getElem?_eq_some_iff.1 hk).1
  obtain ⟨F, hFd⟩ : ∃ F : Nat → Prop, F = fun b => F0 b ∧ b < w.heap.size := ⟨_, rfl⟩
  have h : BytesAt F w (.slice a n c) bs := by rw [hFd]; exact h0.carry (fun b hb hF => ⟨hF, hb⟩) (fun _ _ _ => rfl)
  have hF : ¬ F rb := by rw [hFd]; exact fun h => hF0 h.1
  have hFw : ∀ b, w.heap.size ≤ b → ¬ F b := fun b hb hf => by rw [hFd] at hf; have := hf.2; omega
  have hnl : n = bs.length := by
    obtain ⟨a', c', hv, h1, -⟩ := h
    simp only [Value.slice.injEq] at hv
    simpa using hv.2.1
  have hk0 : (w.alloc (.cells #[.bool false, .slice none 0 0, .slice none 0 0] 65)).heap[rb]? = some (.cells #[.slice a n c, .int .i64 0] 117 (0, 0)) := by rw [Below.heap_alloc _ _ _ hlt]; exact hk
  have hbs0 : BytesAt F (w.alloc (.cells #[.bool false, .slice none 0 0, .slice none 0 0] 65)) (.slice a n c) bs := BytesAt.below h (Bel.alloc (Bel.refl w) _)
  have HK0 := Lib.hid hk0
  have HBS0 := Lib.hid hbs0
  have HFD := Lib.hid hFd
  have HFW := Lib.hid hFw
  have HIT := Lib.hid hit0
  obtain ⟨i0, hi, hz0, hz1, hz2⟩ := info_parts infoItem
  have hsl := readSize_le m bs
  obtain ⟨e1, k, t, hrs⟩ : ∃ e1 k t, readSize m bs = (e1, k, t) := ⟨_, _, _, rfl⟩
  rw [hrs] at hsl ⊢
  have HRS := Lib.hid hrs
  have hk24 : k ≤ 16777215 := hsl.1
  have htl : t.length ≤ 140737488351232 := by have h2 : t.length ≤ bs.length := hsl.2; omega
  clear hk hk0 hbs0 h h0 hFd hFw hnl hit0 hrs hsl
  go_enter Try.func109, Try.ntmps109
  go_wp2_with fail
  refine (size_any F _ rb a n c m bs HBS0.out HK0.out hF (by omega) hm).mono ?_
  rintro e w2 ⟨s1, s2, a3, n3, c3, s3, g1, g2⟩
  rw [HRS.out] at s1 s2 s3 g1
  have hb2 : w2.heap[w.heap.size]? = some (.cells #[.bool false, .slice none 0 0, .slice none 0 0] 65 (0, 0)) := by
    rw [g2.block _ (by simp) (by omega)]; exact heap_alloc_new w _
  have hsb2 := (Array.getElem?_eq_some_iff.1 hb2).1
  have S3 := Lib.hid s3
  have G1 := Lib.hid g1
  have G2 := Lib.hid (((Chg.refl (fun k => k = rb) w).alloc _).trans g2 (fun _ _ x => x))
  have HB2 := Lib.hid hb2
  obtain ⟨q0, q1, q2⟩ := cells3 hb2
  have f0 := frozen_of_row w2 w.heap.size 0 _ _ hb2
  have f1 := frozen_of_row w2 w.heap.size 1 _ _ hb2
  have f2 := frozen_of_row w2 w.heap.size 2 _ _ hb2
  clear hb2 g1 g2 s3
  by_cases he1 : e1 = 0
  · subst he1
    obtain rfl := s1 rfl
    have s3 := S3.out rfl
    have hn3 : n3 = t.length := by
      obtain ⟨a', c', hv, h1, -⟩ := s3
      simp only [Value.slice.injEq] at hv
      exact hv.2.1
    have hn3b : n3 ≤ 140737488351232 := by omega
    have HN3 := Lib.hid hn3
    have HS3 := Lib.hid s3
    clear s1 s2 s3 hn3
    go_wp2_with fail
    by_cases hkn : n3 < k
    · have HR2 : Hid (rdList (rdItem f) (0, k, t) = (22, .text [], [])) := by
        show _ = _
        rw [rdList, if_neg (by simp), if_pos (by have := HN3.out; simp only; omega)]
      refine (take_no _ rb a3 n3 c3 _ G1.out (by omega)).mono ?_
      rintro e w3 ⟨rfl, g3, g4⟩
      have hb3 := (g4.block _ hsb2 (by omega)).trans HB2.out
      have G3 := Lib.hid g3
      have G4 := Lib.hid (G2.out.trans g4 (fun _ _ x => x))
      have HB3 := Lib.hid hb3
      clear g3 g4 q0 q1 q2 f0 f1 f2
      obtain ⟨q0, q1, q2⟩ := cells3 hb3
      have f0 := frozen_of_row w3 w.heap.size 0 _ _ hb3
      have f1 := frozen_of_row w3 w.heap.size 1 _ _ hb3
      have f2 := frozen_of_row w3 w.heap.size 2 _ _ hb3
      clear hb3
      go_wp2_with fail
      have hbx := box3 HB3.out (.bool false) (.slice none 0 0) (.slice none 0 0)
      obtain ⟨W, hW⟩ : ∃ W, W = ((w3.setCell ⟨w.heap.size, 0, none⟩ (.bool false)).setCell ⟨w.heap.size, 1, none⟩ (.slice none 0 0)).setCell ⟨w.heap.size, 2, none⟩ (.slice none 0 0) := ⟨_, rfl⟩
      rw [← hW] at hbx ⊢
      obtain ⟨r0, r1, r2⟩ := cells3 hbx.at_
      refine bodyPost_ret (v := .agg #[.bool false, .slice none 0 0, .slice none 0 0]) (by simp [results, Try.results109, go_sem, r0, r1, r2]) rfl ?_
      rw [HR2.out]
      exact Itemd.done (F := F0) hlt (fun h => by cases h) G3.out G4.out hbx
    · obtain ⟨L, hL⟩ : ∃ L, L = t.take k := ⟨_, rfl⟩
      obtain ⟨T, hT⟩ : ∃ T, T = t.drop k := ⟨_, rfl⟩
      have HR2 : Hid (rdList (rdItem f) (0, k, t) = if (rdAll (rdItem f) k L).1 ≠ 0 then ((rdAll (rdItem f) k L).1, .text [], []) else (0, .list (rdAll (rdItem f) k L).2, T)) := by
        show _ = _
        rw [rdList, if_neg (by simp), if_neg (by have := HN3.out; simp only; omega), hL, hT]
      have hLl : L.length = k := by rw [hL, List.length_take]; have := HN3.out; omega
      refine (take_ok F _ rb a3 n3 c3 k t HS3.out G1.out hF (by omega) (by omega)).mono ?_
      rintro e w3 ⟨b1, d1, b2, m2, d2, rfl, hu, hs, g3, g4⟩
      rw [← hL] at hu
      rw [← hT] at hs
      have hb3 := (g4.block _ hsb2 (by omega)).trans HB2.out
      have hsb3 := (Array.getElem?_eq_some_iff.1 hb3).1
      have hrb3 := (Array.getElem?_eq_some_iff.1 g3).1
      have G3 := Lib.hid g3
      have G4 := Lib.hid (G2.out.trans g4 (fun _ _ x => x))
      have HB3 := Lib.hid hb3
      have HS3' := Lib.hid hs
      have HU3 := Lib.hid hu
      have HLL := Lib.hid hLl
      clear g3 g4 q0 q1 q2 f0 f1 f2 hs hu hb3 hL hT hLl
      go_wp2_with fail
      have hZ : LsSt F f k L w3 ((w3.alloc (.cells #[.slice b1 k d1, .int .i64 0] 117)).alloc (.cells #[.bool true, .slice none 0 0, .slice none 0 0] 65)) w3.heap.size [] 0 L b1 k d1 none 0 := by
        have hlL := HLL.out
        refine ⟨?_, ?_, OwnList.nil, Below.alloc (Below.alloc (Below.refl _ _) (Nat.le_refl _) _) (by simp) _, ListSt.start f k L (by omega), fun _ => ?_, by simp; omega⟩
        · exact (Below.heap_alloc _ _ _ (by simp)).trans (heap_alloc_new w3 _)
        · have := heap_alloc_new (w3.alloc (.cells #[.slice b1 k d1, .int .i64 0] 117)) (.cells #[.bool true, .slice none 0 0, .slice none 0 0] 65)
          simpa using this
        · exact BytesAt.below HU3.out (Bel.alloc (Bel.alloc (Bel.refl w3) _) _)
      have HZ := Lib.hid hZ
      clear hZ
      go_loopg [] k (fun gk wr => ∃ (os : List (Option It)) (e : Nat) (rest : List UInt8) (ar : Option Addr) (nr cr : Nat) (as_ : Option Addr) (cs : Nat), Hid (LsSt F f k L w3 wr w3.heap.size os e rest ar nr cr as_ cs) ∧ Hid (rest.length ≤ gk))
      case atStart => exact ⟨_, _, _, _, _, _, _, _, HZ, Lib.hid (by have := HLL.out; omega)⟩
      case round =>
        obtain ⟨os, e, rest, ar, nr, cr, as_, cs, HS, HG⟩ := hrel
        obtain ⟨p0, p1, p2⟩ := cells3 HS.out.ls
        have fq := frozen_of_row wr (w3.heap.size + 1) 2 _ _ HS.out.ls
        have hbx0 := (HS.out.bel.block _ hsb3).trans HB3.out
        obtain ⟨r0, r1, r2⟩ := cells3 hbx0
        have f0 := frozen_of_row wr w.heap.size 0 _ _ hbx0
        have f1 := frozen_of_row wr w.heap.size 1 _ _ hbx0
        have f2 := frozen_of_row wr w.heap.size 2 _ _ hbx0
        have HBX := Lib.hid hbx0
        have G3r := Lib.hid ((HS.out.bel.block _ hrb3).trans G3.out)
        have G4r := Lib.hid (G4.out.trans (Chg.ofBelow HS.out.bel (fun _ => False)) (fun _ _ h => h.elim))
        clear hbx0
        by_cases he : e = 0
        · subst he
          have hnr := HS.out.nr rfl
          have hrd : wr.heap[w3.heap.size]? = some (.cells #[.slice ar nr cr, .int .i64 0] 117 (0, 0)) := HS.out.rd
          obtain ⟨q0, q1⟩ := cells2 hrd
          have HRD := Lib.hid hrd
          clear hrd
          rcases rest with - | ⟨x, t'⟩
          · simp only [List.length_nil] at hnr
            subst hnr
            go_wp2_with fail
            have hbx := box3 HBX.out (.bool true) (.slice none 0 0) (.slice as_ os.length cs)
            obtain ⟨W, hW⟩ : ∃ W, W = ((wr.setCell ⟨w.heap.size, 0, none⟩ (.bool true)).setCell ⟨w.heap.size, 1, none⟩ (.slice none 0 0)).setCell ⟨w.heap.size, 2, none⟩ (.slice as_ os.length cs) := ⟨_, rfl⟩
            rw [← hW] at hbx ⊢
            clear r0 r1 r2
            obtain ⟨r0, r1, r2⟩ := cells3 hbx.at_
            refine bodyPost_ret (v := .agg #[.bool true, .slice none 0 0, .slice as_ os.length cs]) (by simp [results, Try.results109, go_sem, r0, r1, r2]) rfl ?_
            obtain ⟨d0, d1'⟩ := HS.out.done
            rw [HR2.out, if_neg (by simp [d0])]
            refine Itemd.done (F := F0) hlt (fun _ => ⟨d1'.carry (fun b _ hb => by have : w3.heap.size + 1 < b := hb; show w.heap.size < b; omega) (fun _ _ _ => rfl), ?_⟩) G3r.out G4r.out hbx
            have := BytesAt.below HS3'.out HS.out.bel
            rw [HFD.out] at this
            exact this
          · have hnr0 : 0 < nr := by rw [hnr]; simp
            have hlen := HS.out.len
            simp only [List.length_cons] at hlen hnr
            have hnrb : nr ≤ 140737488351232 := by omega
            have HL := Lib.hid hlen
            have HNR := Lib.hid hnr
            have HBY := Lib.hid (SliceAt.drew' (HS.out.bytes rfl) (by decide))
            have hdw : IntKind.i64.wrap ((deep:Int) + 1) = ((deep + 1 : Nat) : Int) := by rw [IntKind.wrap_i64]; omega
            have HDW := Lib.hid hdw
            have hle : (os.length + 1) * 56 ≤ 140737488355328 := by omega
            clear hlen hnr hdw
            go_wp2_with fail
            go_region_law (first | (go_simp; go_at_call 95; rw [HDW.out]; refine (HIT.out F _ w3.heap.size ar nr cr (deep + 1) (x :: t') HBY.out HRD.out (HFW.out _ (by omega)) hnrb (by omega)).mono ?_; rintro e5 w5 ⟨l5, i1, y1, z1, i3, y3, z3, i2, y2, z2, rfl, k1, k2, k3⟩; obtain ⟨j1, j2, o, R, j3, j4, j5, j6⟩ := HS.out.push (fun b hb => HFW.out b (by omega)) k1 k2 k3; have HR1 := Lib.hid j3; have HRO := Lib.hid j4; have HRS := Lib.hid j5; have HRN := Lib.hid j6; obtain ⟨s0, s1, s2⟩ := cells3 j2; obtain ⟨s3, s4, s5⟩ := cells3 ((Below.heap_alloc w5 (.cells #[.bool l5, .slice i1 y1 z1, .slice i3 y3 z3] 65) _ (by omega)).trans j2); clear k1 k2 k3 j2 j3 j4 j5 j6) | (refine step_append_at rfl (.tmp 42) (.tmp 46) 63 rfl (w3.heap.size + 2) 65 i0 (.agg #[.bool false, .slice none 0 0, .slice none 0 0]) 3 56 underlyingItems hi hz0 hz1 hz2 rfl (by decide) (by decide) HR1.out (.slice as_ os.length cs) os (by simp [Act.eval]) HRO.out (.slice (some ⟨w5.heap.size, 0, none⟩) 1 1) [o] (fun _ => True) (by simp [Act.eval]) HRS.out Nat.one_pos hle (by simp; omega) (os.length + 1) rfl ?_; intro g cap W2 ho hg hm; obtain ⟨n1, n2⟩ := HRN.out g cap W2 ho hg hm; obtain ⟨m0, m1, m2'⟩ := cells3 n1; have fr := frozen_of_row W2 (w3.heap.size + 1) 2 _ _ n1; have HN := Lib.hid n2; clear n1 n2 ho hg hm))
            all_goals
              go_wp2_with fail
              have hlt' : (rdItem f (x :: t')).2.2.length ≤ gk - 1 ∧ gk - 1 < gk := by
                have h1 := rdItem_rest f x t'
                have h2 := HG.out
                simp only [List.length_cons] at h2
                omega
              have HLT := Lib.hid hlt'
              go_roundg (gk - 1)
              case rel => exact ⟨_, _, _, _, _, _, _, _, HN, Lib.hid HLT.out.1⟩
              case measure => exact HLT.out.2
        · obtain ⟨q0, q1⟩ := cells2 HS.out.rd
          have HE := Lib.hid he
          have ht : (((e:Nat):Int) == 0) = false := by simp; omega
          have ht2 : (((e:Nat):Int) != 0) = true := by simp; omega
          have hst := HS.out.st.2 he
          have HST := Lib.hid hst
          clear hst he
          rcases Nat.eq_zero_or_pos nr with hz | hz
          all_goals
            try subst hz
            go_wp2_with fail
            refine (int_fail _ rb b2 m2 d2 _ e rfl G3r.out).mono ?_
            rintro e5 w5 ⟨rfl, k1, k2⟩
            have hb5 := (k2.block _ (Nat.lt_of_lt_of_le hsb3 HS.out.bel.size) (by omega)).trans HBX.out
            have K1 := Lib.hid k1
            have K2 := Lib.hid (G4r.out.trans k2 (fun _ _ x => x))
            have HB5 := Lib.hid hb5
            clear k1 k2 r0 r1 r2 f0 f1 f2
            obtain ⟨r0, r1, r2⟩ := cells3 hb5
            have f0 := frozen_of_row w5 w.heap.size 0 _ _ hb5
            have f1 := frozen_of_row w5 w.heap.size 1 _ _ hb5
            have f2 := frozen_of_row w5 w.heap.size 2 _ _ hb5
            clear hb5
            go_wp2_with fail
            have hbx := box3 HB5.out (.bool false) (.slice none 0 0) (.slice none 0 0)
            obtain ⟨W, hW⟩ : ∃ W, W = ((w5.setCell ⟨w.heap.size, 0, none⟩ (.bool false)).setCell ⟨w.heap.size, 1, none⟩ (.slice none 0 0)).setCell ⟨w.heap.size, 2, none⟩ (.slice none 0 0) := ⟨_, rfl⟩
            rw [← hW] at hbx ⊢
            clear r0 r1 r2
            obtain ⟨r0, r1, r2⟩ := cells3 hbx.at_
            refine bodyPost_ret (v := .agg #[.bool false, .slice none 0 0, .slice none 0 0]) (by simp [results, Try.results109, go_sem, r0, r1, r2]) rfl ?_
            rw [HR2.out, HST.out, if_pos HE.out]
            exact Itemd.done (F := F0) hlt (fun h => absurd h HE.out) K1.out K2.out hbx
  · obtain rfl := s2 he1
    have HR2 : Hid (rdList (rdItem f) (e1, k, t) = (e1, .text [], [])) := by
      show _ = _
      rw [rdList, if_pos he1]
    clear s1 s2
    go_wp2_with fail
    have hbx := box3 HB2.out (.bool false) (.slice none 0 0) (.slice none 0 0)
    obtain ⟨W, hW⟩ : ∃ W, W = ((w2.setCell ⟨w.heap.size, 0, none⟩ (.bool false)).setCell ⟨w.heap.size, 1, none⟩ (.slice none 0 0)).setCell ⟨w.heap.size, 2, none⟩ (.slice none 0 0) := ⟨_, rfl⟩
    rw [← hW] at hbx ⊢
    obtain ⟨r0, r1, r2⟩ := cells3 hbx.at_
    refine bodyPost_ret (v := .agg #[.bool false, .slice none 0 0, .slice none 0 0]) (by simp [results, Try.results109, go_sem, r0, r1, r2]) rfl ?_
    rw [HR2.out]
    exact Itemd.done (F := F0) hlt (fun h => absurd h he1) G1.out G2.out hbx
end Go.Proofs.Ytndkkgkcbbmnpaa
namespace Go.Pg
theorem err3 {c1 c2 c3 : Prop} [Decidable c1] [Decidable c2] [Decidable c3] {e1 e2 e3 : Nat} {x : It} {l : List UInt8}
    (h : (if c1 then (e1, It.text [], ([] : List UInt8)) else if c2 then (e2, It.text [], []) else if c3 then (e3, It.text [], []) else (0, x, l)).1 ≠ 0) :
    (if c1 then (e1, It.text [], ([] : List UInt8)) else if c2 then (e2, It.text [], []) else if c3 then (e3, It.text [], []) else (0, x, l)).2.1 = .text [] := by
  by_cases h1 : c1
  · rw [if_pos h1]
  · rw [if_neg h1] at h ⊢
    by_cases h2 : c2
    · rw [if_pos h2]
    · rw [if_neg h2] at h ⊢
      by_cases h3 : c3
      · rw [if_pos h3]
      · rw [if_neg h3] at h; exact (h rfl).elim
theorem rdText_err (r : Nat × Nat × List UInt8) (h : (rdText r).1 ≠ 0) : (rdText r).2.1 = .text [] := by
  unfold rdText at h ⊢; exact err3 h
theorem rdList_err (rd : List UInt8 → Nat × It × List UInt8) (r : Nat × Nat × List UInt8) (h : (rdList rd r).1 ≠ 0) : (rdList rd r).2.1 = .text [] := by
  unfold rdList at h ⊢; exact err3 h
theorem rdItem_err (f : Nat) (bs : List UInt8) (h : (rdItem f bs).1 ≠ 0) : (rdItem f bs).2.1 = .text [] := by
  cases bs with
  | nil => cases f <;> rfl
  | cons c t =>
    by_cases h1 : c.toNat < 128
    · have : rdItem f (c :: t) = (0, .text [c], t) := by unfold rdItem; rw [if_pos h1]
      rw [this] at h; exact (h rfl).elim
    · by_cases h2 : c.toNat < 192
      · have : rdItem f (c :: t) = rdText (readSize (c.toNat - 128) t) := by unfold rdItem; rw [if_neg h1, if_pos h2]
        rw [this] at h ⊢; exact rdText_err _ h
      · cases f with
        | zero =>
          have : rdItem 0 (c :: t) = (21, .text [], []) := by unfold rdItem; rw [if_neg h1, if_neg h2]
          rw [this]
        | succ f =>
          have : rdItem (f + 1) (c :: t) = rdList (rdItem f) (readSize (c.toNat - 192) t) := by rw [rdItem, if_neg h1, if_neg h2]
          rw [this] at h ⊢; exact rdList_err _ _ h
end Go.Pg
namespace Go.Proofs.Ytndkkgkcbbmnpaa
open Go.RowKit Go.Pg

theorem ritem_of (f : Nat) (hl : ∀ f', f = f' + 1 → RListC f') : RItemC f := by
  intro F w rb a n c deep bs h hk hF hn hd
  cases bs with
  | nil =>
    obtain ⟨a', c', hv, h1, -⟩ := h
    simp only [Value.slice.injEq, List.length_nil] at hv
    obtain ⟨-, rfl, -⟩ := hv
    exact item_none F f w rb a c deep hk
  | cons x t => exact item_some F f hl w rb a n c deep x t h hk hF hn hd
theorem ritem_any : ∀ f, RItemC f
  | 0 => ritem_of 0 (fun f' h => by omega)
  | f + 1 => ritem_of (f + 1) (fun f' h => by
      have : f = f' := by omega
      subst this
      exact list_step f (ritem_any f))

theorem new_at {W : World} {n : Nat} (h : W.heap.size = n) (cs : Array Value) (t : TypeId) (i : Nat) : (W.alloc (.cells cs t)).drew.cell? ⟨n, i, none⟩ = cs[i]? := by
  subst h
  show (W.alloc (.cells cs t)).cell? _ = _
  simp
/-- an item with its number of bytes and a fault -/
def Firstd (w : World) (n : Nat) (r : Nat × It × List UInt8) (e : Ending) (w' : World) : Prop :=
  ∃ l a1 n1 c1 a3 n3 c3 m, e = .returned (.tuple #[.agg #[.bool l, .slice a1 n1 c1, .slice a3 n3 c3], .int .i64 ((m : Nat) : Int), .int .i64 r.1]) ∧
    (r.1 = 0 → m + r.2.2.length = n) ∧ (r.1 ≠ 0 → m = 0) ∧ ItemAt (fun b => w.heap.size ≤ b) w' 9 [.bool l, .slice a1 n1 c1, .slice a3 n3 c3] r.2.1 ∧ Below w.heap.size w w'

set_option maxRecDepth 100000 in
set_option maxHeartbeats 2000000 in
theorem first_any (F0 : Nat → Prop) (w : World) (a : Option Addr) (n c : Nat) (bs : List UInt8) (h0 : BytesAt F0 w (.slice a n c) bs) (hn : n ≤ 140737488351232) :
    Calls Try.prog 77 #[.slice a n c] w (Firstd w n (rdItem 8 bs)) := by
  have h : BytesAt (fun b => b < w.heap.size) w (.slice a n c) bs := h0.carry (fun b hb _ => hb) (fun _ _ _ => rfl)
  obtain ⟨e1, y, t, hr⟩ : ∃ e1 y t, rdItem 8 bs = (e1, y, t) := ⟨_, _, _, rfl⟩
  rw [hr]
  have hk1 : ((w.alloc (.cells #[.bool false, .slice none 0 0, .slice none 0 0] 65)).alloc (.cells #[.slice a n c, .int .i64 0] 117)).heap[w.heap.size + 1]? = some (.cells #[.slice a n c, .int .i64 0] 117 (0, 0)) := by
    have := heap_alloc_new (w.alloc (.cells #[.bool false, .slice none 0 0, .slice none 0 0] 65)) (.cells #[.slice a n c, .int .i64 0] 117)
    simpa using this
  have hk0 : ((w.alloc (.cells #[.bool false, .slice none 0 0, .slice none 0 0] 65)).alloc (.cells #[.slice a n c, .int .i64 0] 117)).heap[w.heap.size]? = some (.cells #[.bool false, .slice none 0 0, .slice none 0 0] 65 (0, 0)) :=
    (Below.heap_alloc _ _ _ (by simp)).trans (heap_alloc_new w _)
  have hby := BytesAt.below h (Bel.alloc (Bel.alloc (Bel.refl w) (.cells #[.bool false, .slice none 0 0, .slice none 0 0] 65)) (.cells #[.slice a n c, .int .i64 0] 117))
  have hnl : n = bs.length := by
    obtain ⟨a', c', hv, h1, -⟩ := h
    simp only [Value.slice.injEq] at hv
    exact hv.2.1
  have hcall := ritem_any 8 (fun b => b < w.heap.size) _ (w.heap.size + 1) a n c 0 bs hby hk1 (by omega) hn rfl
  rw [hr] at hcall
  have HC := Lib.hid hcall
  have HK0 := Lib.hid hk0
  have HNL := Lib.hid hnl
  have HR := Lib.hid hr
  clear h0 hr h hk1 hk0 hby hnl hcall
  go_enter Try.func77, Try.ntmps77
  go_wp2_with fail
  refine HC.out.mono ?_
  rintro e5 w5 ⟨l5, i1, y1, z1, i3, y3, z3, i2, y2, z2, rfl, k1, k2, k3⟩
  have hsz := k3.size
  simp only [World.size_alloc] at hsz
  have h1 : w.heap.size + 1 < w5.heap.size := by omega
  have h0 : w.heap.size < w5.heap.size := by omega
  have hb5 := (k3.block w.heap.size (by simp; omega) (by omega)).trans HK0.out
  have HB5 := Lib.hid hb5
  have K1 := Lib.hid k1
  have HBL := Lib.hid (((Bel.alloc (Bel.alloc (Bel.refl w) (.cells #[.bool false, .slice none 0 0, .slice none 0 0] 65)) (.cells #[.slice a n c, .int .i64 0] 117))).trans (k3.toBelowAt (B := w.heap.size) (by simp; omega) (fun k hk e => by omega)))
  obtain ⟨s0, s1⟩ := cells2 k2
  obtain ⟨q0, q1, q2⟩ := cells3 hb5
  have f0 := frozen_of_row w5 w.heap.size 0 _ _ hb5
  have f1 := frozen_of_row w5 w.heap.size 1 _ _ hb5
  have f2 := frozen_of_row w5 w.heap.size 2 _ _ hb5
  have HLE : Hid (e1 = 0 → y2 = t.length ∧ t.length ≤ n) := Lib.hid fun h => by
    obtain ⟨a', c', hv, h1, -⟩ := (k1 h).2
    simp only [Value.slice.injEq] at hv
    refine ⟨hv.2.1, ?_⟩
    have h2 := HNL.out
    cases bs with
    | nil => have h3 : t = [] := by have := HR.out; have h4 : rdItem 8 [] = (22, .text [], []) := rfl; rw [h4] at this; simp_all
             rw [h3]; simp
    | cons x bs' => have h3 := rdItem_rest 8 x bs'; rw [HR.out] at h3; simp at h2 h3; omega
  clear hb5 k1 k2 k3 hsz
  by_cases he : e1 = 0
  · subst he
    have hy2 := (HLE.out rfl).1
    have hyn := (HLE.out rfl).2
    rw [← hy2] at hyn
    have HY := Lib.hid hy2
    have s1' : w5.cell? ⟨w.heap.size + 1, 1, none⟩ = some (.int .i64 0) := s1
    clear s1 hy2
    go_wp2_with fail
    have hx0 : ((((w5.setCell ⟨w.heap.size, 0, none⟩ (Value.bool l5)).setCell ⟨w.heap.size, 1, none⟩ (Value.slice i1 y1 z1)).setCell ⟨w.heap.size, 2, none⟩ (Value.slice i3 y3 z3)).alloc (Obj.cells #[Value.bool l5, Value.slice i1 y1 z1, Value.slice i3 y3 z3] 65)).drew.cell? ⟨w5.heap.size, 0, none⟩ = some (Value.bool l5) := new_at (by simp [World.setCell]) _ _ _
    have hx1 : ((((w5.setCell ⟨w.heap.size, 0, none⟩ (Value.bool l5)).setCell ⟨w.heap.size, 1, none⟩ (Value.slice i1 y1 z1)).setCell ⟨w.heap.size, 2, none⟩ (Value.slice i3 y3 z3)).alloc (Obj.cells #[Value.bool l5, Value.slice i1 y1 z1, Value.slice i3 y3 z3] 65)).drew.cell? ⟨w5.heap.size, 1, none⟩ = some (Value.slice i1 y1 z1) := new_at (by simp [World.setCell]) _ _ _
    have hx2 : ((((w5.setCell ⟨w.heap.size, 0, none⟩ (Value.bool l5)).setCell ⟨w.heap.size, 1, none⟩ (Value.slice i1 y1 z1)).setCell ⟨w.heap.size, 2, none⟩ (Value.slice i3 y3 z3)).alloc (Obj.cells #[Value.bool l5, Value.slice i1 y1 z1, Value.slice i3 y3 z3] 65)).drew.cell? ⟨w5.heap.size, 2, none⟩ = some (Value.slice i3 y3 z3) := new_at (by simp [World.setCell]) _ _ _
    go_region_held3 (fun w' => w'.cell? ⟨w.heap.size + 1, 0, none⟩ = some (.slice i2 y2 z2) ∧ w'.cell? ⟨w5.heap.size, 0, none⟩ = some (.bool l5) ∧ w'.cell? ⟨w5.heap.size, 1, none⟩ = some (.slice i1 y1 z1) ∧ w'.cell? ⟨w5.heap.size, 2, none⟩ = some (.slice i3 y3 z3)) (go_keep) (fail)
    clear hx0 hx1 hx2
    go_wp2_with fail
    have hbx := box3 HB5.out (.bool l5) (.slice i1 y1 z1) (.slice i3 y3 z3)
    obtain ⟨W, hW⟩ : ∃ W, W = ((w5.setCell ⟨w.heap.size, 0, none⟩ (.bool l5)).setCell ⟨w.heap.size, 1, none⟩ (.slice i1 y1 z1)).setCell ⟨w.heap.size, 2, none⟩ (.slice i3 y3 z3) := ⟨_, rfl⟩
    rw [← hW] at hbx ⊢
    obtain ⟨r0, r1, r2⟩ := cells3 hbx.at_
    have hlw : w.heap.size < W.heap.size := by rw [hbx.size]; exact h0
    have hnm : IntKind.i64.wrap ((n : Int) - (y2 : Int)) = ((n - y2 : Nat) : Int) := by rw [IntKind.wrap_i64]; omega
    refine bodyPost_ret (v := .tuple #[.agg #[.bool l5, .slice i1 y1 z1, .slice i3 y3 z3], .int .i64 ((n - y2 : Nat) : Int), .int .i64 0]) (by simp [results, Try.results77, go_sem, r0, r1, r2, hlw, hnm]) rfl ?_
    refine ⟨l5, i1, y1, z1, i3, y3, z3, n - y2, rfl, fun _ => by have := HY.out; show n - y2 + t.length = n; omega, fun h => absurd rfl h, ?_, ?_⟩
    · refine (K1.out trivial).1.carry (fun b _ hb => Nat.le_trans (by simp; omega) hb) (fun b hb hlt => ?_)
      have hb' : w.heap.size + 1 ≤ b := Nat.le_trans (by simp) hb
      show (W.alloc _).heap[b]? = _
      rw [Below.heap_alloc _ _ _ (by rw [hbx.size]; exact hlt), hbx.other _ (by omega)]
    · exact ((HBL.out.trans (hbx.chg.toBelowAt (by omega) (fun k hk e => by omega))).alloc (by omega) _).drew
  · have HE := Lib.hid he
    have ht : (((e1:Nat):Int) != 0) = true := by simp; omega
    clear he
    go_wp2_with fail
    go_region_held3 (fun w' => w'.cell? ⟨w.heap.size + 1, 1, none⟩ = some (.int .i64 (e1 : Int))) (go_keep) (fail)
    go_wp2_with fail
    have hbx := box3 HB5.out (.bool false) (.slice none 0 0) (.slice none 0 0)
    obtain ⟨W, hW⟩ : ∃ W, W = ((w5.setCell ⟨w.heap.size, 0, none⟩ (.bool false)).setCell ⟨w.heap.size, 1, none⟩ (.slice none 0 0)).setCell ⟨w.heap.size, 2, none⟩ (.slice none 0 0) := ⟨_, rfl⟩
    rw [← hW] at hbx ⊢
    obtain ⟨r0, r1, r2⟩ := cells3 hbx.at_
    have hlw : w.heap.size < W.heap.size := by rw [hbx.size]; exact h0
    refine bodyPost_ret (v := .tuple #[.agg #[.bool false, .slice none 0 0, .slice none 0 0], .int .i64 ((0 : Nat) : Int), .int .i64 e1]) (by simp [results, Try.results77, go_sem, r0, r1, r2, hlw]) rfl ?_
    exact ⟨false, none, 0, 0, none, 0, 0, 0, rfl, fun h => absurd h HE.out, fun _ => rfl, by
      have hy : y = .text [] := by have := rdItem_err 8 bs; rw [HR.out] at this; exact this HE.out
      rw [hy]; exact ⟨_, _, rfl, BytesAt.nil _ _, SliceAt.nil _ _ _ _⟩, ((HBL.out.trans (hbx.chg.toBelowAt (by omega) (fun k hk e => by omega))).alloc (by omega) _).drew⟩
end Go.Proofs.Ytndkkgkcbbmnpaa
namespace Go.Proofs.Ytndkkgkcbbmnpaa
open Go.RowKit Go.Pg

/-- an item, or an empty one and a fault -/
def Decd (F : World → Nat → Prop) (w : World) (r : Nat × It) (e : Ending) (w' : World) : Prop :=
  ∃ l a1 n1 c1 a3 n3 c3, e = .returned (.tuple #[.agg #[.bool l, .slice a1 n1 c1, .slice a3 n3 c3], .int .i64 r.1]) ∧
    ItemAt (F w) w' 9 [.bool l, .slice a1 n1 c1, .slice a3 n3 c3] r.2 ∧ Below w.heap.size w w'
def fresh (w : World) (b : Nat) : Prop := w.heap.size ≤ b

set_option maxRecDepth 100000 in
set_option maxHeartbeats 2000000 in
theorem decode_any (F0 : Nat → Prop) (w : World) (a : Option Addr) (n c : Nat) (bs : List UInt8) (h0 : BytesAt F0 w (.slice a n c) bs) (hn : n ≤ 140737488351232) :
    Calls Try.prog 47 #[.slice a n c] w (Decd fresh w (rdWhole bs)) := by
  have hnl : n = bs.length := by
    obtain ⟨a', c', hv, h1, -⟩ := h0
    simp only [Value.slice.injEq] at hv
    exact hv.2.1
  obtain ⟨e1, y, t, hr⟩ : ∃ e1 y t, rdItem 8 bs = (e1, y, t) := ⟨_, _, _, rfl⟩
  have hrw : rdWhole bs = if e1 ≠ 0 then (e1, .text []) else if t ≠ [] then (24, .text []) else (0, y) := by unfold rdWhole; rw [hr]
  have herr := rdItem_err 8 bs
  rw [hr] at herr
  have hcall := first_any F0 (w.alloc (.cells #[.bool false, .slice none 0 0, .slice none 0 0] 65)) a n c bs (BytesAt.below h0 (Bel.alloc (Bel.refl w) _)) hn
  rw [hr] at hcall
  have HC := Lib.hid hcall
  have HRW := Lib.hid hrw
  have HERR := Lib.hid herr
  have HNL := Lib.hid hnl
  clear h0 hnl hr hrw hcall herr
  go_enter Try.func47, Try.ntmps47
  go_wp2_with fail
  refine HC.out.mono ?_
  rintro e5 w5 ⟨l5, i1, y1, z1, i3, y3, z3, m, rfl, k1, k2, k3, k4⟩
  have hsz := k4.size
  simp only [World.size_alloc] at hsz
  have h0 : w.heap.size < w5.heap.size := by omega
  have hb5 := (k4.block w.heap.size (by simp)).trans (heap_alloc_new w _)
  have HB5 := Lib.hid hb5
  have K1 := Lib.hid k1
  have K2 := Lib.hid k2
  have K3 := Lib.hid k3
  have HBL := Lib.hid ((Bel.alloc (Bel.refl w) (.cells #[.bool false, .slice none 0 0, .slice none 0 0] 65)).trans (k4.mono (by simp)))
  obtain ⟨q0, q1, q2⟩ := cells3 hb5
  have f0 := frozen_of_row w5 w.heap.size 0 _ _ hb5
  have f1 := frozen_of_row w5 w.heap.size 1 _ _ hb5
  have f2 := frozen_of_row w5 w.heap.size 2 _ _ hb5
  clear hb5 k1 k2 k3 k4 hsz
  by_cases he : e1 = 0
  · subst he
    have hmn : m + t.length = n := K1.out rfl
    by_cases hlt : m < n
    · clear hmn
      go_wp2_with fail
      have hbx := box3 HB5.out (.bool false) (.slice none 0 0) (.slice none 0 0)
      obtain ⟨W, hW⟩ : ∃ W, W = ((w5.setCell ⟨w.heap.size, 0, none⟩ (.bool false)).setCell ⟨w.heap.size, 1, none⟩ (.slice none 0 0)).setCell ⟨w.heap.size, 2, none⟩ (.slice none 0 0) := ⟨_, rfl⟩
      rw [← hW] at hbx ⊢
      obtain ⟨r0, r1, r2⟩ := cells3 hbx.at_
      have hlw : w.heap.size < W.heap.size := by rw [hbx.size]; exact h0
      refine bodyPost_ret (v := .tuple #[.agg #[.bool false, .slice none 0 0, .slice none 0 0], .int .i64 ((24 : Nat) : Int)]) (by simp [results, Try.results47, go_sem, r0, r1, r2, hlw]) rfl ?_
      have ht : t ≠ [] := by intro h; have := K1.out trivial; rw [h] at this; simp at this; omega
      rw [HRW.out, if_neg (by simp), if_pos ht]
      exact ⟨false, none, 0, 0, none, 0, 0, rfl, ⟨_, _, rfl, BytesAt.nil _ _, SliceAt.nil _ _ _ _⟩, ((HBL.out.trans (hbx.chg.toBelowAt (by omega) (fun k hk e => by omega))).alloc (by omega) _)⟩
    · have ht : t = [] := List.eq_nil_of_length_eq_zero (by omega)
      have HT := Lib.hid ht
      clear ht hmn
      go_wp2_with fail
      have hbx := box3 HB5.out (.bool l5) (.slice i1 y1 z1) (.slice i3 y3 z3)
      obtain ⟨W, hW⟩ : ∃ W, W = ((w5.setCell ⟨w.heap.size, 0, none⟩ (.bool l5)).setCell ⟨w.heap.size, 1, none⟩ (.slice i1 y1 z1)).setCell ⟨w.heap.size, 2, none⟩ (.slice i3 y3 z3) := ⟨_, rfl⟩
      rw [← hW] at hbx ⊢
      obtain ⟨r0, r1, r2⟩ := cells3 hbx.at_
      have hlw : w.heap.size < W.heap.size := by rw [hbx.size]; exact h0
      refine bodyPost_ret (v := .tuple #[.agg #[.bool l5, .slice i1 y1 z1, .slice i3 y3 z3], .int .i64 ((0 : Nat) : Int)]) (by simp [results, Try.results47, go_sem, r0, r1, r2, hlw]) rfl ?_
      rw [HRW.out, if_neg (by simp), if_neg (by simp [HT.out])]
      refine ⟨l5, i1, y1, z1, i3, y3, z3, rfl, ?_, ((HBL.out.trans (hbx.chg.toBelowAt (by omega) (fun k hk e => by omega))).alloc (by omega) _)⟩
      refine K3.out.carry (fun b _ hb => Nat.le_trans (by simp) hb) (fun b hb hlt => ?_)
      have hb' : w.heap.size + 1 ≤ b := Nat.le_trans (by simp) hb
      rw [Below.heap_alloc _ _ _ (by rw [hbx.size]; exact hlt), hbx.other _ (by omega)]
  · have HE := Lib.hid he
    have hm : m = 0 := K2.out he
    have hy : y = .text [] := HERR.out he
    have ht : (((e1:Nat):Int) == 0) = false := by simp; omega
    have HY := Lib.hid hy
    subst hm
    clear he hy
    go_wp2_with fail
    have hbx := box3 HB5.out (.bool l5) (.slice i1 y1 z1) (.slice i3 y3 z3)
    obtain ⟨W, hW⟩ : ∃ W, W = ((w5.setCell ⟨w.heap.size, 0, none⟩ (.bool l5)).setCell ⟨w.heap.size, 1, none⟩ (.slice i1 y1 z1)).setCell ⟨w.heap.size, 2, none⟩ (.slice i3 y3 z3) := ⟨_, rfl⟩
    rw [← hW] at hbx ⊢
    obtain ⟨r0, r1, r2⟩ := cells3 hbx.at_
    have hlw : w.heap.size < W.heap.size := by rw [hbx.size]; exact h0
    refine bodyPost_ret (v := .tuple #[.agg #[.bool l5, .slice i1 y1 z1, .slice i3 y3 z3], .int .i64 (e1 : Int)]) (by simp [results, Try.results47, go_sem, r0, r1, r2, hlw]) rfl ?_
    rw [HRW.out, if_pos HE.out]
    refine ⟨l5, i1, y1, z1, i3, y3, z3, rfl, ?_, ((HBL.out.trans (hbx.chg.toBelowAt (by omega) (fun k hk e => by omega))).alloc (by omega) _)⟩
    have := K3.out
    rw [HY.out] at this
    refine this.carry (fun b _ hb => Nat.le_trans (by simp) hb) (fun b hb hlt => ?_)
    have hb' : w.heap.size + 1 ≤ b := Nat.le_trans (by simp) hb
    rw [Below.heap_alloc _ _ _ (by rw [hbx.size]; exact hlt), hbx.other _ (by omega)]
end Go.Proofs.Ytndkkgkcbbmnpaa
namespace Go.Pg
open Go.RowKit
/-- no list among them -/
def flat (l : List It) : Bool := l.all (fun y => !y.isList)
/-- a list of texts that rise -/
def readOk (x : It) : Bool := flat x.items && (x.isList && rising (x.items.map It.bytes))
theorem flat_take_succ (l : List It) (k : Nat) (h : k < l.length) : flat (l.take (k + 1)) = (flat (l.take k) && !l[k].isList) := by
  unfold flat
  rw [List.take_succ_eq_append_getElem h, List.all_append]; simp only [List.all_cons, List.all_nil, Bool.and_true]
theorem flat_take (l : List It) (k : Nat) (h : flat l = true) : flat (l.take k) = true := by
  unfold flat at h ⊢
  rw [List.all_eq_true] at h ⊢
  exact fun x hx => h x (List.mem_of_mem_take hx)
theorem flat_no (l : List It) (k : Nat) (h : k < l.length) (hl : l[k].isList = true) : flat l = false := by
  cases hf : flat l with
  | false => rfl
  | true =>
    have h1 := flat_take l (k + 1) hf
    rw [flat_take_succ l k h, hl] at h1
    simp at h1
end Go.Pg
namespace Go.Proofs.Ytndkkgkcbbmnpaa
open Go.RowKit Go.Pg
theorem underlyingRows : Try.prog.underlying 22 = some (.slice 25) := Try.underlying22
theorem infoRow : (Try.prog.info? 25).map (fun i => (i.zero, i.size, i.bytes)) = some (some (.slice none 0 0), 1, 24) := by kernel_rfl

/-- texts that rise, or none -/
def Readd (F : Nat → Prop) (w : World) (x : It) (e : Ending) (w' : World) : Prop :=
  ∃ v, e = .returned (.tuple #[v, .bool (readOk x)]) ∧ (readOk x = true → RowsAt (fun b => F b ∨ w.heap.size ≤ b) w' v (x.items.map It.bytes)) ∧ Below w.heap.size w w'

set_option maxRecDepth 100000 in
set_option maxHeartbeats 1000000 in
theorem read_any (F : Nat → Prop) (w : World) (d : Nat) (x : It) (il : Bool) (a1 a2 : Option Addr) (n1 c1 n2 c2 : Nat) (h : ItemAt F w (d + 1) [.bool il, .slice a1 n1 c1, .slice a2 n2 c2] x) (hlen : x.items.length ≤ 1099511627776) :
    Calls Try.prog 48 #[.agg #[.bool il, .slice a1 n1 c1, .slice a2 n2 c2]] w (Readd F w x) := by
  obtain ⟨hil, a1', n1', c1', a2', n2', c2', e1, e2, -, hn⟩ := ItemAt.form h
  simp only [Value.slice.injEq] at e1 e2
  obtain ⟨rfl, rfl, rfl⟩ := e1
  obtain ⟨rfl, rfl, rfl⟩ := e2
  have hits := ItemAt.items h
  replace hits : ItemsAt (fun b => F b ∧ b < w.heap.size) w d (.slice a2 n2 c2) x.items := ItemsAt.carry hits (fun b hb hF => ⟨hF, hb⟩) (fun _ _ _ => rfl)
  obtain ⟨l, hl⟩ : ∃ l, l = x.items := ⟨_, rfl⟩
  rw [← hl] at hits hn hlen
  rw [← hn] at hlen
  obtain ⟨i0, hi, hz0, hz1, hz2⟩ := info_parts infoRow
  have HIL := Lib.hid hil
  have HL := Lib.hid hl
  have HN := Lib.hid hn
  have HITS := Lib.hid hits
  clear hil hl hn hits h
  go_enter Try.func48, Try.ntmps48
  go_wp2
  go_loopw [4, 10] (fun s i wr => ∃ k : Nat, k ≤ n2 ∧ i = .int .i64 k ∧ Hid (flat (l.take k) = true) ∧ Hid (OwnList rowR (fun b => F b ∧ b < w.heap.size) (w.heap.size + 1) wr 25 1 s ((l.take k).map It.bytes)) ∧
      Hid (Below w.heap.size w wr ∧ wr.heap[w.heap.size]? = some (.cells #[.bool il, .slice a1 n1 c1, .slice a2 n2 c2] 65 (0, 0)))) (fun _ i _ => n2 - (intOf i).toNat)
  case atStart => exact ⟨0, Nat.zero_le _, rfl, Lib.hid rfl, OwnList.nil, Bel.alloc (Bel.refl w) _, heap_alloc_new w _⟩
  case round =>
    obtain ⟨k, hk, rfl, HFL, HO, HB⟩ := hrel
    have hN := HN.out
    by_cases hlt : k < n2
    · rcases SliceAt.split HITS.out with ⟨_, h0⟩ | ⟨b, o, rfl, -, -, -⟩
      · omega
      have hwr := ItemsAt.below HITS.out HB.out.1
      obtain ⟨x1, y1, z1, x2, y2, z2, g0, g1, g2, git⟩ := ItemsAt.cell hwr k (by omega)
      have htk : (l.take (k + 1)).map It.bytes = (l.take k).map It.bytes ++ [(l[k]'(by omega)).bytes] := by
        rw [List.take_succ_eq_append_getElem (show k < l.length by omega), List.map_append]; rfl
      have hfl := flat_take_succ l k (by omega)
      have hno := flat_no l k (by omega)
      obtain ⟨y, hy⟩ : ∃ y, y = l[k]'(by omega) := ⟨_, rfl⟩
      rw [← hy] at g0 git htk hfl hno
      have HT := Lib.hid htk
      have hby := ItemAt.bytes git
      obtain ⟨q, hq⟩ : ∃ q, q = y.isList := ⟨_, rfl⟩
      rw [← hq] at g0 hfl hno
      obtain ⟨L, hL⟩ : ∃ L, L = (l.take k).map It.bytes := ⟨_, rfl⟩
      rw [← hL] at HO HT
      have hLl : L.length = k := by rw [hL]; simp; omega
      have HLL := Lib.hid hLl
      clear hwr hy htk hL hLl hN git hq
      cases q with
      | true =>
        have HNO := Lib.hid (hno rfl)
        clear hno hfl hby
        go_wp2_with fail
        go_ret2
        have hr : readOk x = false := by unfold readOk; rw [← HL.out, HNO.out]; rfl
        exact ⟨.slice none 0 0, by rw [hr]; rfl, (fun h => by rw [hr] at h; cases h), HB.out.1.alloc HB.out.1.size _⟩
      | false =>
        have HFL1 : Hid (flat (l.take (k + 1)) = true) := Lib.hid (by rw [hfl, HFL.out]; rfl)
        have hsw := (Array.getElem?_eq_some_iff.1 HB.out.2).1
        have howr := (HO.out).own
        have HB1 : Hid (Below w.heap.size w (wr.alloc (.cells #[.bool false, .slice x1 y1 z1, .slice x2 y2 z2] 65)) ∧ (wr.alloc (.cells #[.bool false, .slice x1 y1 z1, .slice x2 y2 z2] 65)).heap[w.heap.size]? = some (.cells #[.bool il, .slice a1 n1 c1, .slice (some ⟨b, o, none⟩) n2 c2] 65 (0, 0))) :=
          Lib.hid ⟨Bel.alloc HB.out.1 _, (Below.heap_alloc _ _ _ hsw).trans HB.out.2⟩
        have hO1 := (HO.out).call carriedRow (Bel.alloc (Bel.refl wr) (.cells #[.bool false, .slice x1 y1 z1, .slice x2 y2 z2] 65))
        have hrow : rowR (fun b => F b ∧ b < w.heap.size) (wr.alloc (.cells #[.bool false, .slice x1 y1 z1, .slice x2 y2 z2] 65)) [.slice x1 y1 z1] y.bytes := ⟨_, rfl, BytesAt.below hby (Bel.alloc (Bel.refl wr) _)⟩
        obtain ⟨R, hR1, hRo, hRs, hRn⟩ := hO1.push carriedRow hrow rfl (by decide) (fun b' _ hb' => ⟨hb', fun e => by have := (howr b' e).1; have := hb'.2; omega⟩) 25
        have hle : (L.length + [y.bytes].length) * 24 ≤ 140737488355328 := by rw [HLL.out]; simp; omega
        have hbase : w.heap.size + 1 ≤ ((wr.alloc (.cells #[.bool false, .slice x1 y1 z1, .slice x2 y2 z2] 65)).alloc (.cells [.slice x1 y1 z1].toArray 25)).heap.size := by simp; omega
        simp only [World.size_alloc] at hRs
        have HRN := Lib.hid hRn
        have HRO := Lib.hid hRo
        have HRS := Lib.hid hRs
        have HR1 := Lib.hid hR1
        clear hRn hO1 howr hRo hRs hR1 hrow hno hfl hby
        go_wp2_with (at_builtin; refine wpList_append_at rfl (.tmp 16) (.tmp 19) 22 rfl (w.heap.size + 1) 25 i0 (.slice none 0 0) 1 24 underlyingRows hi hz0 hz1 hz2 rfl (by decide) (by decide) HR1.out _ L rfl HRO.out _ [y.bytes] (fun _ => True) rfl HRS.out hle hbase ?_; intro v' w2 ho hg hm)
        have HOn := Lib.hid (HRN.out _ _ ho hg hm)
        have hown := (HRO.out).own
        have HB2 : Hid (Below w.heap.size w w2 ∧ w2.heap[w.heap.size]? = some (.cells #[.bool il, .slice a1 n1 c1, .slice (some ⟨b, o, none⟩) n2 c2] 65 (0, 0))) := by
          have hb1 := HB1.out.1
          have hbx := HB1.out.2
          have hlt' := (Array.getElem?_eq_some_iff.1 hbx).1
          refine ⟨(Bel.alloc hb1 _).grown hg (by simp; omega) (fun k hk => by have := (hown k hk).1; omega), ?_⟩
          rw [hg.block _ (by simp; omega) (fun e => by have := (hown _ e.symm).1; omega), Below.heap_alloc _ _ _ hlt']
          exact hbx
        clear ho hg hm hown
        go_roundw
        case rel => exact ⟨k + 1, by omega, num_eq (by omega), HFL1, by rw [HT.out]; exact HOn.out, HB2.out⟩
        case measure => simp [intOf]; omega
    · obtain rfl : k = n2 := by omega
      have hO := HO.out
      have hfl := HFL.out
      rw [List.take_of_length_le (by omega)] at hO hfl
      have hits := hO.at carriedRow (G' := fun b => F b ∧ b < w.heap.size ∨ w.heap.size + 1 ≤ b) (fun _ h _ => .inl h) (fun b h _ => .inr h) (by decide)
      obtain ⟨va, vc, hvv, -, -, -⟩ := SliceAt.len hits
      have hll : (l.map It.bytes).length ≤ 1152921504606846976 := by simp; omega
      obtain ⟨q0, q1, q2⟩ := cells3 HB.out.2
      have hsw := (Array.getElem?_eq_some_iff.1 HB.out.2).1
      have HFL' := Lib.hid hfl
      have HITS' := Lib.hid hits
      clear hO hfl hits hN hvv
      cases il with
      | false =>
        go_wp2_with fail
        go_ret2
        have hr : readOk x = false := by unfold readOk; rw [← HIL.out]; simp
        exact ⟨_, by rw [hr]; rfl, (fun h => by rw [hr] at h; cases h), HB.out.1⟩
      | true =>
        go_wp2_with fail
        refine (rises_any _ wr _ _ HITS'.out hll).mono ?_
        rintro e w1 ⟨rfl, hb1⟩
        have hr : readOk x = rising (l.map It.bytes) := by unfold readOk; rw [← HIL.out, ← HL.out, HFL'.out]; rfl
        have HR := Lib.hid hr
        have HB1 := Lib.hid hb1
        clear hr hb1
        go_wp2_with fail
        go_ret2
        refine ⟨_, by rw [HR.out]; rfl, fun h => ?_, Bel.call HB.out.1 HB1.out⟩
        rw [← HL.out]
        exact RowsAt.carry (RowsAt.below HITS'.out HB1.out) (fun b _ hb => by rcases hb with hb | hb; exact .inl hb.1; exact .inr (by omega)) (fun _ _ _ => rfl)
end Go.Proofs.Ytndkkgkcbbmnpaa
namespace Go.Pg
/-- so many lists in one another -/
def It.shallow : Nat → It → Prop
  | _, .text _ => True
  | 0, .list _ => False
  | f + 1, .list l => ∀ y, y ∈ l → It.shallow f y
theorem whole_le_wholes (l : List It) (y : It) (h : y ∈ l) : y.whole ≤ It.wholes l := by
  induction l with
  | nil => cases h
  | cons x l ih =>
    simp only [It.wholes]
    rcases List.mem_cons.1 h with rfl | h
    · omega
    · have := ih h; omega
theorem fits_of_shallow : ∀ (f : Nat) (x : It), It.shallow f x → x.body ≤ 16777215 → It.fits f x
  | f, .text b, _, hb => by unfold It.fits; simpa [It.body] using hb
  | 0, .list l, h, _ => by unfold It.shallow at h; exact h.elim
  | f + 1, .list l, h, hb => by
    unfold It.shallow at h
    unfold It.fits
    simp only [It.body] at hb
    refine ⟨hb, fun y hy => fits_of_shallow f y (h y hy) ?_⟩
    have h1 := It.body_le_whole y
    have h2 := whole_le_wholes l y hy
    omega
theorem looks_all (deep : Nat) : ∀ (l : List It) (wt : Nat), (It.looks l deep wt).2 = 0 → ∀ y, y ∈ l → ∃ wt', (y.look deep wt').2 = 0
  | [], _, _, y, hy => by cases hy
  | x :: l, wt, h, y, hy => by
    simp only [It.looks] at h
    by_cases h0 : (x.look deep wt).2 = 0
    · rw [if_pos h0] at h
      rcases List.mem_cons.1 hy with rfl | hy
      · exact ⟨wt, h0⟩
      · exact looks_all deep l _ h y hy
    · rw [if_neg h0] at h; exact absurd h h0
theorem shallow_of_look : ∀ (f : Nat) (x : It) (deep wt : Nat), deep + f = 8 → (x.look deep wt).2 = 0 → It.shallow f x
  | f, .text b, _, _, _, _ => by unfold It.shallow; trivial
  | 0, .list l, deep, wt, hd, h => by
    obtain rfl : deep = 8 := by omega
    simp [It.look] at h
  | f + 1, .list l, deep, wt, hd, h => by
    unfold It.shallow
    have hlooks : ∃ wt', (It.looks l (deep + 1) wt').2 = 0 := by
      rw [look_list_eq] at h
      unfold lookOn at h
      by_cases h0 : (lookHead deep wt).2 = 0
      · rw [if_pos h0] at h; exact ⟨_, h⟩
      · rw [if_neg h0] at h; exact absurd h h0
    obtain ⟨wt', hl⟩ := hlooks
    intro y hy
    obtain ⟨wt2, h2⟩ := looks_all (deep + 1) l wt' hl y hy
    exact shallow_of_look f y (deep + 1) wt2 (by omega) h2
theorem looks_ok (deep : Nat) : ∀ (l : List It) (wt : Nat), (∀ y, y ∈ l → ∀ wt, wt + y.whole ≤ 16777215 → (y.look deep wt).2 = 0) → wt + It.wholes l ≤ 16777215 → (It.looks l deep wt).2 = 0
  | [], wt, _, _ => by simp [It.looks]
  | x :: l, wt, hall, h => by
    simp only [It.wholes] at h
    simp only [It.looks]
    have hx := hall x (List.mem_cons_self ..) wt (by omega)
    rw [if_pos hx]
    have hle := It.look_le x deep wt
    exact looks_ok deep l _ (fun y hy => hall y (List.mem_cons_of_mem _ hy)) (by omega)
theorem look_ok : ∀ (f : Nat) (x : It) (deep wt : Nat), deep + f = 8 → 1 ≤ deep → It.fits f x → wt + x.whole ≤ 16777215 → (x.look deep wt).2 = 0
  | f, .text b, deep, wt, _, _, _, h => by
    have h1 := It.body_le_whole (.text b)
    have h2 := It.whole_pos (.text b)
    simp only [It.body] at h1
    simp only [It.look]; rw [if_neg (by omega)]
  | 0, .list l, deep, wt, _, _, hf, h => by unfold It.fits at hf; exact hf.elim
  | f + 1, .list l, deep, wt, hd, h1, hf, h => by
    unfold It.fits at hf
    have h3 : It.wholes l + 1 ≤ (It.list l).whole := by
      simp only [It.whole]; exact sz_ge _
    simp only [It.look]
    rw [if_neg (by omega), if_neg (by omega), if_neg (by omega)]
    exact looks_ok (deep + 1) l (wt + 1) (fun y hy wt' h' => look_ok f y (deep + 1) wt' (by omega) (by omega) (hf.2 y hy) h') (by omega)
theorem encode_ok (x : It) (h : It.fits 8 x) : x.encode = (x.enc, 0) := by
  have hb : x.body ≤ 16777215 := by
    cases x with
    | text b => unfold It.fits at h; simpa [It.body] using h
    | list l => unfold It.fits at h; simpa [It.body] using h.1
  have hl : (x.look 0 0).2 = 0 := by
    cases x with
    | text b =>
      simp only [It.body] at hb
      simp only [It.look]; rw [if_neg (by omega)]
    | list l =>
      unfold It.fits at h
      simp only [It.body] at hb
      simp only [It.look]
      rw [if_neg (by omega), if_pos trivial, if_neg (by omega)]
      exact looks_ok 1 l 0 (fun y hy wt' h' => look_ok 7 y 1 wt' (by omega) (by omega) (h.2 y hy) h') (by omega)
  unfold It.encode
  rw [if_neg (by simp [hl]), if_neg (by omega)]
theorem encode_fits (x : It) (h : x.encode.2 = 0) : It.fits 8 x := by
  unfold It.encode at h
  by_cases h1 : (x.look 0 0).2 ≠ 0
  · rw [if_pos h1] at h; exact absurd h h1
  · rw [if_neg h1] at h
    by_cases h2 : 16777215 < x.body
    · rw [if_pos h2] at h; cases h
    · exact fits_of_shallow 8 x (shallow_of_look 8 x 0 0 rfl (by omega)) (by omega)

/-- the two lists of a witness' item -/
def part (x : It) (i : Nat) : List (List UInt8) := (x.items.getD i (.text [])).items.map It.bytes
/-- reading a witness -/
def witDecode (bs : List UInt8) : List (List UInt8) × List (List UInt8) × Nat :=
  if (rdWhole bs).1 = 0 ∧ (rdWhole bs).2.isList = true ∧ (rdWhole bs).2.items.length = 2 ∧ readOk ((rdWhole bs).2.items.getD 0 (.text [])) = true ∧ readOk ((rdWhole bs).2.items.getD 1 (.text [])) = true then
    (part (rdWhole bs).2 0, part (rdWhole bs).2 1, 0) else ([], [], 210)
theorem texts_of_flat (l : List It) (h : flat l = true) : (l.map It.bytes).map It.text = l := by
  unfold flat at h
  rw [List.all_eq_true] at h
  rw [List.map_map]
  conv => rhs; rw [← List.map_id l]
  refine List.map_congr_left fun y hy => ?_
  have := h y hy
  cases y with
  | text b => rfl
  | list l => simp [It.isList] at this
theorem item_of_readOk (x : It) (h : readOk x = true) : x = textsI (x.items.map It.bytes) ∧ rising (x.items.map It.bytes) = true := by
  unfold readOk at h
  simp only [Bool.and_eq_true] at h
  obtain ⟨h1, h2, h3⟩ := h
  refine ⟨?_, h3⟩
  cases x with
  | text b => simp [It.isList] at h2
  | list l => unfold textsI; simp only [It.items] at h1 ⊢; rw [texts_of_flat l h1]
theorem bytes_texts (N : List (List UInt8)) : (textsI N).items.map It.bytes = N := by
  unfold textsI
  simp only [It.items, List.map_map]
  conv => rhs; rw [← List.map_id N]
  rfl
theorem readOk_texts (N : List (List UInt8)) (h : rising N = true) : readOk (textsI N) = true := by
  unfold readOk
  rw [bytes_texts, h]
  simp [textsI, It.items, It.isList, flat]
theorem witDecode_sound (bs : List UInt8) (N C : List (List UInt8)) (h : witDecode bs = (N, C, 0)) : witEncode N C = (bs, 0) ∧ rdWhole bs = (0, witI N C) ∧ It.fits 8 (witI N C) := by
  unfold witDecode at h
  split at h
  · rename_i hc
    obtain ⟨h1, h2, h3, h4, h5⟩ := hc
    obtain ⟨e, x, hx⟩ : ∃ e x, rdWhole bs = (e, x) := ⟨_, _, rfl⟩
    rw [hx] at h h1 h2 h3 h4 h5
    simp only at h h1 h2 h3 h4 h5
    subst h1
    simp only [Prod.mk.injEq, and_true] at h
    obtain ⟨hN, hC⟩ := h
    obtain ⟨hb, hf⟩ := rdWhole_sound bs x hx
    cases x with
    | text b => simp [It.isList] at h2
    | list l =>
      simp only [It.items] at h3 h4 h5
      match l, h3 with
      | [i0, i1], _ =>
        simp only [List.getD_cons_zero, List.getD_cons_succ] at h4 h5
        obtain ⟨e0, r0⟩ := item_of_readOk i0 h4
        obtain ⟨e1, r1⟩ := item_of_readOk i1 h5
        have hN' : i0.items.map It.bytes = N := hN
        have hC' : i1.items.map It.bytes = C := hC
        rw [hN'] at e0 r0
        rw [hC'] at e1 r1
        subst e0 e1
        have hw : witI N C = .list [textsI N, textsI C] := rfl
        refine ⟨?_, by rw [hw]; exact hx, by rw [hw]; exact hf⟩
        unfold witEncode
        rw [r0, r1, hw, encode_ok _ hf, hb]
        rfl
  · simp at h
theorem witDecode_back (bs : List UInt8) (N C : List (List UInt8)) (h : witEncode N C = (bs, 0)) : witDecode bs = (N, C, 0) := by
  unfold witEncode at h
  by_cases hr : (rising N && rising C) = true
  · rw [if_pos hr] at h
    by_cases he : (witI N C).encode.2 = 0
    · rw [if_pos he] at h
      have hf := encode_fits _ he
      have hen := encode_ok _ hf
      rw [hen] at h
      simp only [Prod.mk.injEq, and_true] at h
      subst h
      have hrd := rdWhole_back _ hf
      simp only [Bool.and_eq_true] at hr
      unfold witDecode
      rw [hrd]
      have h0 : (witI N C).items = [textsI N, textsI C] := rfl
      rw [if_pos]
      · unfold part
        rw [h0]
        simp only [List.getD_cons_zero, List.getD_cons_succ, bytes_texts]
      · rw [h0]
        exact ⟨rfl, rfl, rfl, readOk_texts N hr.1, readOk_texts C hr.2⟩
    · rw [if_neg he] at h; simp at h
  · rw [if_neg hr] at h; simp at h
theorem witDecode_cases (bs : List UInt8) : (∃ N C, witDecode bs = (N, C, 0)) ∨ witDecode bs = ([], [], 210) := by
  unfold witDecode
  split
  · exact .inl ⟨_, _, rfl⟩
  · exact .inr rfl
/-- the document's: what bytes may say, if these are its encoding -/
def refDecode (bs : List UInt8) : List (List UInt8) × List (List UInt8) × Nat :=
  if (rdWhole bs).1 = 0 ∧ (rdWhole bs).2.items.length = 2 then
    (if witEncode (part (rdWhole bs).2 0) (part (rdWhole bs).2 1) = (bs, 0) then (part (rdWhole bs).2 0, part (rdWhole bs).2 1, 0) else ([], [], 210)) else ([], [], 210)
theorem refDecode_eq (bs : List UInt8) : refDecode bs = witDecode bs := by
  rcases witDecode_cases bs with ⟨N, C, h⟩ | h
  · rw [h]
    obtain ⟨h1, h2, h3⟩ := witDecode_sound bs N C h
    have hp0 : part (witI N C) 0 = N := by unfold part; exact bytes_texts N
    have hp1 : part (witI N C) 1 = C := by unfold part; exact bytes_texts C
    unfold refDecode
    rw [h2, if_pos ⟨rfl, rfl⟩]
    simp only [hp0, hp1]
    rw [if_pos h1]
  · rw [h]
    unfold refDecode
    split
    · split
      · rename_i h1 h2
        have := witDecode_back _ _ _ h2
        rw [h] at this
        simp at this
      · rfl
    · rfl
end Go.Pg
