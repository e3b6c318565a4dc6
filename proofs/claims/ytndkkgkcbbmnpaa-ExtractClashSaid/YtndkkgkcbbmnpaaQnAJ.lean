/-
  Contract of pergolaref01.Put.
  Contract of extract.Told.
  Contract of pergolaref23.Told.
-/
import Derived.Test.YtndkkgkcbbmnpaaQnAI
namespace Go.Pg
open Go.RowKit
/-- a text laid into rising ones -/
def put : List (List UInt8) → List UInt8 → List (List UInt8)
  | [], b => [b]
  | x :: r, b => if Lib.compareBytes x b < 0 then x :: put r b else if x = b then x :: r else b :: x :: r
theorem put_at : ∀ (l : List (List UInt8)) (b : List UInt8) (k : Nat) (_ : ∀ j, j < k → ∀ hj : j < l.length, Lib.compareBytes l[j] b < 0) (_ : k ≤ l.length) (_ : k = l.length ∨ ∃ h : k < l.length, ¬ Lib.compareBytes l[k] b < 0),
    put l b = if h : ∃ h : k < l.length, l[k] = b then l else l.take k ++ [b] ++ l.drop k
  | [], b, k, h1, h2, h3 => by
    obtain rfl : k = 0 := by simpa using h2
    rw [dif_neg (fun e => by obtain ⟨h, -⟩ := e; simp at h)]
    rfl
  | x :: r, b, 0, h1, h2, h3 => by
    have hx : ¬ Lib.compareBytes x b < 0 := by
      rcases h3 with h3 | ⟨g, h3⟩
      · simp at h3
      · simpa using h3
    simp only [put]
    rw [if_neg hx]
    by_cases he : x = b
    · rw [if_pos he, dif_pos ⟨by simp, by simpa using he⟩]
    · rw [if_neg he, dif_neg (fun e => he (by obtain ⟨g, e⟩ := e; simpa using e))]
      simp
  | x :: r, b, k + 1, h1, h2, h3 => by
    have hx : Lib.compareBytes x b < 0 := h1 0 (by omega) (by simp)
    have ih := put_at r b k (fun j hj hl => by have := h1 (j + 1) (by omega) (by simp; omega); simpa using this) (by simpa using h2) (by
      rcases h3 with h3 | ⟨g, h3⟩
      · exact .inl (by simpa using h3)
      · exact .inr ⟨by simpa using g, by simpa using h3⟩)
    simp only [put]
    rw [if_pos hx, ih]
    by_cases he : ∃ h : k < r.length, r[k] = b
    · rw [dif_pos he, dif_pos (by obtain ⟨g, e⟩ := he; exact ⟨by simp; omega, by simpa using e⟩)]
    · rw [dif_neg he, dif_neg (fun e => he (by obtain ⟨g, e⟩ := e; exact ⟨by simpa using g, by simpa using e⟩))]
      simp
section
variable {α : Type} {A : (Nat → Prop) → World → List Value → α → Prop} {G : Nat → Prop} {n : Nat} {W : World} {e : TypeId} {sz : Nat} {v : Value} {l : List α}
/-- more, out of another slice -/
theorem OwnList.join (hA : Carried A) (h : OwnList A G n W e sz v l) {H : Nat → Prop} {u : Value} {m : List α} (hs : SliceAt H W sz (A H W) u m) (hH : ∀ b, b < W.heap.size → H b → G b ∧ v.ownBlock ≠ some b) (hsz : 0 < sz := by decide) :
    ∃ R : List Value → α → Prop, (∀ cs x, R cs x → ∀ u ∈ cs, u.oneCell' = true) ∧ OwnAt W n e sz R v l ∧ SliceAt H W sz R u m ∧
      ∀ v' W2, OwnAt W2 n e sz R v' (l ++ m) → W.grownBy W2 v.ownBlock → Moved W v v' → OwnList A G n W2 e sz v' (l ++ m) := by
  obtain ⟨F, h1, h2, h3⟩ := h
  refine ⟨A (fun b => F b ∨ (H b ∧ b < W.heap.size)) W, hA.one, h3.mono fun cs x _ hx => hA.carry hx (fun b _ hb => .inl hb) (fun _ _ _ => rfl), SliceAt.carry hs hsz (fun _ _ x => x) (fun _ _ _ => rfl) (fun cs x _ hx => hA.carry hx (fun b hlt hb => .inr ⟨hb, hlt⟩) (fun _ _ _ => rfl)), fun v' W2 ho hg hm => ?_⟩
  have hs := hg.size
  refine ⟨fun b => F b ∨ (H b ∧ b < W.heap.size), ?_, ?_, ?_⟩
  · rintro b (hb | hb)
    · exact ⟨(h1 b hb).1, by have := (h1 b hb).2; omega⟩
    · exact ⟨(hH b hb.2 hb.1).1, by omega⟩
  · intro g hg' hb
    rcases hm g hg' with hv | hv
    · rcases hb with hb | hb
      · exact h2 g hv hb
      · exact (hH g hb.2 hb.1).2 hv
    · rcases hb with hb | hb
      · have := (h1 g hb).2; omega
      · omega
  · refine ho.mono fun cs y _ hy => hA.carry hy (fun _ _ x => x) fun b hb hlt => ?_
    rw [hg.block b hlt (fun e => ?_)]
    rcases hb with hb | hb
    · exact h2 b e.symm hb
    · exact (hH b hb.2 hb.1).2 e.symm
end
/-- l[:k] of rows -/
theorem RowsAt.upto {F : Nat → Prop} {w : World} {a : Option Addr} {n c : Nat} {l : List (List UInt8)} (h : RowsAt F w (.slice a n c) l) (k : Nat) (hk : k ≤ n) : RowsAt F w (.slice a k c) (l.take k) := by
  obtain ⟨a', c', hv, h1, h2, h3, h4, h5⟩ := h
  simp only [Value.slice.injEq] at hv
  obtain ⟨rfl, rfl, rfl⟩ := hv
  have hl : (l.take k).length = k := by simp; omega
  refine ⟨a, c, by rw [hl], by omega, h2, h3, fun hp => ?_, fun b o j ha hj => h5 b o j ha (by rw [hl] at hj; omega)⟩
  obtain ⟨b, o, ha, hF, hc⟩ := h4 (by omega)
  refine ⟨b, o, ha, hF, fun i x hx => hc i x ?_⟩
  rw [List.getElem?_take] at hx
  split at hx
  · exact hx
  · cases hx
/-- l[k:] of rows -/
theorem RowsAt.since {F : Nat → Prop} {w : World} {a a2 : Option Addr} {n c : Nat} {l : List (List UInt8)} (h : RowsAt F w (.slice a n c) l) (k : Nat) (hk : k ≤ n) (ha2 : (if c = k then a else a.map (·.add k)) = a2) :
    RowsAt F w (.slice a2 (n - k) (c - k)) (l.drop k) := by
  obtain ⟨a', c', hv, h1, h2, h3, h4, h5⟩ := h
  simp only [Value.slice.injEq] at hv
  obtain ⟨rfl, rfl, rfl⟩ := hv
  have hl : (l.drop k).length = l.length - k := by simp
  refine ⟨a2, c - k, by rw [hl], by omega, by omega, fun hn => ?_, fun hp => ?_, fun b o j ha hj => ?_⟩
  · subst hn
    split at ha2
    · omega
    · simp at ha2; have := h3 ha2; omega
  · rw [hl] at hp
    obtain ⟨b, o, rfl, hF, hc⟩ := h4 (by omega)
    have hck : ¬ c = k := by omega
    rw [if_neg hck] at ha2
    have e : (⟨b, o, none⟩ : Addr).add k = ⟨b, o + k, none⟩ := by unfold Addr.add; split <;> simp_all
    simp only [Option.map_some, e] at ha2
    subst ha2
    refine ⟨b, o + k, rfl, hF, fun i x hx => ?_⟩
    obtain ⟨cs, g1, g2, g3⟩ := hc (k + i) x (by rw [List.getElem?_drop] at hx; exact hx)
    exact ⟨cs, g1, g2, fun j u hu => by have := g3 j u hu; rwa [show o + k + i * 1 + j = o + (k + i) * 1 + j by omega]⟩
  · rw [hl] at hj
    obtain ⟨b', o', rfl, -, -⟩ := h4 (by omega)
    have hck : ¬ c = k := by omega
    have e : (⟨b', o', none⟩ : Addr).add k = ⟨b', o' + k, none⟩ := by unfold Addr.add; split <;> simp_all
    rw [if_neg hck, Option.map_some, e, ha] at ha2
    simp only [Option.some.injEq, Addr.mk.injEq, and_true] at ha2
    obtain ⟨rfl, rfl⟩ := ha2
    have := h5 b' o' (k + j) rfl (by omega)
    rwa [show o' + k + j = o' + (k + j) by omega]
end Go.Pg
namespace Go.Proofs.Ytndkkgkcbbmnpaa
open Go.RowKit Go.Pg

/-- rows are told, of old memory and new -/
def PutD (F : Nat → Prop) (w : World) (l : List (List UInt8)) (e : Ending) (w' : World) : Prop :=
  ∃ a n c, e = .returned (.slice a n c) ∧ RowsAt (fun b => F b ∨ w.heap.size ≤ b) w' (.slice a n c) l ∧ Below w.heap.size w w'

set_option maxRecDepth 100000 in
set_option maxHeartbeats 8000000 in
theorem put_any (F G : Nat → Prop) (w : World) (a : Option Addr) (n c : Nat) (l : List (List UInt8)) (ab : Option Addr) (nb cb : Nat) (b : List UInt8) (h0 : RowsAt F w (.slice a n c) l) (hb : BytesAt G w (.slice ab nb cb) b) (hlen : n ≤ 1099511627776) (hbl : b.length ≤ 140737488351232)
    (hx : ∀ x ∈ l, x.length ≤ 140737488351232) : Calls Try.prog 67 #[.slice a n c, .slice ab nb cb] w (PutD F w (put l b)) := by
  have h : RowsAt (fun x => F x ∧ x < w.heap.size) w (.slice a n c) l := RowsAt.carry h0 (fun x hlt hx => ⟨hx, hlt⟩) (fun _ _ _ => rfl)
  have hn : n = l.length ∧ n ≤ c := by
    obtain ⟨a', c', hv, h1, -⟩ := SliceAt.len h
    simp only [Value.slice.injEq] at hv
    exact ⟨hv.2.1, by omega⟩
  have hnc := hn.2
  obtain ⟨i0, hi, hz0, hz1, hz2⟩ := info_parts infoRow
  have HN := Lib.hid hn.1
  have HX := Lib.hid hx
  have HH := Lib.hid h
  have HBB := Lib.hid hb
  have HBL := Lib.hid hbl
  clear hn hx h h0 hb hbl
  go_enter Try.func67, Try.ntmps67
  go_wp2
  go_loopw [5] (fun i wr => ∃ k : Nat, k ≤ n ∧ i = .int .i64 k ∧ Hid (∀ j, j < k → ∀ hj : j < l.length, Lib.compareBytes l[j] b < 0) ∧ Hid (∃ q, wr = w.drewN q)) (fun i _ => n - (intOf i).toNat)
  case atStart => exact ⟨0, Nat.zero_le _, rfl, Lib.hid (fun j hj => absurd hj (Nat.not_lt_zero _)), Lib.hid ⟨0, rfl⟩⟩
  case round =>
    obtain ⟨k, hk, rfl, HLT, HK⟩ := hrel
    by_cases hlt : k < n
    · rcases SliceAt.split HH.out with ⟨_, h00⟩ | ⟨rb0, ro0, rfl, -, -, -⟩
      · omega
      have hrw : RowsAt (fun x => F x ∧ x < w.heap.size) wr (.slice (some ⟨rb0, ro0, none⟩) n c) l ∧ BytesAt G wr (.slice ab nb cb) b := by
        obtain ⟨q, hq⟩ := HK.out
        rw [hq]; exact ⟨RowsAt.carry HH.out (fun _ _ x => x) (fun _ _ _ => rfl), BytesAt.carry HBB.out (fun _ _ x => x) (fun _ _ _ => rfl)⟩
      have hkl : k < l.length := by have := HN.out; omega
      obtain ⟨u, c0, t0⟩ := RowsAt.cell hrw.1 k hkl
      have hxl := HX.out l[k] (List.getElem_mem _)
      obtain ⟨p, hp⟩ : ∃ p, p = decide (Lib.compareBytes l[k] b < 0) := ⟨_, rfl⟩
      have hcall := ahead_any _ G wr u (.slice ab nb cb) l[k] b t0 hrw.2 (by omega)
      rw [← hp] at hcall
      have HCALL := Lib.hid hcall
      have HP := Lib.hid hp
      have hkz : (0 : Int) ≤ (k : Int) := by omega
      have hkn : (k : Int) < (n : Int) := by omega
      obtain ⟨au0, cu0, hu0, -, -, -⟩ := SliceAt.len t0
      subst hu0
      obtain ⟨mu0, hmu0⟩ : ∃ m, m = (l[k]).length := ⟨_, rfl⟩
      rw [← hmu0] at c0 HCALL
      clear hrw t0 hxl hcall hp hmu0
      go_wp2_with fail
      refine HCALL.out.mono ?_
      rintro e w1 ⟨rfl, q1, hw1⟩
      have HK1 : Hid (∃ q, w1 = w.drewN q) := Lib.hid (by obtain ⟨q, hq⟩ := HK.out; rw [hw1, hq]; exact ⟨_, World.drewN_drewN _ _ _⟩)
      clear hw1 c0
      cases p with
      | true =>
        have HLT2 : Hid (∀ j, j < k + 1 → ∀ hj : j < l.length, Lib.compareBytes l[j] b < 0) := Lib.hid fun j hj hl => by
          by_cases hjk : j = k
          · subst hjk; exact of_decide_eq_true HP.out.symm
          · exact HLT.out j (by omega) hl
        go_wp2_with fail
        go_roundw
        case rel => exact ⟨k + 1, by omega, num_eq (by omega), HLT2, HK1⟩
        case measure => simp [intOf]; omega
      | false =>
        have HNLT : Hid (¬ Lib.compareBytes (l[k]'(by have := HN.out; omega)) b < 0) := Lib.hid (of_decide_eq_false HP.out.symm)
        obtain ⟨wr, rfl⟩ : ∃ W, W = w1 := ⟨_, rfl⟩
        replace HK := HK1
        clear HK1 HCALL hkz hkn
        have hq := HK.out
        obtain ⟨q, hq⟩ := hq
        have hbwr : Below w.heap.size w wr := by rw [hq]; exact ⟨rfl, rfl, rfl, Nat.le_refl _, fun _ _ => rfl⟩
        have hwrs : wr.heap.size = w.heap.size := by rw [hq]; rfl
        have hRr := RowsAt.below HH.out hbwr
        have hBr := BytesAt.below HBB.out hbwr
        have hput := put_at l b k HLT.out (by have := HN.out; omega) (.inr ⟨by have := HN.out; omega, HNLT.out⟩)
        have HRR := Lib.hid hRr
        have HBR := Lib.hid hBr
        have HBW := Lib.hid hbwr
        have HWS := Lib.hid hwrs
        clear hq hbwr hwrs
        obtain ⟨x, hxx⟩ : ∃ x, x = l[k]'(by have := HN.out; omega) := ⟨_, rfl⟩
        obtain ⟨u, c0, t0⟩ := RowsAt.cell HRR.out k (by have := HN.out; omega)
        rw [← hxx] at t0
        obtain ⟨ax, cx, rfl, -, -, -⟩ := SliceAt.len t0
        have s1 := fun nq => run_string_at (P := Try.prog) (BytesAt.draws t0 nq) 25 5 9 Try.underlying25 Try.underlying5 Try.underlying9
        have s2 := fun nq => run_string_at (P := Try.prog) (BytesAt.draws HBR.out nq) 25 5 9 Try.underlying25 Try.underlying5 Try.underlying9
        have hkn' : (k : Int) < (n : Int) := by omega
        have hkz' : (0 : Int) ≤ (k : Int) := by omega
        by_cases hsame : k < l.length ∧ x = b
        · have hput2 : put l b = l := by rw [hput, dif_pos ⟨by have := HN.out; omega, by rw [← hxx]; exact hsame.2⟩]
          obtain rfl := hsame.2
          have HPUT := Lib.hid hput2
          clear hput hput2 hRr hBr hsame hxx t0
          go_wp2_with fail
          go_quiet (fail)
          go_wp2
          go_ret
          rw [HPUT.out]
          refine ⟨_, _, _, rfl, RowsAt.carry HRR.out (fun b hlt hb => .inl hb.1) (fun _ _ _ => rfl), ?_⟩
          have := HBW.out
          exact ⟨this.os, this.tape, this.output, this.size, this.block⟩
        · rw [dif_neg (fun e => hsame ⟨by have := HN.out; omega, by rw [hxx]; exact e.2⟩)] at hput
          have HPUT := Lib.hid hput
          have hb1 : (x == b) = false := by
            have : ¬ x = b := fun e => hsame ⟨by have := HN.out; omega, e⟩
            simp [this]
          clear hput hRr hBr hsame hxx t0
          go_wp2_with fail
          go_quiet (fail)
          clear s1 s2 hb1
          obtain ⟨W, hW⟩ : ∃ W' : World, W' = wr.drewN nq := ⟨_, rfl⟩
          have hbW : Below w.heap.size w W := by rw [hW]; have := HBW.out; exact ⟨this.os, this.tape, this.output, this.size, this.block⟩
          have hsW : W.heap.size = w.heap.size := by rw [hW]; exact HWS.out
          obtain ⟨W1, hW1⟩ : ∃ W' : World, W' = W.alloc (.cells #[] 25) := ⟨_, rfl⟩
          have hb1 : Below W.heap.size W W1 := by rw [hW1]; exact Bel.alloc (Bel.refl W) _
          have hk1 : W1.heap[W.heap.size]? = some (.cells #[] 25 (0, 0)) := by rw [hW1]; exact heap_alloc_new W _
          have hs1 : W1.heap.size = W.heap.size + 1 := by rw [hW1]; simp
          have ho1 : OwnList rowR (fun b => (F b ∧ b < w.heap.size) ∨ w.heap.size ≤ b) W.heap.size W1 25 1 (.slice (some ⟨W.heap.size, 0, none⟩) 0 0) ([] : List (List UInt8)) := OwnList.empty W.heap.size 0 (Nat.le_refl _) (by decide) _ hk1 rfl
          have hsrc := RowsAt.below (RowsAt.upto (RowsAt.below HH.out hbW) k (by omega)) hb1
          obtain ⟨R1, j1, j2, j3, j4⟩ := ho1.join carriedRow hsrc (fun b hlt hb => ⟨.inl hb, fun e => by simp [Value.ownBlock] at e; have := hb.2; omega⟩)
          have hle1 : (([] : List (List UInt8)).length + (l.take k).length) * 24 ≤ 140737488355328 := by simp; omega
          have HWE := Lib.hid hW
          have HW1 := Lib.hid hW1
          have HBW1 := Lib.hid (hbW.trans (hb1.mono (by omega)))
          have HJ1 := Lib.hid j1
          have HJ2 := Lib.hid j2
          have HJ3 := Lib.hid j3
          have HJ4 := Lib.hid j4
          have HL1 := Lib.hid hle1
          have hgeW : W.heap.size ≤ W1.heap.size := by omega
          have HSW := Lib.hid hsW
          have HS1 := Lib.hid hs1
          clear hbW hsW hb1 hk1 ho1 hsrc j1 j2 j3 j4 hle1 hW1 hW hs1
          try rw [← HWE.out]
          go_wp2_with (at_builtin; (try rw [← HWE.out]); (try rw [← HW1.out]); refine wpList_append_at rfl (.tmp 37) (.tmp 40) 22 rfl W.heap.size 25 i0 (.slice none 0 0) 1 24 underlyingRows hi hz0 hz1 hz2 rfl (by decide) (by decide) HJ1.out (.slice (some ⟨W.heap.size, 0, none⟩) 0 0) [] rfl HJ2.out _ (l.take k) _ rfl HJ3.out HL1.out hgeW ?nexta1)
          case nexta1 =>
          intro v2 w2 ho hg hm
          have ho2 := HJ4.out _ _ ho hg hm
          have hown1 := (OwnAt.own HJ2.out)
          obtain ⟨a2, c2, hv2, -, -, -⟩ := ho2.len
          obtain ⟨m2, hm2⟩ : ∃ m, m = ([] ++ l.take k).length := ⟨_, rfl⟩
          rw [← hm2] at hv2
          subst hv2
          have hb2 : Below w.heap.size w w2 := HBW1.out.grown hg HBW1.out.size (fun j hj => by have := (hown1 j hj).1; have := HSW.out; omega)
          rw [List.nil_append] at ho2
          have HO2 := Lib.hid ho2
          have HB2 := Lib.hid hb2
          have hm2b : m2 ≤ 1099511627776 := by rw [hm2]; simp; omega
          clear ho hg hm ho2 hb2 hown1 hm2
          obtain ⟨i8, hi8, hy0, hy1, hy2⟩ := info_parts infoU8
          obtain ⟨W2, hW2⟩ : ∃ W' : World, W' = w2.alloc (.cells #[] 5) := ⟨_, rfl⟩
          have hb22 : Below w2.heap.size w2 W2 := by rw [hW2]; exact Bel.alloc (Bel.refl w2) _
          have hown8 : OwnAt W2 w2.heap.size 5 1 byteR (.slice (some ⟨w2.heap.size, 0, none⟩) 0 0) ([] : List UInt8) := by
            rw [hW2]; exact ⟨[], World.ownsRow_made w2 #[] 0 (Nat.le_refl _) (by decide) rfl, Rows.nil _ _⟩
          have hsrc8 := BytesAt.below (BytesAt.below HBB.out HB2.out) hb22
          have hle8 : (([] : List UInt8).length + b.length) * 1 ≤ 140737488355328 := by have := HBL.out; simp; omega
          have HW2 := Lib.hid hW2
          have HO22 := Lib.hid (HO2.out.call carriedRow hb22)
          have HB22 := Lib.hid hb22
          have hs22 := hb22.size
          have HOWN8 := Lib.hid hown8
          have HSRC8 := Lib.hid hsrc8
          have HLE8 := Lib.hid hle8
          clear hb22 hown8 hsrc8 hle8 hW2
          go_wp2_with (at_builtin; (try rw [← HW2.out]); refine wpList_append_at rfl (.tmp 43) (.tmp 44) 25 rfl w2.heap.size 5 i8 (.int .u8 0) 1 1 underlying25 hi8 hy0 hy1 hy2 rfl (by decide) (by decide) byteR.one (.slice (some ⟨w2.heap.size, 0, none⟩) 0 0) [] rfl HOWN8.out _ b _ rfl HSRC8.out HLE8.out hs22 ?nextb1)
          case nextb1 =>
          intro v3 w3 ho hg hm
          have hown8 := HOWN8.out.own
          obtain ⟨a3, c3, hv3, -, -, -⟩ := ho.len
          have hat3 := ho.at (F := fun x => w2.heap.size ≤ x) (fun _ _ h _ => h) (by decide)
          obtain ⟨m3, hm3⟩ : ∃ m, m = b.length := ⟨_, rfl⟩
          subst hv3
          try simp only [List.nil_append] at hat3 ⊢
          rw [← hm3] at hat3 ⊢
          have hb3 : Below w2.heap.size w2 w3 := HB22.out.grown hg HB22.out.size (fun j hj => (hown8 j hj).1)
          have ho3 := HO2.out.call carriedRow hb3
          have hown2 := HO2.out.own
          obtain ⟨R3, j1, j2, j3, j4⟩ := ho3.push carriedRow (H := fun x => w2.heap.size ≤ x) (cs := [.slice a3 m3 c3]) (x := b) ⟨_, rfl, hat3⟩ rfl (by decide) (fun x _ hx => ⟨.inr (by have := HB2.out.size; omega), fun e => by have := (hown2 x e).2; omega⟩) 25
          have hle3 : ((l.take k).length + [b].length) * 24 ≤ 140737488355328 := by simp; omega
          have hbase3 : W.heap.size ≤ (w3.alloc (.cells [.slice a3 m3 c3].toArray 25)).heap.size := by have := HB2.out.size; have := hb3.size; have := HSW.out; simp; omega
          have HB3 := Lib.hid (Bel.call HB2.out hb3)
          have HJ5 := Lib.hid j1
          have HJ6 := Lib.hid j2
          have HJ7 := Lib.hid j3
          have HJ8 := Lib.hid j4
          have HL3 := Lib.hid hle3
          have HBASE3 := Lib.hid hbase3
          clear ho hg hm hown8 hat3 hb3 ho3 j1 j2 j3 j4 hle3 hbase3 hown2 hm3
          go_wp2_with (at_builtin; refine wpList_append_at rfl (.tmp 42) (.tmp 46) 22 rfl W.heap.size 25 i0 (.slice none 0 0) 1 24 underlyingRows hi hz0 hz1 hz2 rfl (by decide) (by decide) HJ5.out (.slice a2 m2 c2) (l.take k) rfl HJ6.out _ [b] (fun _ => True) rfl HJ7.out HL3.out HBASE3.out ?nextc1)
          case nextc1 =>
          intro v4 w4 ho hg hm
          have ho4 := HJ8.out _ _ ho hg hm
          have hown6 := OwnAt.own HJ6.out
          obtain ⟨a4, c4, hv4, -, -, -⟩ := ho4.len
          obtain ⟨m4, hm4⟩ : ∃ m, m = (l.take k ++ [b]).length := ⟨_, rfl⟩
          rw [← hm4] at hv4
          subst hv4
          have hb4 : Below w.heap.size w w4 := (Bel.alloc HB3.out _).grown hg (by have := HB3.out.size; simp; omega) (fun j hj => by have := (hown6 j hj).1; have := HSW.out; omega)
          have hsrc4 := RowsAt.since (RowsAt.below HH.out hb4) k (by omega) (a2 := some ⟨rb0, ro0 + k, none⟩) (by rw [if_neg (by omega)]; exact congrArg some (by unfold Addr.add; split <;> simp_all))
          have hown4 := ho4.own
          obtain ⟨R5, j1, j2, j3, j4⟩ := ho4.join carriedRow hsrc4 (fun x hlt hx => ⟨.inl hx, fun e => by have := (hown4 x e).1; have := hx.2; have := HSW.out; omega⟩)
          have hle4 : ((l.take k ++ [b]).length + (l.drop k).length) * 24 ≤ 140737488355328 := by have := HN.out; simp; omega
          have hbase4 : W.heap.size ≤ w4.heap.size := by have := hb4.size; have := HSW.out; omega
          have HB4 := Lib.hid hb4
          have HJ9 := Lib.hid j1
          have HJA := Lib.hid j2
          have HJB := Lib.hid j3
          have HJC := Lib.hid j4
          have HL4 := Lib.hid hle4
          have HOWN4 := Lib.hid hown4
          clear ho hg hm ho4 hown6 hm4 hb4 hsrc4 hown4 j1 j2 j3 j4 hle4
          go_wp2_with (at_builtin; refine wpList_append_at rfl (.tmp 48) (.tmp 51) 22 rfl W.heap.size 25 i0 (.slice none 0 0) 1 24 underlyingRows hi hz0 hz1 hz2 rfl (by decide) (by decide) HJ9.out (.slice a4 m4 c4) (l.take k ++ [b]) rfl HJA.out (.slice (some ⟨rb0, ro0 + k, none⟩) (n - k) (c - k)) (l.drop k) _ rfl HJB.out HL4.out hbase4 ?nextd1)
          case nextd1 =>
          intro v6 w6 ho hg hm
          try rw [List.append_cons] at ho
          have ho6 := HJC.out _ _ ho hg hm
          obtain ⟨a6, c6, hv6, -, -, -⟩ := ho6.len
          have hrows : RowsAt (fun x => F x ∨ w.heap.size ≤ x) w6 v6 (l.take k ++ [b] ++ l.drop k) := ho6.at carriedRow (fun x hx _ => by rcases hx with hx | hx; exact .inl hx.1; exact .inr hx) (fun x hx _ => .inr (by have := HSW.out; omega)) (by decide)
          obtain ⟨m6, hm6⟩ : ∃ m, m = (l.take k ++ [b] ++ l.drop k).length := ⟨_, rfl⟩
          rw [← hm6] at hv6
          subst hv6
          have hb6 : Below w.heap.size w w6 := HB4.out.grown hg HB4.out.size (fun j hj => by have := (HOWN4.out j hj).1; have := HSW.out; omega)
          have HROWS := Lib.hid hrows
          have HB6 := Lib.hid hb6
          clear ho hg hm ho6 hrows hm6 hb6
          go_wp2_with fail
          go_ret
          rw [HPUT.out]
          exact ⟨a6, m6, c6, rfl, HROWS.out, HB6.out⟩
    · obtain rfl : n = k := by omega
      obtain ⟨k, rfl⟩ : ∃ k, k = n := ⟨_, rfl⟩
      have hq := HK.out
      obtain ⟨q, hq⟩ := hq
      have hbwr : Below w.heap.size w wr := by rw [hq]; exact ⟨rfl, rfl, rfl, Nat.le_refl _, fun _ _ => rfl⟩
      have hwrs : wr.heap.size = w.heap.size := by rw [hq]; rfl
      have hRr := RowsAt.below HH.out hbwr
      have hBr := BytesAt.below HBB.out hbwr
      have hput := put_at l b k HLT.out (by have := HN.out; omega) (.inl (by have := HN.out; omega))
      have HRR := Lib.hid hRr
      have HBR := Lib.hid hBr
      have HBW := Lib.hid hbwr
      have HWS := Lib.hid hwrs
      clear hq hbwr hwrs
      by_cases hsame : False
      · exact hsame.elim
      · rw [dif_neg (fun e => absurd e.1 (by have := HN.out; omega))] at hput
        have HPUT := Lib.hid hput
        clear hput hRr hBr
        clear hsame
        go_wp2_with fail
        go_quiet (fail)
        obtain ⟨W, hW⟩ : ∃ W' : World, W' = wr.drewN nq := ⟨_, rfl⟩
        have hbW : Below w.heap.size w W := by rw [hW]; have := HBW.out; exact ⟨this.os, this.tape, this.output, this.size, this.block⟩
        have hsW : W.heap.size = w.heap.size := by rw [hW]; exact HWS.out
        obtain ⟨W1, hW1⟩ : ∃ W' : World, W' = W.alloc (.cells #[] 25) := ⟨_, rfl⟩
        have hb1 : Below W.heap.size W W1 := by rw [hW1]; exact Bel.alloc (Bel.refl W) _
        have hk1 : W1.heap[W.heap.size]? = some (.cells #[] 25 (0, 0)) := by rw [hW1]; exact heap_alloc_new W _
        have hs1 : W1.heap.size = W.heap.size + 1 := by rw [hW1]; simp
        have ho1 : OwnList rowR (fun b => (F b ∧ b < w.heap.size) ∨ w.heap.size ≤ b) W.heap.size W1 25 1 (.slice (some ⟨W.heap.size, 0, none⟩) 0 0) ([] : List (List UInt8)) := OwnList.empty W.heap.size 0 (Nat.le_refl _) (by decide) _ hk1 rfl
        have hsrc := RowsAt.below (RowsAt.upto (RowsAt.below HH.out hbW) k (by omega)) hb1
        obtain ⟨R1, j1, j2, j3, j4⟩ := ho1.join carriedRow hsrc (fun b hlt hb => ⟨.inl hb, fun e => by simp [Value.ownBlock] at e; have := hb.2; omega⟩)
        have hle1 : (([] : List (List UInt8)).length + (l.take k).length) * 24 ≤ 140737488355328 := by simp; omega
        have HWE := Lib.hid hW
        have HW1 := Lib.hid hW1
        have HBW1 := Lib.hid (hbW.trans (hb1.mono (by omega)))
        have HJ1 := Lib.hid j1
        have HJ2 := Lib.hid j2
        have HJ3 := Lib.hid j3
        have HJ4 := Lib.hid j4
        have HL1 := Lib.hid hle1
        have hgeW : W.heap.size ≤ W1.heap.size := by omega
        have HSW := Lib.hid hsW
        have HS1 := Lib.hid hs1
        clear hbW hsW hb1 hk1 ho1 hsrc j1 j2 j3 j4 hle1 hW1 hW hs1
        try rw [← HWE.out]
        go_wp2_with (at_builtin; (try rw [← HWE.out]); (try rw [← HW1.out]); refine wpList_append_at rfl (.tmp 37) (.tmp 40) 22 rfl W.heap.size 25 i0 (.slice none 0 0) 1 24 underlyingRows hi hz0 hz1 hz2 rfl (by decide) (by decide) HJ1.out (.slice (some ⟨W.heap.size, 0, none⟩) 0 0) [] rfl HJ2.out _ (l.take k) _ rfl HJ3.out HL1.out hgeW ?nexta2)
        case nexta2 =>
        intro v2 w2 ho hg hm
        have ho2 := HJ4.out _ _ ho hg hm
        have hown1 := (OwnAt.own HJ2.out)
        obtain ⟨a2, c2, hv2, -, -, -⟩ := ho2.len
        obtain ⟨m2, hm2⟩ : ∃ m, m = ([] ++ l.take k).length := ⟨_, rfl⟩
        rw [← hm2] at hv2
        subst hv2
        have hb2 : Below w.heap.size w w2 := HBW1.out.grown hg HBW1.out.size (fun j hj => by have := (hown1 j hj).1; have := HSW.out; omega)
        rw [List.nil_append] at ho2
        have HO2 := Lib.hid ho2
        have HB2 := Lib.hid hb2
        have hm2b : m2 ≤ 1099511627776 := by rw [hm2]; simp; omega
        clear ho hg hm ho2 hb2 hown1 hm2
        obtain ⟨i8, hi8, hy0, hy1, hy2⟩ := info_parts infoU8
        obtain ⟨W2, hW2⟩ : ∃ W' : World, W' = w2.alloc (.cells #[] 5) := ⟨_, rfl⟩
        have hb22 : Below w2.heap.size w2 W2 := by rw [hW2]; exact Bel.alloc (Bel.refl w2) _
        have hown8 : OwnAt W2 w2.heap.size 5 1 byteR (.slice (some ⟨w2.heap.size, 0, none⟩) 0 0) ([] : List UInt8) := by
          rw [hW2]; exact ⟨[], World.ownsRow_made w2 #[] 0 (Nat.le_refl _) (by decide) rfl, Rows.nil _ _⟩
        have hsrc8 := BytesAt.below (BytesAt.below HBB.out HB2.out) hb22
        have hle8 : (([] : List UInt8).length + b.length) * 1 ≤ 140737488355328 := by have := HBL.out; simp; omega
        have HW2 := Lib.hid hW2
        have HO22 := Lib.hid (HO2.out.call carriedRow hb22)
        have HB22 := Lib.hid hb22
        have hs22 := hb22.size
        have HOWN8 := Lib.hid hown8
        have HSRC8 := Lib.hid hsrc8
        have HLE8 := Lib.hid hle8
        clear hb22 hown8 hsrc8 hle8 hW2
        go_wp2_with (at_builtin; (try rw [← HW2.out]); refine wpList_append_at rfl (.tmp 43) (.tmp 44) 25 rfl w2.heap.size 5 i8 (.int .u8 0) 1 1 underlying25 hi8 hy0 hy1 hy2 rfl (by decide) (by decide) byteR.one (.slice (some ⟨w2.heap.size, 0, none⟩) 0 0) [] rfl HOWN8.out _ b _ rfl HSRC8.out HLE8.out hs22 ?nextb2)
        case nextb2 =>
        intro v3 w3 ho hg hm
        have hown8 := HOWN8.out.own
        obtain ⟨a3, c3, hv3, -, -, -⟩ := ho.len
        have hat3 := ho.at (F := fun x => w2.heap.size ≤ x) (fun _ _ h _ => h) (by decide)
        obtain ⟨m3, hm3⟩ : ∃ m, m = b.length := ⟨_, rfl⟩
        subst hv3
        try simp only [List.nil_append] at hat3 ⊢
        rw [← hm3] at hat3 ⊢
        have hb3 : Below w2.heap.size w2 w3 := HB22.out.grown hg HB22.out.size (fun j hj => (hown8 j hj).1)
        have ho3 := HO2.out.call carriedRow hb3
        have hown2 := HO2.out.own
        obtain ⟨R3, j1, j2, j3, j4⟩ := ho3.push carriedRow (H := fun x => w2.heap.size ≤ x) (cs := [.slice a3 m3 c3]) (x := b) ⟨_, rfl, hat3⟩ rfl (by decide) (fun x _ hx => ⟨.inr (by have := HB2.out.size; omega), fun e => by have := (hown2 x e).2; omega⟩) 25
        have hle3 : ((l.take k).length + [b].length) * 24 ≤ 140737488355328 := by simp; omega
        have hbase3 : W.heap.size ≤ (w3.alloc (.cells [.slice a3 m3 c3].toArray 25)).heap.size := by have := HB2.out.size; have := hb3.size; have := HSW.out; simp; omega
        have HB3 := Lib.hid (Bel.call HB2.out hb3)
        have HJ5 := Lib.hid j1
        have HJ6 := Lib.hid j2
        have HJ7 := Lib.hid j3
        have HJ8 := Lib.hid j4
        have HL3 := Lib.hid hle3
        have HBASE3 := Lib.hid hbase3
        clear ho hg hm hown8 hat3 hb3 ho3 j1 j2 j3 j4 hle3 hbase3 hown2 hm3
        go_wp2_with (at_builtin; refine wpList_append_at rfl (.tmp 42) (.tmp 46) 22 rfl W.heap.size 25 i0 (.slice none 0 0) 1 24 underlyingRows hi hz0 hz1 hz2 rfl (by decide) (by decide) HJ5.out (.slice a2 m2 c2) (l.take k) rfl HJ6.out _ [b] (fun _ => True) rfl HJ7.out HL3.out HBASE3.out ?nextc2)
        case nextc2 =>
        intro v4 w4 ho hg hm
        have ho4 := HJ8.out _ _ ho hg hm
        have hown6 := OwnAt.own HJ6.out
        obtain ⟨a4, c4, hv4, -, -, -⟩ := ho4.len
        obtain ⟨m4, hm4⟩ : ∃ m, m = (l.take k ++ [b]).length := ⟨_, rfl⟩
        rw [← hm4] at hv4
        subst hv4
        have hb4 : Below w.heap.size w w4 := (Bel.alloc HB3.out _).grown hg (by have := HB3.out.size; simp; omega) (fun j hj => by have := (hown6 j hj).1; have := HSW.out; omega)
        obtain ⟨a5, ha5⟩ : ∃ a5, (if c = k then (a : Option Addr) else (a : Option Addr).map (·.add k)) = a5 := ⟨_, rfl⟩
        have hsrc4 := RowsAt.since (RowsAt.below HH.out hb4) k (by omega) ha5
        rw [Nat.sub_self] at hsrc4
        have hown4 := ho4.own
        obtain ⟨R5, j1, j2, j3, j4⟩ := ho4.join carriedRow hsrc4 (fun x hlt hx => ⟨.inl hx, fun e => by have := (hown4 x e).1; have := hx.2; have := HSW.out; omega⟩)
        have hle4 : ((l.take k ++ [b]).length + (l.drop k).length) * 24 ≤ 140737488355328 := by have := HN.out; simp; omega
        have hbase4 : W.heap.size ≤ w4.heap.size := by have := hb4.size; have := HSW.out; omega
        have HB4 := Lib.hid hb4
        have HJ9 := Lib.hid j1
        have HJA := Lib.hid j2
        have HJB := Lib.hid j3
        have HJC := Lib.hid j4
        have HL4 := Lib.hid hle4
        have HOWN4 := Lib.hid hown4
        clear ho hg hm ho4 hown6 hm4 hb4 hsrc4 hown4 j1 j2 j3 j4 hle4
        go_wp2_with (at_builtin; refine wpList_append_at rfl (.tmp 48) (.tmp 51) 22 rfl W.heap.size 25 i0 (.slice none 0 0) 1 24 underlyingRows hi hz0 hz1 hz2 rfl (by decide) (by decide) HJ9.out (.slice a4 m4 c4) (l.take k ++ [b]) rfl HJA.out (.slice a5 0 (c - k)) (l.drop k) _ rfl HJB.out HL4.out hbase4 ?nextd2)
        case nextd2 =>
        intro v6 w6 ho hg hm
        try rw [List.append_cons] at ho
        have ho6 := HJC.out _ _ ho hg hm
        obtain ⟨a6, c6, hv6, -, -, -⟩ := ho6.len
        have hrows : RowsAt (fun x => F x ∨ w.heap.size ≤ x) w6 v6 (l.take k ++ [b] ++ l.drop k) := ho6.at carriedRow (fun x hx _ => by rcases hx with hx | hx; exact .inl hx.1; exact .inr hx) (fun x hx _ => .inr (by have := HSW.out; omega)) (by decide)
        obtain ⟨m6, hm6⟩ : ∃ m, m = (l.take k ++ [b] ++ l.drop k).length := ⟨_, rfl⟩
        rw [← hm6] at hv6
        subst hv6
        have hb6 : Below w.heap.size w w6 := HB4.out.grown hg HB4.out.size (fun j hj => by have := (HOWN4.out j hj).1; have := HSW.out; omega)
        have HROWS := Lib.hid hrows
        have HB6 := Lib.hid hb6
        clear ho hg hm ho6 hrows hm6 hb6
        go_wp2_with fail
        go_ret
        rw [HPUT.out]
        exact ⟨a6, m6, c6, rfl, HROWS.out, HB6.out⟩
end Go.Proofs.Ytndkkgkcbbmnpaa
namespace Go.Pg
theorem whole_memE (l : List (List UInt8)) (x : List UInt8) (h : x ∈ l) : x.length ≤ It.wholes (l.map .text) := by
  induction l with
  | nil => cases h
  | cons y r ih =>
    simp only [List.map_cons, It.wholes]
    rcases List.mem_cons.1 h with rfl | h
    · have := It.body_le_whole (.text x); simp only [It.body] at this; omega
    · have := ih h; omega
theorem textsI_leE (l : List (List UInt8)) : It.wholes (l.map .text) ≤ (textsI l).whole := by
  have := sz_ge (It.wholes (l.map .text))
  unfold textsI; simp only [It.whole]; omega
theorem witI_leE (N C : List (List UInt8)) : (textsI N).whole + (textsI C).whole ≤ (witI N C).whole := by
  have := sz_ge (It.wholes [textsI N, textsI C])
  unfold witI; simp only [It.whole]
  have : It.wholes [textsI N, textsI C] = (textsI N).whole + (textsI C).whole := by simp [It.wholes]
  omega
/-- what was read is small, however long the bytes are -/
theorem witDecode_smallE (B : List UInt8) (N C : List (List UInt8)) (h : witDecode B = (N, C, 0)) : N.length ≤ 16777215 ∧ C.length ≤ 16777215 ∧ (∀ x ∈ N, x.length ≤ 16777215) ∧ (∀ x ∈ C, x.length ≤ 16777215) := by
  obtain ⟨-, -, h2⟩ := witDecode_sound B N C h
  have hw := fits_body h2
  have h3 : (witI N C).body = (textsI N).whole + (textsI C).whole := by simp [witI, It.body, It.wholes]
  have h5 := textsI_leE N
  have h6 := textsI_leE C
  have h7 := It.length_le_wholes (N.map .text)
  have h8 := It.length_le_wholes (C.map .text)
  rw [List.length_map] at h7 h8
  exact ⟨by omega, by omega, fun x hx => by have := whole_memE N x hx; omega, fun x hx => by have := whole_memE C x hx; omega⟩
theorem witDecode_len (B : List UInt8) : (witDecode B).1.length ≤ 16777215 ∧ (witDecode B).2.1.length ≤ 16777215 ∧ (∀ x ∈ (witDecode B).1, x.length ≤ 16777215) ∧ (∀ x ∈ (witDecode B).2.1, x.length ≤ 16777215) := by
  rcases witDecode_cases B with ⟨N, C, h⟩ | h
  · rw [h]; exact witDecode_smallE B N C h
  · rw [h]; simp
theorem OwnList.one {G : Nat → Prop} {n : Nat} {W : World} {e : TypeId} {v : Value} {l : List (List UInt8)} (h : OwnList rowR G n W e 1 v l) : OwnAt W n e 1 (rowR G W) v l := by
  obtain ⟨F, h1, h2, h3⟩ := h
  exact h3.mono fun cs x _ hx => carriedRow.carry hx (fun b _ hb => (h1 b hb).1) (fun _ _ _ => rfl)
end Go.Pg
namespace Go.Proofs.Ytndkkgkcbbmnpaa
open Go.RowKit Go.Pg

set_option maxRecDepth 100000 in
set_option maxHeartbeats 4000000 in
theorem told_any (F : Nat → Prop) (w : World) (a : Option Addr) (n c : Nat) (bs : List UInt8) (h : BytesAt F w (.slice a n c) bs) (hn : n ≤ 140737488351232) :
    Calls Try.prog 38 #[.slice a n c] w (SortD w ((witDecode bs).1 ++ (witDecode bs).2.1)) := by
  have hnl := (BytesAt.n h).1
  obtain ⟨l1, l2, l3, l4⟩ := witDecode_len bs
  have hd := wdecodeO_any F w a n c bs h (by omega)
  obtain ⟨N, C, d, hD⟩ : ∃ N C d, witDecode bs = (N, C, d) := ⟨_, _, _, rfl⟩
  rw [hD] at l1 l2 l3 l4 hd
  rw [hD]
  simp only at l1 l2 l3 l4 ⊢
  obtain ⟨i0, hi, hz0, hz1, hz2⟩ := info_parts infoRow
  have HL1 := Lib.hid l1
  have HL2 := Lib.hid l2
  have HL3 := Lib.hid l3
  have HL4 := Lib.hid l4
  have HNL := Lib.hid hnl
  have HDEC := Lib.hid hd
  clear l1 l2 l3 l4 hnl hd hD h
  go_enter Try.func38, Try.ntmps38
  go_wp2_with fail
  refine HDEC.out.mono ?_
  rintro e w3 ⟨N0, a1, n1, c1, a2, n2, c2, rfl, hN0, ho1, ho2, hb3⟩
  try simp only at ho1 ho2 ⊢
  obtain ⟨W3, hW3⟩ : ∃ W : World, W = w3.alloc (.cells #[.slice a1 n1 c1, .slice a2 n2 c2] 24) := ⟨_, rfl⟩
  have hbx : Below w3.heap.size w3 W3 := by rw [hW3]; exact Bel.alloc (Bel.refl w3) _
  have hk3 : W3.heap[w3.heap.size]? = some (.cells #[.slice a1 n1 c1, .slice a2 n2 c2] 24 (0, 0)) := by rw [hW3]; exact heap_alloc_new w3 _
  have hsW : W3.heap.size = w3.heap.size + 1 := by rw [hW3]; simp
  obtain ⟨p0, p1⟩ := cells2 hk3
  have hO1 := (ho1.call carriedRow hbx)
  have hO2 := (ho2.call carriedRow hbx)
  have hbase : N0 ≤ W3.heap.size ∨ (a1 = none ∧ a2 = none) := by
    by_cases hle : N0 ≤ W3.heap.size
    · exact .inl hle
    · refine .inr ⟨?_, ?_⟩
      · cases a1 with
        | none => rfl
        | some ad => have := ho1.own ad.block rfl; omega
      · cases a2 with
        | none => rfl
        | some ad => have := ho2.own ad.block rfl; omega
  have hlow1 : OwnList rowR (fun b => w.heap.size ≤ b ∧ b < N0) (min N0 W3.heap.size) W3 25 1 (.slice a1 n1 c1) N := hO1.weaken (fun _ h => h) (Nat.min_le_left _ _)
  have hown := OwnList.one hlow1
  have hsrc : SliceAt (fun _ => True) W3 1 (rowR (fun b => w.heap.size ≤ b ∧ b < N0) W3) (.slice a2 n2 c2) C := (OwnList.one hO2).at (fun _ _ _ _ => trivial) (by decide)
  have hle : (N.length + C.length) * 24 ≤ 140737488355328 := by have := HL1.out; have := HL2.out; have := HNL.out; omega
  have HW3 := Lib.hid hW3
  have HOWN := Lib.hid hown
  have HSRC := Lib.hid hsrc
  have HB3 := Lib.hid (Bel.call hb3 hbx)
  have HO1 := Lib.hid hO1
  have HBASE := Lib.hid hbase
  have HN0 := Lib.hid hN0
  clear ho1 ho2 hb3 hbx hk3 hsW hO1 hO2 hlow1 hown hsrc hbase hN0 hW3
  go_wp2_with (at_builtin; (try rw [← HW3.out]); refine wpList_append_at rfl (.tmp 11) (.tmp 13) 22 rfl (min N0 W3.heap.size) 25 i0 (.slice none 0 0) 1 24 underlyingRows hi hz0 hz1 hz2 rfl (by decide) (by decide) (fun cs x hx => rowR.one cs x hx) (.slice a1 n1 c1) N rfl HOWN.out (.slice a2 n2 c2) C (fun _ => True) rfl HSRC.out hle (Nat.min_le_right _ _) ?next)
  case next =>
  intro v' w4 ho hg hm
  have hrows : RowsAt (fresh w) w4 v' (N ++ C) := by
    have h1 : OwnAt w4 (min N0 W3.heap.size) 25 1 (rowR (fresh w) w4) v' (N ++ C) := ho.mono fun cs x _ hx => carriedRow.carry hx (fun b _ hb => hb.1) (fun b hb hlt => hg.block b hlt (fun e => by
      have h2 := (HO1.out.own b e.symm).1
      have h3 := hb.2
      omega))
    exact h1.at (fun b _ hb _ => by
      have h2 := HN0.out
      have h3 := HB3.out.size
      show w.heap.size ≤ b
      have : min N0 W3.heap.size ≤ b := hb
      omega) (by decide)
  obtain ⟨a4, c4, hv4, -, -, -⟩ := ho.len
  obtain ⟨m4, hm4⟩ : ∃ m, m = (N ++ C).length := ⟨_, rfl⟩
  rw [← hm4] at hv4
  subst hv4
  have hb4 : Below w.heap.size w w4 := HB3.out.grown hg HB3.out.size (fun k hk => by have := (HO1.out.own k hk).1; have := HN0.out; omega)
  have hm4b : m4 ≤ 1099511627776 := by rw [hm4, List.length_append]; have := HL1.out; have := HL2.out; have := HNL.out; omega
  have hcall := sorted_any (fresh w) w4 a4 m4 c4 (N ++ C) hrows hm4b (fun x hx => by
    have := HNL.out
    rcases List.mem_append.1 hx with hx | hx
    · have := HL3.out x hx; omega
    · have := HL4.out x hx; omega)
  have HCALL := Lib.hid hcall
  have HB4 := Lib.hid hb4
  clear ho hg hm hrows hm4 hb4 hcall p0 p1
  go_wp2_with fail
  refine HCALL.out.mono ?_
  rintro e w5 ⟨a5, n5, c5, ts, rfl, r1, r2, hb5⟩
  have HR1 := Lib.hid r1
  have HR2 := Lib.hid r2
  have HB5 := Lib.hid hb5
  clear r1 r2 hb5
  go_wp2_with fail
  go_ret
  exact ⟨a5, n5, c5, ts, rfl, RowsAt.carry HR1.out (fun b _ hb => Nat.le_trans HB4.out.size hb) (fun _ _ _ => rfl), HR2.out, Bel.call HB4.out HB5.out⟩
end Go.Proofs.Ytndkkgkcbbmnpaa
namespace Go.Pg
open Go.RowKit
/-- texts laid in, one behind the other -/
def puts (l : List (List UInt8)) : List (List UInt8) := l.foldl put []
theorem puts_snoc (l : List (List UInt8)) (x : List UInt8) : puts (l ++ [x]) = put (puts l) x := by simp [puts]
theorem put_mem (l : List (List UInt8)) (b x : List UInt8) : x ∈ put l b ↔ x ∈ l ∨ x = b := by
  induction l with
  | nil => simp [put]
  | cons y r ih =>
    simp only [put]
    split
    · simp only [List.mem_cons, ih, or_assoc]
    · split
      · rename_i h; subst h; simp only [List.mem_cons]
        constructor
        · exact fun h => .inl h
        · rintro (h | h)
          · exact h
          · exact .inl h
      · simp only [List.mem_cons]
        constructor
        · rintro (h | h)
          · exact .inr h
          · exact .inl h
        · rintro (h | h)
          · exact .inr h
          · exact .inl h
theorem put_length (l : List (List UInt8)) (b : List UInt8) : (put l b).length ≤ l.length + 1 := by
  induction l with
  | nil => simp [put]
  | cons y r ih =>
    simp only [put]
    split
    · simp; omega
    · split <;> simp
theorem cmp_lt (x y : List UInt8) : (Lib.compareBytes x y < 0) ↔ x < y := decide_eq_decide.1 (lt_cmp x y)
theorem put_rising (l : List (List UInt8)) (b : List UInt8) (h : l.Pairwise (· < ·)) : (put l b).Pairwise (· < ·) := by
  induction l with
  | nil => simp [put]
  | cons y r ih =>
    obtain ⟨h1, h2⟩ := List.pairwise_cons.1 h
    simp only [put]
    split
    · rename_i hlt
      refine List.pairwise_cons.2 ⟨fun z hz => ?_, ih h2⟩
      rcases (put_mem _ _ _).1 hz with hz | rfl
      · exact h1 z hz
      · exact (cmp_lt _ _).1 hlt
    · rename_i hge
      split
      · exact h
      · rename_i hne
        have hb : b < y := by
          have h3 : ¬ y < b := fun e => hge ((cmp_lt _ _).2 e)
          rcases Std.lt_trichotomy (α := List UInt8) y b with h4 | h4 | h4
          · exact absurd h4 h3
          · exact absurd h4 hne
          · exact h4
        refine List.pairwise_cons.2 ⟨fun z hz => ?_, h⟩
        rcases List.mem_cons.1 hz with rfl | hz
        · exact hb
        · exact List.lt_trans hb (h1 z hz)
theorem puts_of (l m : List (List UInt8)) (h : m.Pairwise (· < ·)) : (l.foldl put m).Pairwise (· < ·) ∧ (l.foldl put m).length ≤ l.length + m.length ∧ ∀ x, x ∈ l.foldl put m ↔ x ∈ m ∨ x ∈ l := by
  induction l generalizing m with
  | nil => exact ⟨h, by simp, by simp⟩
  | cons y r ih =>
    obtain ⟨i1, i2, i3⟩ := ih (put m y) (put_rising m y h)
    have := put_length m y
    refine ⟨i1, by simp only [List.foldl_cons, List.length_cons]; omega, fun x => ?_⟩
    rw [List.foldl_cons, i3, put_mem, List.mem_cons, or_assoc]
theorem puts_rising (l : List (List UInt8)) : (puts l).Pairwise (· < ·) := (puts_of l [] List.Pairwise.nil).1
theorem puts_mem (l : List (List UInt8)) (x : List UInt8) : x ∈ puts l ↔ x ∈ l := by
  rw [puts, (puts_of l [] List.Pairwise.nil).2.2]; simp
theorem puts_small (l : List (List UInt8)) : (puts l).length ≤ l.length ∧ ∀ x, x ∈ puts l → x ∈ l := ⟨by have := (puts_of l [] List.Pairwise.nil).2.1; simpa [puts] using this, fun x hx => (puts_mem l x).1 hx⟩
/-- rising lists of the same things are the same -/
theorem rising_ext : ∀ (a b : List (List UInt8)) (_ : a.Pairwise (· < ·)) (_ : b.Pairwise (· < ·)) (_ : ∀ x, x ∈ a ↔ x ∈ b), a = b
  | [], [], _, _, _ => rfl
  | [], y :: r, _, _, h => by have := (h y).2 (List.mem_cons_self ..); cases this
  | x :: q, [], _, _, h => by have := (h x).1 (List.mem_cons_self ..); cases this
  | x :: q, y :: r, ha, hb, h => by
    obtain ⟨a1, a2⟩ := List.pairwise_cons.1 ha
    obtain ⟨b1, b2⟩ := List.pairwise_cons.1 hb
    have hxy : x = y := by
      rcases List.mem_cons.1 ((h x).1 (List.mem_cons_self ..)) with e | e
      · exact e
      · rcases List.mem_cons.1 ((h y).2 (List.mem_cons_self ..)) with e2 | e2
        · exact e2.symm
        · exact absurd (List.lt_trans (b1 x e) (a1 y e2)) (List.lt_irrefl y)
    subst hxy
    have : q = r := rising_ext q r a2 b2 fun z => by
      constructor
      · intro hz
        rcases List.mem_cons.1 ((h z).1 (List.mem_cons_of_mem _ hz)) with rfl | e
        · exact absurd (a1 z hz) (List.lt_irrefl z)
        · exact e
      · intro hz
        rcases List.mem_cons.1 ((h z).2 (List.mem_cons_of_mem _ hz)) with rfl | e
        · exact absurd (b1 z hz) (List.lt_irrefl z)
        · exact e
    rw [this]
end Go.Pg
namespace Go.Proofs.Ytndkkgkcbbmnpaa
open Go.RowKit Go.Pg

/-- rows in new memory -/
def RowsD (w : World) (l : List (List UInt8)) (e : Ending) (w' : World) : Prop :=
  ∃ a n c, e = .returned (.slice a n c) ∧ RowsAt (fresh w) w' (.slice a n c) l ∧ Below w.heap.size w w'

set_option maxRecDepth 100000 in
set_option maxHeartbeats 8000000 in
theorem rtold_any (F : Nat → Prop) (w : World) (a : Option Addr) (n c : Nat) (bs : List UInt8) (h : BytesAt F w (.slice a n c) bs) (hn : n ≤ 140737488351232) :
    Calls Try.prog 39 #[.slice a n c] w (RowsD w (puts ((witDecode bs).1 ++ (witDecode bs).2.1))) := by
  have hnl := (BytesAt.n h).1
  obtain ⟨l1, l2, l3, l4⟩ := witDecode_len bs
  have hd := rwdecode_any F w a n c bs h hn
  rw [refDecode_eq] at hd
  obtain ⟨N, C, d, hD⟩ := triple (witDecode bs)
  rw [hD] at l1 l2 l3 l4 hd
  rw [hD]
  simp only at l1 l2 l3 l4 ⊢
  have HXN : Hid (∀ x ∈ N, x.length ≤ 16777216) := Lib.hid fun x hx => by have := l3 x hx; omega
  have HXC : Hid (∀ x ∈ C, x.length ≤ 16777216) := Lib.hid fun x hx => by have := l4 x hx; omega
  have HBN : Hid (N.length ≤ 16777216) := Lib.hid (by omega)
  have HBC : Hid (C.length ≤ 16777216) := Lib.hid (by omega)
  have HDEC := Lib.hid hd
  clear l1 l2 l3 l4 hnl hd hD h
  go_enter Try.func39, Try.ntmps39
  go_wp2_with fail
  refine HDEC.out.mono ?_
  rintro e w3 ⟨a1, n1, c1, a2, n2, c2, rfl, hN0, hC0, hb3⟩
  try simp only at hN0 hC0 ⊢
  obtain ⟨W3, hW3⟩ : ∃ W : World, W = w3.alloc (.cells #[.slice a1 n1 c1, .slice a2 n2 c2] 24) := ⟨_, rfl⟩
  have hbx : Below w3.heap.size w3 W3 := by rw [hW3]; exact Bel.alloc (Bel.refl w3) _
  have hk3 : W3.heap[w3.heap.size]? = some (.cells #[.slice a1 n1 c1, .slice a2 n2 c2] 24 (0, 0)) := by rw [hW3]; exact heap_alloc_new w3 _
  have hsW : w3.heap.size < W3.heap.size := by rw [hW3]; simp
  obtain ⟨p0, p1⟩ := cells2 hk3
  have hn1 : n1 = N.length := by
    obtain ⟨a', c', hv, -⟩ := SliceAt.len hN0
    simp only [Value.slice.injEq] at hv
    exact hv.2.1
  have hn2 : n2 = C.length := by
    obtain ⟨a', c', hv, -⟩ := SliceAt.len hC0
    simp only [Value.slice.injEq] at hv
    exact hv.2.1
  have HN1 := Lib.hid hn1
  have HN2 := Lib.hid hn2
  have HRN := Lib.hid (RowsAt.below hN0 hbx)
  have HRC := Lib.hid (RowsAt.below hC0 hbx)
  have HB3 := Lib.hid (Bel.call hb3 hbx)
  have HW3 := Lib.hid hW3
  have HK3 := Lib.hid hk3
  have HSW := Lib.hid hsW
  have HWW : Hid (w.heap.size ≤ W3.heap.size) := Lib.hid HB3.out.size
  have hn1b : n1 ≤ 16777216 := by have := HBN.out; omega
  have hn2b : n2 ≤ 16777216 := by have := HBC.out; omega
  clear hN0 hC0 hb3 hbx hk3 hsW hn1 hn2 hW3
  go_wp2_with (fail)
  try rw [← HW3.out]
  go_loopw [3, 6] (fun lv i wr => ∃ (k : Nat) (a4 : Option Addr) (m4 c4 : Nat), k ≤ n1 ∧ i = .int .i64 k ∧ lv = .slice a4 m4 c4 ∧ Hid (RowsAt (fresh w) wr (.slice a4 m4 c4) (puts ([] ++ N.take k))) ∧ Hid (Below W3.heap.size W3 wr)) (fun _ i _ => n1 - (intOf i).toNat)
  case atStart => exact ⟨0, none, 0, 0, Nat.zero_le _, rfl, rfl, Lib.hid (SliceAt.nil _ _ _ _), Lib.hid (Below.refl _ _)⟩
  case round =>
    obtain ⟨k, a4, m4, c4, hk, rfl, rfl, HR, HB⟩ := hrel
    obtain ⟨p0, p1⟩ := cells2 ((HB.out.block _ HSW.out).trans HK3.out)
    by_cases hlt : k < n1
    · rcases SliceAt.split HRN.out with ⟨_, h0⟩ | ⟨b, o, rfl, -, -, -⟩
      · omega
      have hkl : k < N.length := by have := HN1.out; omega
      obtain ⟨u, c0, t0⟩ := RowsAt.cell (RowsAt.below HRN.out HB.out) k hkl
      obtain ⟨au, cu, rfl, -, -, -⟩ := SliceAt.len t0
      obtain ⟨hlen, hmem⟩ := puts_small ([] ++ N.take k)
      have hm4 : m4 = (puts ([] ++ N.take k)).length := by
        obtain ⟨a', c', hv, -⟩ := SliceAt.len HR.out
        simp only [Value.slice.injEq] at hv
        exact hv.2.1
      have hle : ([] ++ N.take k).length ≤ 33554432 := by
        have h1 := HBN.out; have h2 := HBC.out; have h3 : (N.take k).length ≤ N.length := by rw [List.length_take]; exact Nat.min_le_right ..
        simp only [List.length_append]; try simp only [List.length_nil]
        omega
      have hcall := put_any (fresh w) _ wr a4 m4 c4 (puts ([] ++ N.take k)) au _ cu N[k] HR.out t0 (by omega) (by have := HXN.out _ (List.getElem_mem hkl); omega) (fun x hx => by
        have h1 := hmem x hx
        rcases List.mem_append.1 h1 with h1 | h1
        · cases h1
        · have := HXN.out x (List.mem_of_mem_take h1); omega)
      rw [← puts_snoc, List.append_assoc, ← List.take_succ_eq_append_getElem hkl] at hcall
      obtain ⟨m, hm⟩ : ∃ m, m = (N[k]).length := ⟨_, rfl⟩
      rw [← hm] at c0 hcall
      have HCALL := Lib.hid hcall
      have hkz : (0 : Int) ≤ (k : Int) := by omega
      have hkn : (k : Int) < (n1 : Int) := by omega
      clear t0 hlen hmem hm4 hle hcall hm
      go_wp2_with fail
      refine HCALL.out.mono ?_
      rintro e w4 ⟨a5, n5, c5, rfl, hr5, hb5⟩
      have hr6 : RowsAt (fresh w) w4 (.slice a5 n5 c5) (puts ([] ++ N.take (k + 1))) := RowsAt.carry hr5 (fun b _ hb => by rcases hb with hb | hb; exact hb; exact Nat.le_trans (Nat.le_trans HWW.out HB.out.size) hb) (fun _ _ _ => rfl)
      have HR6 := Lib.hid hr6
      have HB6 := Lib.hid (Bel.call HB.out hb5)
      clear hr5 hr6 hb5 p0 p1 c0
      go_wp2_with fail
      go_roundw
      case rel => exact ⟨k + 1, a5, n5, c5, by omega, num_eq (by omega), rfl, HR6, HB6⟩
      case measure => simp [intOf]; omega
    · obtain rfl : n1 = k := by omega
      obtain ⟨n1, rfl⟩ : ∃ q, q = n1 := ⟨_, rfl⟩
      obtain ⟨wo, rfl⟩ : ∃ W, W = wr := ⟨_, rfl⟩
      go_wp2_with fail
      go_loopw [3, 7] (fun lv i wr => ∃ (k : Nat) (a4 : Option Addr) (m4 c4 : Nat), k ≤ n2 ∧ i = .int .i64 k ∧ lv = .slice a4 m4 c4 ∧ Hid (RowsAt (fresh w) wr (.slice a4 m4 c4) (puts (N ++ C.take k))) ∧ Hid (Below W3.heap.size W3 wr)) (fun _ i _ => n2 - (intOf i).toNat)
      case atStart => exact ⟨0, a4, m4, c4, Nat.zero_le _, rfl, rfl, Lib.hid (by rw [List.take_zero, List.append_nil]; have := HR.out; rw [List.nil_append, List.take_of_length_le (by have := HN1.out; omega)] at this; exact this), HB⟩
      case round =>
        clear p0 p1
        clear HR HB
        obtain ⟨k, a4, m4, c4, hk, rfl, rfl, HR, HB⟩ := hrel
        obtain ⟨p0, p1⟩ := cells2 ((HB.out.block _ HSW.out).trans HK3.out)
        by_cases hlt : k < n2
        · rcases SliceAt.split HRC.out with ⟨_, h0⟩ | ⟨b, o, rfl, -, -, -⟩
          · omega
          have hkl : k < C.length := by have := HN2.out; omega
          obtain ⟨u, c0, t0⟩ := RowsAt.cell (RowsAt.below HRC.out HB.out) k hkl
          obtain ⟨au, cu, rfl, -, -, -⟩ := SliceAt.len t0
          obtain ⟨hlen, hmem⟩ := puts_small (N ++ C.take k)
          have hm4 : m4 = (puts (N ++ C.take k)).length := by
            obtain ⟨a', c', hv, -⟩ := SliceAt.len HR.out
            simp only [Value.slice.injEq] at hv
            exact hv.2.1
          have hle : (N ++ C.take k).length ≤ 33554432 := by
            have h1 := HBN.out; have h2 := HBC.out; have h3 : (C.take k).length ≤ C.length := by rw [List.length_take]; exact Nat.min_le_right ..
            simp only [List.length_append]; try simp only [List.length_nil]
            omega
          have hcall := put_any (fresh w) _ wr a4 m4 c4 (puts (N ++ C.take k)) au _ cu C[k] HR.out t0 (by omega) (by have := HXC.out _ (List.getElem_mem hkl); omega) (fun x hx => by
            have h1 := hmem x hx
            rcases List.mem_append.1 h1 with h1 | h1
            · have := HXN.out x h1; omega
            · have := HXC.out x (List.mem_of_mem_take h1); omega)
          rw [← puts_snoc, List.append_assoc, ← List.take_succ_eq_append_getElem hkl] at hcall
          obtain ⟨m, hm⟩ : ∃ m, m = (C[k]).length := ⟨_, rfl⟩
          rw [← hm] at c0 hcall
          have HCALL := Lib.hid hcall
          have hkz : (0 : Int) ≤ (k : Int) := by omega
          have hkn : (k : Int) < (n2 : Int) := by omega
          clear t0 hlen hmem hm4 hle hcall hm
          go_wp2_with fail
          refine HCALL.out.mono ?_
          rintro e w4 ⟨a5, n5, c5, rfl, hr5, hb5⟩
          have hr6 : RowsAt (fresh w) w4 (.slice a5 n5 c5) (puts (N ++ C.take (k + 1))) := RowsAt.carry hr5 (fun b _ hb => by rcases hb with hb | hb; exact hb; exact Nat.le_trans (Nat.le_trans HWW.out HB.out.size) hb) (fun _ _ _ => rfl)
          have HR6 := Lib.hid hr6
          have HB6 := Lib.hid (Bel.call HB.out hb5)
          clear hr5 hr6 hb5 p0 p1 c0
          go_wp2_with fail
          go_roundw
          case rel => exact ⟨k + 1, a5, n5, c5, by omega, num_eq (by omega), rfl, HR6, HB6⟩
          case measure => simp [intOf]; omega
        · obtain rfl : n2 = k := by omega
          obtain ⟨n2, rfl⟩ : ∃ q, q = n2 := ⟨_, rfl⟩
          go_wp2_with fail
          go_ret
          exact ⟨a4, m4, c4, rfl, by have := HR.out; rw [List.take_of_length_le (l := C) (by have := HN2.out; omega)] at this; exact this, HB3.out.trans (HB.out.mono HWW.out)⟩
end Go.Proofs.Ytndkkgkcbbmnpaa
