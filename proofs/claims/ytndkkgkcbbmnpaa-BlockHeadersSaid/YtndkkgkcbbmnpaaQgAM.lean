/-
  The plain law of headers: both ways of reading agree; what is written is read as it was.
  The plain law of blocks: both ways of reading agree; what is written is read as it was.
  Contracts of pergolaref01.SameAll, pergolaref21.Same.
  Contract of pergolaref19.SameBlock.
  What is read of a text of bytes is small, however long the text is.
  Contract of block.DecodeHeader.
  Reading a block's transactions: how far it has come; building a block of parts.
-/
import Derived.Test.YtndkkgkcbbmnpaaQgAL
import Derived.Stop.BytesEq
import Derived.Deep.MidRow
namespace Go.Pg
open Go.RowKit
def itB (l : List It) (i : Nat) : List UInt8 := (l.getD i (.text [])).bytes
def hdrOf (l : List It) : Hdr := ⟨fit32 (itB l 0), (readWord (itB l 1)).1, (readWord (itB l 2)).1, (readWord (itB l 3)).1, fit32 (itB l 4), fit32 (itB l 5), fit32 (itB l 6)⟩
def refHdrDecode (bs : List UInt8) : Hdr × Nat :=
  if (rdWhole bs).1 = 0 ∧ (rdWhole bs).2.items.length = 7 ∧ hdrBytes (hdrOf (rdWhole bs).2.items) = bs then (hdrOf (rdWhole bs).2.items, 0) else (hdr0, 190)
theorem hdrOf_ok (l : List It) : (hdrOf l).ok := ⟨fit32_length _, fit32_length _, fit32_length _, fit32_length _, readWord_lt _, readWord_lt _, readWord_lt _⟩
theorem fit32_id (b : List UInt8) (h : b.length = 32) : fit32 b = b := by
  unfold fit32; rw [List.take_of_length_le (by omega), h]; simp
theorem readWord_ok (b : List UInt8) (h : (readWord b).2 = true) : wordB (readWord b).1 = b := by
  unfold readWord at h ⊢
  split at h
  · cases h
  · rename_i hn
    rw [if_neg hn]
    exact (wordB_beNum_iff b).2 (fun x => hn (.inr x))
theorem readWord_wordB (n : Nat) (h : (n : Int) < 18446744073709551616) : readWord (wordB n) = (n, true) := by
  unfold readWord
  have h1 := wordB_le n h
  have h2 : wordB (beNum (wordB n)) = wordB n := by rw [beNum_wordB]
  have h3 := (wordB_beNum_iff (wordB n)).1 h2
  rw [if_neg (by rintro (x | x); · omega
                 · exact h3 x), beNum_wordB]
theorem rText_true (l : List It) (ok : Bool) (h : (rText l ok).2.2 = true) : ok = true ∧ ∃ b r, l = .text b :: r ∧ rText l ok = (b, r, true) := by
  match l, h with
  | .text b :: r, h => simp only [rText] at h ⊢; exact ⟨h, b, r, rfl, by rw [h]⟩
  | .list x :: r, h => simp [rText] at h
  | [], h => simp [rText] at h
theorem rDig_true (l : List It) (ok : Bool) (h : (rDig l ok).2.2 = true) : ok = true ∧ ∃ b r, l = .text b :: r ∧ b.length = 32 ∧ rDig l ok = (b, r, true) := by
  unfold rDig at h ⊢
  simp only [Bool.and_eq_true, decide_eq_true_eq] at h
  obtain ⟨h1, b, r, h2, h3⟩ := rText_true l ok h.1
  rw [h3] at h ⊢
  simp only at h ⊢
  exact ⟨h1, b, r, h2, h.2, by rw [fit32_id b h.2, h.2]; rfl⟩
theorem rWord_true (l : List It) (ok : Bool) (h : (rWord l ok).2.2 = true) : ok = true ∧ ∃ n r, l = .text (wordB n) :: r ∧ (n : Int) < 18446744073709551616 ∧ rWord l ok = (n, r, true) := by
  unfold rWord at h ⊢
  simp only [Bool.and_eq_true] at h
  obtain ⟨h1, b, r, h2, h3⟩ := rText_true l ok h.1
  rw [h3] at h ⊢
  simp only at h ⊢
  exact ⟨h1, (readWord b).1, r, by rw [readWord_ok b h.2]; exact h2, readWord_lt b, by rw [h.2]; rfl⟩
theorem hdrOf_hdrI (t : Hdr) (ho : t.ok) (r : List It) : hdrOf ((hdrI t).items ++ r) = t := by
  obtain ⟨p, nn, bb, gg, tx, st, rc⟩ := t
  obtain ⟨o1, o2, o3, o4, o5, o6, o7⟩ := ho
  simp only at o1 o2 o3 o4 o5 o6 o7
  simp [hdrOf, hdrI, It.items, itB, It.bytes, fit32_id _ o1, fit32_id _ o2, fit32_id _ o3, fit32_id _ o4, readWord_wordB _ o5, readWord_wordB _ o6, readWord_wordB _ o7]
theorem rHdr_hdrI (t : Hdr) (ho : t.ok) (r : List It) : rHdr ((hdrI t).items ++ r) true = (t, true) := by
  obtain ⟨p, nn, bb, gg, tx, st, rc⟩ := t
  obtain ⟨o1, o2, o3, o4, o5, o6, o7⟩ := ho
  simp only at o1 o2 o3 o4 o5 o6 o7
  simp [rHdr, hdrI, It.items, rDig, rWord, rText, fit32_id _ o1, fit32_id _ o2, fit32_id _ o3, fit32_id _ o4, readWord_wordB _ o5, readWord_wordB _ o6, readWord_wordB _ o7, o1, o2, o3, o4]
theorem rHdr_true (l : List It) (h : (rHdr l true).2 = true) : ∃ t : Hdr, ∃ r, t.ok ∧ l = (hdrI t).items ++ r := by
  unfold rHdr at h
  simp only at h
  obtain ⟨h6, rc, q7, e7, l7, -⟩ := rDig_true _ _ h
  obtain ⟨h5, st, q6, e6, l6, r6⟩ := rDig_true _ _ h6
  obtain ⟨h4, tx, q5, e5, l5, r5⟩ := rDig_true _ _ h5
  obtain ⟨h3, gg, q4, e4, l4, r4⟩ := rWord_true _ _ h4
  obtain ⟨h2, bb, q3, e3, l3, r3⟩ := rWord_true _ _ h3
  obtain ⟨h1, nn, q2, e2, l2, r2⟩ := rWord_true _ _ h2
  obtain ⟨-, p, q1, e1, l1, r1⟩ := rDig_true _ _ h1
  rw [r6] at e7; rw [r5] at e6; rw [r4] at e5; rw [r3] at e4; rw [r2] at e3; rw [r1] at e2
  simp only at e2 e3 e4 e5 e6 e7
  refine ⟨⟨p, nn, bb, gg, tx, st, rc⟩, q7, ⟨l1, l5, l6, l7, l2, l3, l4⟩, ?_⟩
  rw [e1, e2, e3, e4, e5, e6, e7]
  simp [hdrI, It.items]
theorem hdrDecode_eq (bs : List UInt8) : hdrDecode bs = refHdrDecode bs := by
  unfold hdrDecode refHdrDecode
  by_cases h : (rOpen bs 7).2 = true ∧ (rHdr (rOpen bs 7).1 true).2 = true
  · rw [if_pos h]
    obtain ⟨h1, h2⟩ := h
    obtain ⟨t, r, ho, hl⟩ := rHdr_true _ h2
    rw [hl, rHdr_hdrI t ho r]
    simp only [rOpen, Bool.and_eq_true, decide_eq_true_eq] at h1 hl
    obtain ⟨⟨h3, h4⟩, h5⟩ := h1
    have hr : r = [] := by
      rw [hl] at h5
      simp [hdrI, It.items] at h5
      exact h5
    subst hr
    have hx : (rdWhole bs).2 = hdrI t := by
      cases hx : (rdWhole bs).2 with
      | text b => rw [hx] at h4; cases h4
      | list l => rw [hx] at hl; simp only [It.items, List.append_nil] at hl; rw [hl]; rfl
    have hw : rdWhole bs = (0, hdrI t) := by rw [← h3, ← hx]
    have hs := (rdWhole_sound bs _ hw).1
    have he : hdrOf (rdWhole bs).2.items = t := by rw [hl]; exact hdrOf_hdrI t ho []
    rw [if_pos ⟨h3, h5, by rw [he, hdrBytes_eq t ho]; exact hs.symm⟩, he]
  · rw [if_neg h, if_neg]
    rintro ⟨h1, h2, h3⟩
    apply h
    have ho := hdrOf_ok (rdWhole bs).2.items
    obtain ⟨t, ht⟩ : ∃ t, t = hdrOf (rdWhole bs).2.items := ⟨_, rfl⟩
    rw [← ht] at ho h3
    rw [hdrBytes_eq t ho] at h3
    have hb := rdWhole_back _ (hdr_fits t ho)
    rw [h3] at hb
    have e : rHdr (hdrI t).items true = (t, true) := by have := rHdr_hdrI t ho []; rwa [List.append_nil] at this
    constructor
    · simp [rOpen, hb, hdrI, It.isList, It.items]
    · simp only [rOpen, hb, e]
theorem hdrDecode_back (h : Hdr) (ho : h.ok) : hdrDecode (hdrBytes h) = (h, 0) := by
  have hb := rdWhole_back _ (hdr_fits h ho)
  rw [← hdrBytes_eq h ho] at hb
  have e : rHdr (hdrI h).items true = (h, true) := by have := rHdr_hdrI h ho []; rwa [List.append_nil] at this
  unfold hdrDecode
  have e2 : rOpen (hdrBytes h) 7 = ((hdrI h).items, true) := by simp [rOpen, hb, hdrI, It.isList, It.items]
  rw [e2]
  simp only [e, and_self, if_true]
theorem hdrDecode_sound (bs : List UInt8) (h : Hdr) (hd : hdrDecode bs = (h, 0)) : hdrBytes h = bs := by
  rw [hdrDecode_eq] at hd
  unfold refHdrDecode at hd
  split at hd
  · rename_i x
    simp only [Prod.mk.injEq, and_true] at hd
    rw [← hd]; exact x.2.2
  · simp at hd
end Go.Pg
namespace Go.Pg
open Go.RowKit
/-- a block -/
structure Blk where
  p : List UInt8
  nn : Nat
  bb : Nat
  T : List (List UInt8)
structure Blk.ok (b : Blk) : Prop where
  p : b.p.length = 32
  nn : (b.nn : Int) < 18446744073709551616
  bb : (b.bb : Int) < 18446744073709551616
def Blk.item (b : Blk) : It := blkI b.p b.nn b.bb b.T
def Blk.enc (b : Blk) : List UInt8 × Nat := blkEncode b.p b.nn b.bb b.T
def blk0 : Blk := ⟨List.replicate 32 0, 0, 0, []⟩
theorem blk0_ok : blk0.ok := ⟨rfl, by decide, by decide⟩
def rBlk (l : List It) : (List UInt8 × Nat × Nat) × Bool :=
  let r1 := rDig l true
  let r2 := rWord r1.2.1 r1.2.2
  let r3 := rWord r2.2.1 r2.2.2
  ((r1.1, r2.1, r3.1), r3.2.2)
def blkDecode (bs : List UInt8) : Blk × Nat :=
  if (rOpen bs 4).2 = true ∧ ((rOpen bs 4).1.getD 3 (.text [])).isList = true ∧ (rBlk (rOpen bs 4).1).2 = true ∧ flat ((rOpen bs 4).1.getD 3 (.text [])).items = true then
    (⟨(rBlk (rOpen bs 4).1).1.1, (rBlk (rOpen bs 4).1).1.2.1, (rBlk (rOpen bs 4).1).1.2.2, ((rOpen bs 4).1.getD 3 (.text [])).items.map It.bytes⟩, 0)
  else (blk0, 190)
def blkOf (l : List It) : Blk := ⟨fit32 (itB l 0), (readWord (itB l 1)).1, (readWord (itB l 2)).1, (l.getD 3 (.text [])).items.map It.bytes⟩
def refBlkDecode (bs : List UInt8) : Blk × Nat :=
  if (rdWhole bs).1 = 0 ∧ (rdWhole bs).2.items.length = 4 ∧ (blkOf (rdWhole bs).2.items).enc = (bs, 0) then (blkOf (rdWhole bs).2.items, 0) else (blk0, 190)
theorem blkOf_ok (l : List It) : (blkOf l).ok := ⟨fit32_length _, readWord_lt _, readWord_lt _⟩
theorem rBlk_item (b : Blk) (ho : b.ok) : rBlk b.item.items = ((b.p, b.nn, b.bb), true) := by
  obtain ⟨p, nn, bb, T⟩ := b
  obtain ⟨o1, o2, o3⟩ := ho
  simp only at o1 o2 o3
  simp [rBlk, Blk.item, blkI, It.items, rDig, rWord, rText, fit32_id _ o1, readWord_wordB _ o2, readWord_wordB _ o3, o1]
theorem textsI_items (T : List (List UInt8)) : (textsI T).items = T.map .text := rfl
theorem bytes_of_texts (T : List (List UInt8)) : (T.map It.text).map It.bytes = T := by
  rw [List.map_map]
  conv => rhs; rw [← List.map_id T]
  exact List.map_congr_left fun y _ => rfl
theorem blkOf_item (b : Blk) (ho : b.ok) : blkOf b.item.items = b := by
  obtain ⟨p, nn, bb, T⟩ := b
  obtain ⟨o1, o2, o3⟩ := ho
  simp only at o1 o2 o3
  have hT := bytes_of_texts T
  simp only [blkOf, Blk.item, blkI, It.items, itB, List.getD_cons_zero, List.getD_cons_succ, It.bytes, fit32_id _ o1, readWord_wordB _ o2, readWord_wordB _ o3, textsI, hT]
theorem flat_texts (T : List (List UInt8)) : flat (T.map It.text) = true := by
  unfold flat; rw [List.all_eq_true]; intro x hx
  simp only [List.mem_map] at hx
  obtain ⟨y, -, rfl⟩ := hx
  rfl
theorem rBlk_true (l : List It) (h : (rBlk l).2 = true) (hl : l.length = 4) (h3 : (l.getD 3 (.text [])).isList = true) (hf : flat (l.getD 3 (.text [])).items = true) :
    ∃ b : Blk, b.ok ∧ l = b.item.items := by
  unfold rBlk at h
  simp only at h
  obtain ⟨k2, bb, q3, e3, l3, r3⟩ := rWord_true _ _ h
  obtain ⟨k1, nn, q2, e2, l2, r2⟩ := rWord_true _ _ k2
  obtain ⟨-, p, q1, e1, l1, r1⟩ := rDig_true _ _ k1
  rw [r2] at e3; rw [r1] at e2
  simp only at e2 e3
  rw [e2, e3] at e1
  subst e1
  match q3, hl, h3, hf with
  | [.list its], _, _, hf =>
    simp only [List.getD_cons_succ, List.getD_cons_zero, It.items] at hf
    have ht := texts_of_flat its hf
    refine ⟨⟨p, nn, bb, its.map It.bytes⟩, ⟨l1, l2, l3⟩, ?_⟩
    simp only [Blk.item, blkI, It.items, textsI, ht]
  | [.text t], _, h3, _ => simp [It.isList] at h3
  | [], hl, _, _ => simp at hl
  | _ :: _ :: _, hl, _, _ => simp at hl
theorem blk_enc_of (b : Blk) (bs : List UInt8) (h : It.fits 8 b.item) (hb : bs = b.item.enc) : b.enc = (bs, 0) := by
  have he := encode_ok _ h
  unfold Blk.enc blkEncode
  unfold Blk.item at he hb
  rw [he, if_pos rfl, hb]
theorem blk_of_enc (b : Blk) (bs : List UInt8) (h : b.enc = (bs, 0)) : It.fits 8 b.item ∧ bs = b.item.enc := by
  unfold Blk.enc blkEncode at h
  split at h
  · rename_i h0
    have hf := encode_fits _ h0
    have he := encode_ok _ hf
    rw [he] at h
    simp only [Prod.mk.injEq, and_true] at h
    exact ⟨hf, h.symm⟩
  · simp at h
theorem blkDecode_of (b : Blk) (ho : b.ok) (bs : List UInt8) (h : rdWhole bs = (0, b.item)) : blkDecode bs = (b, 0) := by
  have e1 : rOpen bs 4 = (b.item.items, true) := by simp [rOpen, h, Blk.item, blkI, It.isList, It.items]
  have e2 : b.item.items.getD 3 (.text []) = textsI b.T := rfl
  unfold blkDecode
  rw [e1]
  simp only [rBlk_item b ho, e2]
  rw [if_pos ⟨trivial, rfl, trivial, by rw [textsI_items]; exact flat_texts _⟩, textsI_items, bytes_of_texts]
theorem blkDecode_eq (bs : List UInt8) : blkDecode bs = refBlkDecode bs := by
  by_cases h : (rdWhole bs).1 = 0 ∧ (rdWhole bs).2.items.length = 4 ∧ (blkOf (rdWhole bs).2.items).enc = (bs, 0)
  · unfold refBlkDecode
    rw [if_pos h]
    obtain ⟨-, -, h3⟩ := h
    obtain ⟨g1, g2⟩ := blk_of_enc _ _ h3
    refine blkDecode_of _ (blkOf_ok _) bs ?_
    have := rdWhole_back _ g1
    rw [← g2] at this
    exact this
  · unfold refBlkDecode
    rw [if_neg h]
    unfold blkDecode
    rw [if_neg]
    rintro ⟨h1, h2, h3, h4⟩
    apply h
    simp only [rOpen, Bool.and_eq_true, decide_eq_true_eq] at h1
    obtain ⟨⟨g1, g2⟩, g3⟩ := h1
    obtain ⟨b, ho, hl⟩ := rBlk_true _ h3 g3 h2 h4
    simp only [rOpen] at hl
    have hx : (rdWhole bs).2 = b.item := by
      cases hx : (rdWhole bs).2 with
      | text t => rw [hx] at g2; cases g2
      | list l => rw [hx] at hl; simp only [It.items] at hl; rw [hl]; rfl
    have hs := rdWhole_sound bs b.item (by rw [← g1, ← hx])
    refine ⟨g1, g3, ?_⟩
    rw [hx, blkOf_item b ho]
    exact blk_enc_of b bs hs.2 hs.1
theorem blkDecode_ok (bs : List UInt8) : (blkDecode bs).1.ok := by
  rw [blkDecode_eq]; unfold refBlkDecode
  split
  · exact blkOf_ok _
  · exact blk0_ok
theorem blkDecode_back (b : Blk) (ho : b.ok) (bs : List UInt8) (h : b.enc = (bs, 0)) : blkDecode bs = (b, 0) := by
  obtain ⟨g1, g2⟩ := blk_of_enc _ _ h
  refine blkDecode_of b ho bs ?_
  rw [g2]; exact rdWhole_back _ g1
theorem blkDecode_sound (bs : List UInt8) (b : Blk) (h : blkDecode bs = (b, 0)) : b.enc = (bs, 0) := by
  rw [blkDecode_eq] at h
  unfold refBlkDecode at h
  split at h
  · rename_i x
    simp only [Prod.mk.injEq, and_true] at h
    rw [← h]; exact x.2.2
  · simp at h
end Go.Pg
namespace Go.Proofs.Ytndkkgkcbbmnpaa
open Go.RowKit Go.Pg

theorem bytes_ne (x y : List UInt8) (h : x ≠ y) : (⟨x.toArray⟩ : ByteArray) ≠ ⟨y.toArray⟩ := fun e => h (by
  have := congrArg ByteArray.data e
  simpa using this)

set_option maxRecDepth 100000 in
set_option maxHeartbeats 1000000 in
theorem sameAll_any (F G : Nat → Prop) (w : World) (u v : Value) (A B : List (List UInt8)) (h : RowsAt F w u A) (k : RowsAt G w v B) (hl : A.length ≤ 1152921504606846976) :
    Calls Try.prog 35 #[u, v] w fun e w' => e = .returned (.bool (decide (A = B))) ∧ ∃ m, w' = w.drewN m := by
  obtain ⟨a, c, rfl, -, -, -⟩ := SliceAt.len h
  obtain ⟨a', c', rfl, -, -, -⟩ := SliceAt.len k
  obtain ⟨n, hn⟩ : ∃ n, n = A.length := ⟨_, rfl⟩
  obtain ⟨n', hn'⟩ : ∃ n, n = B.length := ⟨_, rfl⟩
  rw [← hn] at h hl ⊢
  rw [← hn'] at k ⊢
  have HN := Lib.hid hn
  have HN' := Lib.hid hn'
  clear hn hn'
  by_cases hnn : n = n'
  · subst hnn
    have hb : ((n : Int) != (n : Int)) = false := by simp
    go_enter Try.func35, Try.ntmps35
    go_wp2
    clear hb
    go_loopw [5] (fun i wr => ∃ j : Nat, j ≤ n ∧ i = .int .i64 j ∧ Hid (A.take j = B.take j) ∧ Hid (∃ m, wr = w.drewN m)) (fun i _ => n - (intOf i).toNat)
    case atStart => exact ⟨0, Nat.zero_le _, rfl, rfl, 0, rfl⟩
    case round =>
      obtain ⟨j, hj, rfl, HT, HM⟩ := hrel
      have hwr : RowsAt F wr (.slice a n c) A ∧ RowsAt G wr (.slice a' n c') B := by
        obtain ⟨m, hm⟩ := HM.out
        rw [hm]; exact ⟨RowsAt.carry h (fun _ _ x => x) (fun _ _ _ => rfl), RowsAt.carry k (fun _ _ x => x) (fun _ _ _ => rfl)⟩
      have hN := HN.out
      have hN' := HN'.out
      by_cases hlt : j < n
      · rcases SliceAt.split hwr.1 with ⟨_, h0⟩ | ⟨b, o, rfl, -, -, -⟩
        · omega
        rcases SliceAt.split hwr.2 with ⟨_, h0⟩ | ⟨b', o', rfl, -, -, -⟩
        · omega
        obtain ⟨u1, c1, t1⟩ := RowsAt.cell hwr.1 j (by omega)
        obtain ⟨u2, c2, t2⟩ := RowsAt.cell hwr.2 j (by omega)
        have hst : A.take (j + 1) = A.take j ++ [A[j]'(by omega)] ∧ B.take (j + 1) = B.take j ++ [B[j]'(by omega)] := ⟨List.take_succ_eq_append_getElem (by omega), List.take_succ_eq_append_getElem (by omega)⟩
        have hne : A[j]'(by omega) ≠ B[j]'(by omega) → A ≠ B := fun h e => h (by simp [e])
        obtain ⟨x1, hx1⟩ : ∃ x, x = A[j]'(by omega) := ⟨_, rfl⟩
        obtain ⟨x2, hx2⟩ : ∃ x, x = B[j]'(by omega) := ⟨_, rfl⟩
        rw [← hx1, ← hx2] at hst hne
        rw [← hx1] at t1
        rw [← hx2] at t2
        obtain ⟨d1, e1, rfl, -, -, -⟩ := SliceAt.len t1
        obtain ⟨d2, e2, rfl, -, -, -⟩ := SliceAt.len t2
        have s1 := fun nq => run_string_at (P := Try.prog) (BytesAt.draws t1 nq) 25 5 9 Try.underlying25 Try.underlying5 Try.underlying9
        have s2 := fun nq => run_string_at (P := Try.prog) (BytesAt.draws t2 nq) 25 5 9 Try.underlying25 Try.underlying5 Try.underlying9
        have HST := Lib.hid hst
        have HNE := Lib.hid hne
        have hjn : (j : Int) < (n : Int) := by omega
        clear hst hne hx1 hx2 hwr hN hN' t1 t2
        by_cases hxy : x1 = x2
        · subst hxy
          go_wp2
          go_quiet (fail)
          go_wp2
          go_roundw
          case rel => exact ⟨j + 1, by omega, num_eq (by omega), (by show _ = _; rw [HST.out.1, HST.out.2, HT.out]), (by obtain ⟨m, hm⟩ := HM.out; rw [hm]; exact ⟨_, World.drewN_drewN _ _ _⟩)⟩
          case measure => simp [intOf]; omega
        · have hb1 : (x1 == x2) = false := by simp [hxy]
          have hd : decide (A = B) = false := by simp [HNE.out hxy]
          have HD := Lib.hid hd
          clear hxy hd
          go_wp2
          go_quiet (fail)
          go_wp2
          go_ret
          exact ⟨ret_bool HD.out.symm, (by obtain ⟨m, hm⟩ := HM.out; rw [hm]; exact ⟨_, World.drewN_drewN _ _ _⟩)⟩
      · obtain rfl : j = n := by omega
        go_wp2
        go_ret
        refine ⟨ret_bool ?_, HM.out⟩
        have := HT.out
        rw [List.take_of_length_le (by omega), List.take_of_length_le (by omega)] at this
        simp [this]
  · have hb : ((n : Int) != (n' : Int)) = true := by simp; omega
    have hne : A ≠ B := fun e => hnn (by rw [HN.out, HN'.out, e])
    have hd : decide (A = B) = false := by simp [hne]
    rw [hd]
    clear hnn hne hd
    go_enter Try.func35, Try.ntmps35
    go_wp2
    go_ret
    exact ⟨rfl, 0, rfl⟩

set_option maxRecDepth 100000 in
set_option maxHeartbeats 400000 in
theorem same_any (F G : Nat → Prop) (w : World) (a1 a2 a3 a4 : Option Addr) (n1 c1 n2 c2 n3 c3 n4 c4 : Nat) (N C N' C' : List (List UInt8)) (h1 : RowsAt F w (.slice a1 n1 c1) N) (h2 : RowsAt F w (.slice a2 n2 c2) C)
    (h3 : RowsAt G w (.slice a3 n3 c3) N') (h4 : RowsAt G w (.slice a4 n4 c4) C') (hl1 : N.length ≤ 1152921504606846976) (hl2 : C.length ≤ 1152921504606846976) :
    Calls Try.prog 18 #[.agg #[.slice a1 n1 c1, .slice a2 n2 c2], .agg #[.slice a3 n3 c3, .slice a4 n4 c4]] w fun e w' => e = .returned (.bool (decide (N = N' ∧ C = C'))) ∧ Below w.heap.size w w' := by
  have hb0 : Below w.heap.size w ((w.alloc (.cells #[.slice a1 n1 c1, .slice a2 n2 c2] 24)).alloc (.cells #[.slice a3 n3 c3, .slice a4 n4 c4] 24)) := Bel.alloc (Bel.alloc (Bel.refl w) _) _
  have g1 := RowsAt.below h1 hb0
  have g2 := RowsAt.below h2 hb0
  have g3 := RowsAt.below h3 hb0
  have g4 := RowsAt.below h4 hb0
  obtain ⟨b1, hd1⟩ : ∃ b, b = decide (N = N') := ⟨_, rfl⟩
  obtain ⟨b2, hd2⟩ : ∃ b, b = decide (C = C') := ⟨_, rfl⟩
  have hfin : decide (N = N' ∧ C = C') = (b1 && b2) := by rw [hd1, hd2]; simp
  rw [hfin]
  have HB0 := Lib.hid hb0
  have HD1 := Lib.hid hd1
  have HD2 := Lib.hid hd2
  clear h1 h2 h3 h4 hb0 hfin hd1 hd2
  go_enter Try.func18, Try.ntmps18
  go_wp2_with fail
  refine (sameAll_any F G _ _ _ N N' g1 g3 hl1).mono ?_
  rintro e w1 ⟨rfl, m, rfl⟩
  rw [← HD1.out]
  have g2' : RowsAt F (((w.alloc (.cells #[.slice a1 n1 c1, .slice a2 n2 c2] 24)).alloc (.cells #[.slice a3 n3 c3, .slice a4 n4 c4] 24)).drewN m) _ C := RowsAt.carry g2 (fun _ _ x => x) (fun _ _ _ => rfl)
  have g4' : RowsAt G (((w.alloc (.cells #[.slice a1 n1 c1, .slice a2 n2 c2] 24)).alloc (.cells #[.slice a3 n3 c3, .slice a4 n4 c4] 24)).drewN m) _ C' := RowsAt.carry g4 (fun _ _ x => x) (fun _ _ _ => rfl)
  clear g1 g2 g3 g4
  go_wp2_with fail
  refine (sameAll_any F G _ _ _ C C' g2' g4' hl2).mono ?_
  rintro e w1 ⟨rfl, m', rfl⟩
  rw [← HD2.out]
  clear g2' g4'
  cases b1
  all_goals
    go_wp2_with fail
    go_ret
    exact ⟨rfl, ⟨HB0.out.os, HB0.out.tape, HB0.out.output, HB0.out.size, HB0.out.block⟩⟩
end Go.Proofs.Ytndkkgkcbbmnpaa
namespace Go.Pg
open Go.RowKit
section
variable {P : Program}
theorem wpList_wanted {ops : Array Oper} {rest : List Oper} {o : Oper} {a : Act} {w : World} {Q : Exit → Act → World → Prop} (hg : Region.wanted o (yielded ops a.tmps) = true)
    (h : ∀ K : Act → World → Prop, (∀ a w, wpList P ops Q rest a w → K a w) → o.wp P a w K Q) : wpList P ops Q (o :: rest) a w :=
  wpList_step fun K hK => by rw [if_pos hg]; exact h K hK
end
end Go.Pg
namespace Go.Proofs.Ytndkkgkcbbmnpaa
open Go.RowKit Go.Pg
theorem digEq (xs ys : List UInt8) (hx : xs.length = 32) (hy : ys.length = 32) (W : World) :
    (Op.equalIn 10000 37 (.agg (cellsL xs).toArray) (.agg (cellsL ys).toArray)).run Try.prog W = .ok (decide (xs = ys)) W := by
  obtain ⟨i0, hi, hz0, hz1, hz2⟩ := info_parts infoU8
  have h := run_equalIn_bytes (P := Try.prog) W 9998 37 5 32 underlyingDig Try.underlying5 (fun w => by simp [sizeOf, typeInfo, hi, hz1]) xs ys hx hy
  have e : (xs == ys) = decide (xs = ys) := by by_cases h : xs = ys <;> simp [h]
  rw [e] at h
  exact h

set_option maxRecDepth 100000 in
set_option maxHeartbeats 4000000 in
theorem sameBlk_any (F G : Nat → Prop) (w : World) (p p' : List UInt8) (nn bb nn' bb' : Nat) (v v' : Value) (l l' : List (List UInt8)) (h : RowsAt F w v l) (h' : RowsAt G w v' l') (hp : p.length = 32) (hp' : p'.length = 32) (hl : l.length ≤ 1152921504606846976) :
    Calls Try.prog 22 #[.agg (blkCells p nn bb v), .agg (blkCells p' nn' bb' v')] w fun e w' => e = .returned (.bool (decide (l = l' ∧ p = p' ∧ nn = nn' ∧ bb = bb'))) ∧ Below w.heap.size w w' := by
  obtain ⟨a, c, rfl, -, -, -⟩ := SliceAt.len h
  obtain ⟨a', c', rfl, -, -, -⟩ := SliceAt.len h'
  obtain ⟨n, hn⟩ : ∃ n, n = l.length := ⟨_, rfl⟩
  obtain ⟨n', hn'⟩ : ∃ n, n = l'.length := ⟨_, rfl⟩
  rw [← hn] at h ⊢
  rw [← hn'] at h' ⊢
  obtain ⟨BC, hBC⟩ : ∃ BC, BC = blkCells p nn bb (.slice a n c) := ⟨_, rfl⟩
  obtain ⟨BD, hBD⟩ : ∃ BD, BD = blkCells p' nn' bb' (.slice a' n' c') := ⟨_, rfl⟩
  obtain ⟨Wz, hWz⟩ : ∃ W, W = (w.alloc (.cells BC 40)).alloc (.cells BD 40) := ⟨_, rfl⟩
  have hbz : Below w.heap.size w Wz := by rw [hWz]; exact Bel.alloc (Bel.alloc (Bel.refl w) _) _
  have hk0 : Wz.heap[w.heap.size]? = some (.cells BC 40 (0, 0)) := by rw [hWz, Below.heap_alloc _ _ _ (by simp)]; exact heap_alloc_new w _
  have hk1 : Wz.heap[w.heap.size + 1]? = some (.cells BD 40 (0, 0)) := by rw [hWz]; have := heap_alloc_new (w.alloc (.cells BC 40)) (.cells BD 40); rw [World.size_alloc] at this; exact this
  have g1 := RowsAt.below h hbz
  have g2 := RowsAt.below h' hbz
  have hf0 : ∀ W : World, W.heap = Wz.heap → W.rangeAt w.heap.size 0 (cellsL p) ∧ W.cell? ⟨w.heap.size, 32, none⟩ = some (.int .u64 nn) ∧ W.cell? ⟨w.heap.size, 33, none⟩ = some (.int .u64 bb) ∧ W.cell? ⟨w.heap.size, 34, none⟩ = some (.slice a n c) :=
    fun W hW => blk_facts (t := 40) hp (by rw [hW, hk0, hBC])
  have hf1 : ∀ W : World, W.heap = Wz.heap → W.rangeAt (w.heap.size + 1) 0 (cellsL p') ∧ W.cell? ⟨w.heap.size + 1, 32, none⟩ = some (.int .u64 nn') ∧ W.cell? ⟨w.heap.size + 1, 33, none⟩ = some (.int .u64 bb') ∧ W.cell? ⟨w.heap.size + 1, 34, none⟩ = some (.slice a' n' c') :=
    fun W hW => blk_facts (t := 40) hp' (by rw [hW, hk1, hBD])
  obtain ⟨-, -, -, q34⟩ := hf0 Wz rfl
  obtain ⟨-, -, -, r34⟩ := hf1 Wz rfl
  obtain ⟨b0, hb0⟩ : ∃ b, b = decide (l = l') := ⟨_, rfl⟩
  obtain ⟨b1, hb1⟩ : ∃ b, b = decide (p = p') := ⟨_, rfl⟩
  have hres : decide (l = l' ∧ p = p' ∧ nn = nn' ∧ bb = bb') = (b0 && (b1 && (decide (nn = nn') && decide (bb = bb')))) := by rw [hb0, hb1]; simp [Bool.decide_and]
  obtain ⟨b2, hb2⟩ : ∃ b, b = decide (nn = nn') := ⟨_, rfl⟩
  obtain ⟨b3, hb3⟩ : ∃ b, b = decide (bb = bb') := ⟨_, rfl⟩
  have hE2 : ((nn : Int) == (nn' : Int)) = b2 := by
    rw [hb2]
    by_cases h : nn = nn'
    · subst h; simp
    · have h' : ¬ (nn : Int) = nn' := by omega
      simp [h, h']
  have hE3 : ((bb : Int) == (bb' : Int)) = b3 := by
    rw [hb3]
    by_cases h : bb = bb'
    · subst h; simp
    · have h' : ¬ (bb : Int) = bb' := by omega
      simp [h, h']
  rw [← hb2, ← hb3] at hres
  clear hb2 hb3
  obtain ⟨m1, hm1⟩ : ∃ m : Int, m = (nn : Int) := ⟨_, rfl⟩
  obtain ⟨m2, hm2⟩ : ∃ m : Int, m = (nn' : Int) := ⟨_, rfl⟩
  obtain ⟨m3, hm3⟩ : ∃ m : Int, m = (bb : Int) := ⟨_, rfl⟩
  obtain ⟨m4, hm4⟩ : ∃ m : Int, m = (bb' : Int) := ⟨_, rfl⟩
  rw [← hm1, ← hm2] at hE2
  rw [← hm3, ← hm4] at hE3
  simp only [← hm1, ← hm3] at hf0
  simp only [← hm2, ← hm4] at hf1
  have HE2 := Lib.hid hE2
  have HE3 := Lib.hid hE3
  clear hE2 hE3 hm1 hm2 hm3 hm4
  rw [hres, ← hBC, ← hBD]
  have heq := digEq p p' hp hp'
  rw [← hb1] at heq
  have HEQ := Lib.hid heq
  have HB0 := Lib.hid hb0
  have HF0 := Lib.hid hf0
  have HF1 := Lib.hid hf1
  have HBZ := Lib.hid hbz
  have HWZ := Lib.hid hWz
  have HLN := Lib.hid hl
  have G1 := Lib.hid g1
  have G2 := Lib.hid g2
  have HQ := Lib.hid q34
  have HR := Lib.hid r34
  have e0 : (Try.prog.info? 37).map (·.size) = some (cellsL p).length := by rw [cellsL_length, hp]; exact infoDig
  have e1 : (Try.prog.info? 37).map (·.size) = some (cellsL p').length := by rw [cellsL_length, hp']; exact infoDig
  have E0 := Lib.hid e0
  have E1 := Lib.hid e1
  rw [hWz] at q34 r34
  clear heq hb0 hb1 hf0 hf1 hbz hWz hl g1 g2 hres hBC hBD h h' hn hn' hk0 hk1 e0 e1 hp hp'
  go_enter Try.func22, Try.ntmps22
  go_wp2_with fail
  rw [← HWZ.out]
  refine (sameAll_any F G Wz _ _ l l' G1.out G2.out HLN.out).mono ?_
  rintro e w1 ⟨rfl, m, rfl⟩
  rw [← HB0.out]
  clear q34 r34
  obtain ⟨s0, s1, s2, s3⟩ := HF0.out (Wz.drewN m) rfl
  obtain ⟨t0, t1, t2, t3⟩ := HF1.out (Wz.drewN m) rfl
  have hend : Below w.heap.size w (Wz.drewN m) := ⟨HBZ.out.os, HBZ.out.tape, HBZ.out.output, HBZ.out.size, HBZ.out.block⟩
  have HEND := Lib.hid hend
  have S0 := Lib.hid s0
  have T0 := Lib.hid t0
  clear hend s0 t0
  cases b0 with
  | false =>
    go_wp2_with fail
    go_ret
    exact ⟨rfl, HEND.out⟩
  | true =>
    have heq := HEQ.out
    have hE2 := HE2.out
    have hE3 := HE3.out
    cases b1 <;> cases b2 <;> cases b3
    all_goals
      go_wp2_with (first
        | (refine wpList_wanted (by rfl) ?_; intro K hK; refine wp_load_mid 37 (.tmp 13) rfl w.heap.size 0 rfl (cellsL p) (.array 32 5) S0.out underlyingDig rfl E0.out ?_; apply hK)
        | (refine wpList_wanted (by rfl) ?_; intro K hK; refine wp_load_mid 37 (.tmp 15) rfl (w.heap.size + 1) 0 rfl (cellsL p') (.array 32 5) T0.out underlyingDig rfl E1.out ?_; apply hK))
      go_ret
      exact ⟨rfl, HEND.out⟩
end Go.Proofs.Ytndkkgkcbbmnpaa
namespace Go.Pg
open Go.RowKit
theorem fits_body {f : Nat} {x : It} (h : It.fits f x) : x.body ≤ 16777215 := by
  cases x with
  | text b => cases f <;> simpa [It.fits, It.body] using h
  | list l =>
    cases f with
    | zero => simp [It.fits] at h
    | succ f => simp only [It.fits] at h; simpa [It.body] using h.1
theorem read_small (bs : List UInt8) (h : (rdWhole bs).1 = 0) : (rdWhole bs).2.body ≤ 16777215 := fits_body (rdWhole_sound bs _ (Prod.ext h rfl)).2
theorem read_items_small (bs : List UInt8) (h : (rdWhole bs).1 = 0) : It.wholes (rdWhole bs).2.items ≤ 16777215 := by
  have h1 := read_small bs h
  have h2 := It.body_eq (rdWhole bs).2
  omega
end Go.Pg
namespace Go.Proofs.Ytndkkgkcbbmnpaa
open Go.RowKit Go.Pg

theorem hdrCells_one (h : Hdr) : (hdrCells h).all (·.oneCell') = true := by
  apply Array.all_eq_true_iff_forall_mem.2
  intro u hu
  simp only [hdrCells, cellsL, List.mem_toArray, List.mem_append, List.mem_map, List.mem_cons, List.not_mem_nil, or_false] at hu
  rcases hu with (((⟨x, -, rfl⟩ | rfl | rfl | rfl) | ⟨x, -, rfl⟩) | ⟨x, -, rfl⟩) | ⟨x, -, rfl⟩ <;> rfl
/-- a header is told, or an empty one and a fault -/
def HdrD (w : World) (r : Hdr × Nat) (e : Ending) (w' : World) : Prop := e = .returned (.tuple #[.agg (hdrCells r.1), .int .i64 (r.2 : Int)]) ∧ Below w.heap.size w w'

set_option maxRecDepth 100000 in
set_option maxHeartbeats 4000000 in
theorem bhdec_any (F : Nat → Prop) (w : World) (a : Option Addr) (n c : Nat) (bs : List UInt8) (h : BytesAt F w (.slice a n c) bs) (hn : n ≤ 140737488351232) :
    Calls Try.prog 25 #[.slice a n c] w (HdrD w (hdrDecode bs)) := by
  obtain ⟨ZR, hZR⟩ : ∃ ZR : Array Value, ZR = Try.zeroCells47 := ⟨_, rfl⟩
  have hZR2 : ZR = hdrCells hdr0 := by rw [hZR]; rfl
  obtain ⟨Wz, hWz⟩ : ∃ W : World, W = w.alloc (.cells ZR 47) := ⟨_, rfl⟩
  have hbz : Below w.heap.size w Wz := by rw [hWz]; exact Bel.alloc (Bel.refl w) _
  have hrz : Wz.heap[w.heap.size]? = some (.cells ZR 47 (0, 0)) := by rw [hWz]; exact heap_alloc_new w _
  have hzs : Wz.heap.size = w.heap.size + 1 := by rw [hWz]; simp
  have hcall := bread_any _ Wz a n c 7 bs (BytesAt.below h (by rw [hWz]; exact Bel.alloc (Bel.refl w) _)) hn
  obtain ⟨O, hO⟩ : ∃ O, O = rOpen bs 7 := ⟨_, rfl⟩
  rw [← hO] at hcall
  have hres : hdrDecode bs = if O.2 = true ∧ (rHdr O.1 true).2 = true then ((rHdr O.1 true).1, 0) else (hdr0, 190) := by unfold hdrDecode; rw [hO]
  obtain ⟨X, hX⟩ : ∃ X, X = hdrDecode bs := ⟨_, rfl⟩
  rw [← hX]
  rw [← hX] at hres
  obtain ⟨l0, k0⟩ := O
  simp only at hres hcall
  obtain ⟨fs, hu⟩ := underlyingHdr
  have HU := Lib.hid hu
  have HC := Lib.hid hcall
  have HRES := Lib.hid hres
  have HZR := Lib.hid hZR
  have HZR2 := Lib.hid hZR2
  have HWZ := Lib.hid hWz
  have HBZ := Lib.hid hbz
  have HRZ := Lib.hid hrz
  have HSZ := Lib.hid (show ∀ h : Hdr, h.ok → (Try.prog.info? 47).map (·.size) = some (hdrCells h).size from fun h ho => by rw [hdrCells_size h ho]; exact infoHdr)
  clear hu hcall hres hX hO hZR hZR2 hWz hbz hrz h
  go_enter Try.func25, Try.ntmps25
  go_wp2_with fail
  rw [← HZR.out, ← HWZ.out]
  refine HC.out.mono ?_
  rintro e w1 ⟨rb, rfl, hrb, hr1, hb1⟩
  have hk1 := (hb1.block _ (by omega)).trans HRZ.out
  have hbl1 := Bel.call HBZ.out hb1
  obtain ⟨a1, n1, c1, hit, hk⟩ := id hr1
  simp only at hit hk
  obtain ⟨q0, q1⟩ := cells2 hk
  have HK1 := Lib.hid hk1
  have HBL1 := Lib.hid hbl1
  have HR1 := Lib.hid hr1
  clear hk1 hbl1 hr1 hit hk HC hb1
  have hiz : (Try.prog.info? 47).map (·.size) = some (Try.zeroCells47).size := by kernel_rfl
  have hoz : (Try.zeroCells47).all (·.oneCell') = true := by kernel_rfl
  have HIZ := Lib.hid hiz
  have HOZ := Lib.hid hoz
  clear hiz hoz
  have hbad : ∀ W : World, Below w.heap.size w W → W.heap[w.heap.size]? = some (.cells ZR 47 (0, 0)) → X = (hdr0, 190) →
      (W.setRow w.heap.size Try.zeroCells47).heap[w.heap.size]? = some (.cells Try.zeroCells47 47 (0, 0)) ∧ HdrD w X (.returned (.tuple #[.agg Try.zeroCells47, .int .i64 190])) (W.setRow w.heap.size Try.zeroCells47) := by
    intro W hb hk hX
    refine ⟨setRow_heap W _ _ _ _ _ hk, ?_, below_setRow hb (Nat.le_refl _) _⟩
    rw [hX, ← HZR.out, HZR2.out]; rfl
  have HBAD := Lib.hid hbad
  clear hbad
  cases k0 with
  | false =>
    have hX : X = (hdr0, 190) := by rw [HRES.out, if_neg]; rintro ⟨x, -⟩; cases x
    have HX := Lib.hid (HBAD.out w1 HBL1.out HK1.out hX)
    clear hX
    go_wp2_with (refine wpList_store_row rfl 47 (.tmp 2) (.tmp 13) rfl w.heap.size Try.zeroCells47 rfl rfl 47 ZR HK1.out HIZ.out (by rw [HZR.out]) HOZ.out ?_)
    refine bodyPost_ret (v := .tuple #[.agg Try.zeroCells47, .int .i64 190]) (results_cell_row_tmp rfl _ _ w.heap.size 47 Try.zeroCells47 (0, 0) (.struct fs) rfl HX.out.1 HU.out rfl HIZ.out _ rfl) rfl ?_
    exact HX.out.2
  | true =>
    obtain ⟨b1, l1, k1, h1⟩ : ∃ b l k, rDig l0 true = (b, l, k) := ⟨_, _, _, rfl⟩
    obtain ⟨b2, l2, k2, h2⟩ : ∃ b l k, rWord l1 k1 = (b, l, k) := ⟨_, _, _, rfl⟩
    obtain ⟨b3, l3, k3, h3⟩ : ∃ b l k, rWord l2 k2 = (b, l, k) := ⟨_, _, _, rfl⟩
    obtain ⟨b4, l4, k4, h4⟩ : ∃ b l k, rWord l3 k3 = (b, l, k) := ⟨_, _, _, rfl⟩
    obtain ⟨b5, l5, k5, h5⟩ : ∃ b l k, rDig l4 k4 = (b, l, k) := ⟨_, _, _, rfl⟩
    obtain ⟨b6, l6, k6, h6⟩ : ∃ b l k, rDig l5 k5 = (b, l, k) := ⟨_, _, _, rfl⟩
    obtain ⟨b7, l7, k7, h7⟩ : ∃ b l k, rDig l6 k6 = (b, l, k) := ⟨_, _, _, rfl⟩
    have hH : rHdr l0 true = (⟨b1, b2, b3, b4, b5, b6, b7⟩, k7) := by unfold rHdr; simp only [h1, h2, h3, h4, h5, h6, h7]
    obtain ⟨H, hHe⟩ : ∃ H : Hdr, H = ⟨b1, b2, b3, b4, b5, b6, b7⟩ := ⟨_, rfl⟩
    rw [← hHe] at hH
    have hok : H.ok := by have := rHdr_ok l0 true; rw [hH] at this; exact this
    have hbu := builtHdrAll H hok
    rw [hHe] at hbu
    simp only at hbu
    rw [← hHe] at hbu
    have hX : X = if k7 = true then (H, 0) else (hdr0, 190) := by rw [HRES.out, hH]; simp
    have hoc : (hdrCells H).all (·.oneCell') = true := hdrCells_one H
    have hsh : (hdrCells H).size = (Try.zeroCells47).size := by rw [hdrCells_size H hok]; kernel_rfl
    have HX := Lib.hid hX
    have HBU := Lib.hid hbu
    have HOC := Lib.hid hoc
    have HSH := Lib.hid hsh
    have HIH := Lib.hid (HSZ.out H hok)
    have H1 := Lib.hid h1
    have H2 := Lib.hid h2
    have H3 := Lib.hid h3
    have H4 := Lib.hid h4
    have H5 := Lib.hid h5
    have H6 := Lib.hid h6
    have H7 := Lib.hid h7
    clear hH hHe hok hbu hX hoc hsh h1 h2 h3 h4 h5 h6 h7
    have HCH1 : Hid (Chg (fun k => k = rb) w1 w1) := Lib.hid (Chg.refl _ _)
    have hc1 := brdig_any (fun b => Wz.heap.size ≤ b ∧ b ≠ rb) w1 7 rb l0 true HR1.out (fun x => x.2 rfl)
    rw [H1.out] at hc1
    have HC1 := Lib.hid hc1
    clear hc1
    go_wp2_with fail
    refine HC1.out.mono ?_
    rintro e w2 ⟨rfl, hr2, hch2⟩
    simp only at hr2 ⊢
    have HR2 := Lib.hid hr2
    have HCH2 := Lib.hid (HCH1.out.trans hch2 (fun _ _ x => x))
    clear hr2 hch2 HC1
    have hc2 := brword_any (fun b => Wz.heap.size ≤ b ∧ b ≠ rb) w2 7 rb l1 k1 HR2.out (fun x => x.2 rfl)
    rw [H2.out] at hc2
    have HC2 := Lib.hid hc2
    clear hc2
    go_wp2_with fail
    refine HC2.out.mono ?_
    rintro e w3 ⟨rfl, hr3, hch3⟩
    simp only at hr3 ⊢
    have HR3 := Lib.hid hr3
    have HCH3 := Lib.hid (HCH2.out.trans hch3 (fun _ _ x => x))
    clear hr3 hch3 HC2
    have hc3 := brword_any (fun b => Wz.heap.size ≤ b ∧ b ≠ rb) w3 7 rb l2 k2 HR3.out (fun x => x.2 rfl)
    rw [H3.out] at hc3
    have HC3 := Lib.hid hc3
    clear hc3
    go_wp2_with fail
    refine HC3.out.mono ?_
    rintro e w4 ⟨rfl, hr4, hch4⟩
    simp only at hr4 ⊢
    have HR4 := Lib.hid hr4
    have HCH4 := Lib.hid (HCH3.out.trans hch4 (fun _ _ x => x))
    clear hr4 hch4 HC3
    have hc4 := brword_any (fun b => Wz.heap.size ≤ b ∧ b ≠ rb) w4 7 rb l3 k3 HR4.out (fun x => x.2 rfl)
    rw [H4.out] at hc4
    have HC4 := Lib.hid hc4
    clear hc4
    go_wp2_with fail
    refine HC4.out.mono ?_
    rintro e w5 ⟨rfl, hr5, hch5⟩
    simp only at hr5 ⊢
    have HR5 := Lib.hid hr5
    have HCH5 := Lib.hid (HCH4.out.trans hch5 (fun _ _ x => x))
    clear hr5 hch5 HC4
    have hc5 := brdig_any (fun b => Wz.heap.size ≤ b ∧ b ≠ rb) w5 7 rb l4 k4 HR5.out (fun x => x.2 rfl)
    rw [H5.out] at hc5
    have HC5 := Lib.hid hc5
    clear hc5
    go_wp2_with fail
    refine HC5.out.mono ?_
    rintro e w6 ⟨rfl, hr6, hch6⟩
    simp only at hr6 ⊢
    have HR6 := Lib.hid hr6
    have HCH6 := Lib.hid (HCH5.out.trans hch6 (fun _ _ x => x))
    clear hr6 hch6 HC5
    have hc6 := brdig_any (fun b => Wz.heap.size ≤ b ∧ b ≠ rb) w6 7 rb l5 k5 HR6.out (fun x => x.2 rfl)
    rw [H6.out] at hc6
    have HC6 := Lib.hid hc6
    clear hc6
    go_wp2_with fail
    refine HC6.out.mono ?_
    rintro e w7 ⟨rfl, hr7, hch7⟩
    simp only at hr7 ⊢
    have HR7 := Lib.hid hr7
    have HCH7 := Lib.hid (HCH6.out.trans hch7 (fun _ _ x => x))
    clear hr7 hch7 HC6
    have hc7 := brdig_any (fun b => Wz.heap.size ≤ b ∧ b ≠ rb) w7 7 rb l6 k6 HR7.out (fun x => x.2 rfl)
    rw [H7.out] at hc7
    have HC7 := Lib.hid hc7
    clear hc7
    go_wp2_with fail
    refine HC7.out.mono ?_
    rintro e w8 ⟨rfl, hr8, hch8⟩
    simp only at hr8 ⊢
    have HR8 := Lib.hid hr8
    have HCH8 := Lib.hid (HCH7.out.trans hch8 (fun _ _ x => x))
    clear hr8 hch8 HC7
    obtain ⟨a8, n8, c8, hit8, hk8⟩ := HR8.out
    simp only at hk8
    have hlt1 : w.heap.size < w1.heap.size := (Array.getElem?_eq_some_iff.1 HK1.out).1
    have hrbw : rb < w8.heap.size := (Array.getElem?_eq_some_iff.1 hk8).1
    have hlt8 : w.heap.size < w8.heap.size := Nat.lt_of_lt_of_le hlt1 HCH8.out.size
    have hk80 := (HCH8.out.block _ hlt1 (fun e => by omega)).trans HK1.out
    have hbl8 : Below w.heap.size w w8 := HBL1.out.trans (HCH8.out.toBelowAt (by omega) (fun k hk e => by omega))
    obtain ⟨W9, hW9⟩ : ∃ W : World, W = (w8.alloc (.cells Try.zeroCells47 47)).setRow w8.heap.size (hdrCells H) := ⟨_, rfl⟩
    have hk9 : W9.heap[w8.heap.size]? = some (.cells (hdrCells H) 47 (0, 0)) := by rw [hW9]; exact setRow_heap _ _ _ _ _ _ (heap_alloc_new w8 _)
    have ho9 : ∀ k, k < w8.heap.size → W9.heap[k]? = w8.heap[k]? := fun k hk => by rw [hW9, setRow_other _ _ _ _ (by omega), Below.heap_alloc _ _ _ hk]
    have hrb9 := (ho9 _ hrbw).trans hk8
    have hz9 := (ho9 _ hlt8).trans hk80
    have hbl9 : Below w.heap.size w W9 := by rw [hW9]; exact below_setRow (hbl8.alloc hbl8.size _) (by omega) _
    obtain ⟨q0', q1'⟩ := cells2 hrb9
    have HW9 := Lib.hid hW9
    have HK9 := Lib.hid hk9
    have HZ9 := Lib.hid hz9
    have HB9 := Lib.hid hbl9
    have HA8 := Lib.hid (heap_alloc_new w8 (.cells Try.zeroCells47 47))
    clear hit8 hk8 hk80 hbl8 hW9 hk9 ho9 hrb9 hz9 hbl9 q0 q1
    cases k7 with
    | false =>
      have hXX : X = (hdr0, 190) := by rw [HX.out, if_neg]; intro x; cases x
      have HXX := Lib.hid (HBAD.out W9 HB9.out HZ9.out hXX)
      clear hXX
      go_wp2_with (first
        | (refine wpList_build_to rfl 47 #[(0, .tmp 15), (1, .tmp 17), (2, .tmp 19), (3, .tmp 21), (4, .tmp 23), (5, .tmp 25), (6, .tmp 27)] rfl _ (by kernel_rfl) (hdrCells H) HBU.out ?_)
        | (refine wpList_store_row rfl 47 (.tmp 5) (.tmp 28) rfl w8.heap.size (hdrCells H) rfl rfl 47 _ HA8.out HIH.out HSH.out.symm HOC.out ?_; rw [← HW9.out])
        | (refine wpList_store_row rfl 47 (.tmp 2) (.tmp 34) rfl w.heap.size Try.zeroCells47 rfl rfl 47 ZR HZ9.out HIZ.out (by rw [HZR.out]) HOZ.out ?_))
      refine bodyPost_ret (v := .tuple #[.agg Try.zeroCells47, .int .i64 190]) (results_cell_row_tmp rfl _ _ w.heap.size 47 Try.zeroCells47 (0, 0) (.struct fs) rfl HXX.out.1 HU.out rfl HIZ.out _ rfl) rfl ?_
      exact HXX.out.2
    | true =>
      have HXX : Hid (X = (H, 0)) := Lib.hid (by rw [HX.out, if_pos rfl])
      go_wp2_with (first
        | (refine wpList_build_to rfl 47 #[(0, .tmp 15), (1, .tmp 17), (2, .tmp 19), (3, .tmp 21), (4, .tmp 23), (5, .tmp 25), (6, .tmp 27)] rfl _ (by kernel_rfl) (hdrCells H) HBU.out ?_)
        | (refine wpList_store_row rfl 47 (.tmp 5) (.tmp 28) rfl w8.heap.size (hdrCells H) rfl rfl 47 _ HA8.out HIH.out HSH.out.symm HOC.out ?_; rw [← HW9.out])
        | (refine wpList_load_row rfl 47 (.tmp 5) rfl w8.heap.size rfl 47 (hdrCells H) (0, 0) (.struct fs) HK9.out HU.out rfl HIH.out ?_)
        | (refine wpList_store_row rfl 47 (.tmp 2) (.tmp 35) rfl w.heap.size (hdrCells H) rfl rfl 47 ZR HZ9.out HIH.out (by rw [HZR.out]; exact HSH.out.symm) HOC.out ?_))
      refine bodyPost_ret (v := .tuple #[.agg (hdrCells H), .int .i64 0]) (results_cell_row_tmp rfl _ _ w.heap.size 47 (hdrCells H) (0, 0) (.struct fs) rfl (setRow_heap W9 _ _ _ _ _ HZ9.out) HU.out rfl HIH.out _ rfl) rfl ?_
      rw [HXX.out]
      exact ⟨rfl, below_setRow HB9.out (Nat.le_refl _) _⟩
end Go.Proofs.Ytndkkgkcbbmnpaa
namespace Go.Pg
open Go.RowKit
/-- what has been read of a list of texts, and what is left -/
structure TxData (L rem : List It) (ok : Bool) (T : List (List UInt8)) : Prop where
  good : ok = true → L = T.map .text ++ rem
  bad : ok = false → flat L = false ∧ rem ≠ []
  sum : T.length + (rem.length + ok.toNat) = L.length + 1
theorem TxData.start (L : List It) : TxData L L true [] := ⟨fun _ => rfl, (fun h => by cases h), by simp⟩
theorem TxData.next {L rem : List It} {T : List (List UInt8)} (h : TxData L rem true T) (hr : rem ≠ []) :
    TxData L (rText rem true).2.1 (rText rem true).2.2 (T ++ [(rText rem true).1]) := by
  have hg := h.good rfl
  have hs := h.sum
  match rem, hr with
  | .text b :: r, _ =>
    simp only [rText]
    refine ⟨fun _ => by rw [hg]; simp, fun x => (by cases x), ?_⟩
    simp at hs ⊢; omega
  | .list x :: r, _ =>
    simp only [rText]
    refine ⟨fun x => (by cases x), fun _ => ⟨?_, by simp⟩, ?_⟩
    · rw [hg]; simp [flat, It.isList]
    · simp at hs ⊢; omega
theorem TxData.all {L : List It} {ok : Bool} {T : List (List UInt8)} (h : TxData L [] ok T) : ok = true ∧ flat L = true ∧ L.map It.bytes = T := by
  cases ok with
  | false => exact absurd rfl (h.bad rfl).2
  | true =>
    have hg := h.good rfl
    rw [List.append_nil] at hg
    refine ⟨rfl, by rw [hg]; exact flat_texts T, by rw [hg]; exact bytes_of_texts T⟩
theorem rOpen_len (bs : List UInt8) (many : Nat) (h : (rOpen bs many).2 = true) : (rOpen bs many).1.length = many := by
  simp only [rOpen, Bool.and_eq_true, decide_eq_true_eq] at h ⊢
  exact h.2
theorem whole_le_mem (l : List It) (x : It) (h : x ∈ l) : x.whole ≤ It.wholes l := by
  induction l with
  | nil => cases h
  | cons y r ih =>
    simp only [It.wholes]
    rcases List.mem_cons.1 h with rfl | h
    · omega
    · have := ih h; omega
theorem items_le_whole (x : It) : x.items.length ≤ x.whole := by
  have h1 := It.length_le_wholes x.items
  have h2 := It.body_le_whole x
  have h3 := It.body_eq x
  omega
theorem rOpen_small (bs : List UInt8) (many : Nat) (h : (rOpen bs many).2 = true) (x : It) (hx : x ∈ (rOpen bs many).1) : x.items.length ≤ 16777215 := by
  simp only [rOpen, Bool.and_eq_true, decide_eq_true_eq] at h hx
  obtain ⟨⟨g1, -⟩, -⟩ := h
  have h1 := read_items_small bs g1
  have h2 := items_le_whole x
  have h3 := whole_le_mem _ _ hx
  omega
theorem blkCells_size (p : List UInt8) (n b : Nat) (v : Value) (hp : p.length = 32) : (blkCells p n b v).size = 35 := by
  simp [blkCells, cellsL_length, hp]
theorem blkCells_set (p : List UInt8) (n b : Nat) (v v' : Value) (hp : p.length = 32) : (blkCells p n b v).setIfInBounds 34 v' = blkCells p n b v' := by
  have hl : (cellsL p).length = 32 := by rw [cellsL_length, hp]
  unfold blkCells
  rw [List.setIfInBounds_toArray]
  congr 1
  rw [List.set_append_right _ _ (by omega), hl]
  rfl
theorem blkCells_one (p : List UInt8) (n b : Nat) (a : Option Addr) (m c : Nat) : (blkCells p n b (.slice a m c)).all (·.oneCell') = true := by
  apply Array.all_eq_true_iff_forall_mem.2
  intro u hu
  simp only [blkCells, cellsL, List.mem_toArray, List.mem_append, List.mem_map, List.mem_cons, List.not_mem_nil, or_false] at hu
  rcases hu with ⟨x, -, rfl⟩ | rfl | rfl | rfl <;> rfl
section
variable {P : Program}
/-- the laws of whole rows, their facts on the frame asked behind the operation's shape -/
theorem wpL_store_row {ops : Array Oper} {rest : List Oper} {o : Oper} {a : Act} {w : World} {Q : Exit → Act → World → Prop} (ty : TypeId) (x y : Operand) (g : Nat) (cells : Array Value) (t : TypeId) (old : Array Value)
    (hc : o.guard = none ∧ o.op = .store ty x y ∧ a.eval x = .pointer (some ⟨g, 0, none⟩) ∧ a.eval y = .agg cells)
    (hf : w.heap[g]? = some (.cells old t (0, 0)) ∧ (P.info? ty).map (·.size) = some cells.size ∧ old.size = cells.size ∧ cells.all (·.oneCell') = true)
    (h : wpList P ops Q rest (a.put o.dst undef) (w.setRow g cells)) : wpList P ops Q (o :: rest) a w :=
  wpList_store_row hc.1 ty x y hc.2.1 g cells hc.2.2.1 hc.2.2.2 t old hf.1 hf.2.1 hf.2.2.1 hf.2.2.2 h
theorem wpL_load_row {ops : Array Oper} {rest : List Oper} {o : Oper} {a : Act} {w : World} {Q : Exit → Act → World → Prop} (ty : TypeId) (x : Operand) (g : Nat) (cs : Array Value) (t : TypeId) (d : TypeDesc)
    (hc : o.guard = none ∧ o.op = .load ty x ∧ a.eval x = .pointer (some ⟨g, 0, none⟩))
    (hf : w.heap[g]? = some (.cells cs t (0, 0)) ∧ P.underlying ty = some d ∧ (match d with | .struct _ | .array _ _ => true | _ => false) = true ∧ (P.info? ty).map (·.size) = some cs.size)
    (h : wpList P ops Q rest (a.put o.dst (.agg cs)) w) : wpList P ops Q (o :: rest) a w :=
  wpList_load_row hc.1 ty x hc.2.1 g hc.2.2 t cs (0, 0) d hf.1 hf.2.1 (by have := hf.2.2.1; cases d <;> exact this) hf.2.2.2 h
theorem wpL_build_to {ops : Array Oper} {rest : List Oper} {o : Oper} {a : Act} {w : World} {Q : Exit → Act → World → Prop} (t : TypeId) (parts : Array (Nat × Operand)) (vs : List (Nat × Value)) (cells : Array Value)
    (hc : o.guard = none ∧ o.op = .build t parts ∧ (parts.map fun (i, x) => (i, a.eval x)).toList = vs) (hb : P.built t vs = some cells)
    (h : wpList P ops Q rest (a.put o.dst (.agg cells)) w) : wpList P ops Q (o :: rest) a w :=
  wpList_build_to hc.1 t parts hc.2.1 vs hc.2.2 cells hb h
end
theorem rBlk_ok (l : List It) : (rBlk l).1.1.length = 32 ∧ ((rBlk l).1.2.1 : Int) < 18446744073709551616 ∧ ((rBlk l).1.2.2 : Int) < 18446744073709551616 :=
  ⟨fit32_length _, readWord_lt _, readWord_lt _⟩
end Go.Pg
namespace Go.Proofs.Ytndkkgkcbbmnpaa
open Go.RowKit Go.Pg
theorem builtBlk (parts : List (Nat × Value)) : Try.prog.built 40 parts = Instr.fill (#[(0, 32), (32, 1), (33, 1), (34, 1)][·]?) (blkCells (List.replicate 32 0) 0 0 (.slice none 0 0)) parts := by kernel_rfl
theorem builtBlkOf (p : List UInt8) (nn bb : Nat) (hp : p.length = 32) : Try.prog.built 40 [(0, .agg (cellsOf p)), (1, .int .u64 nn), (2, .int .u64 bb)] = some (blkCells p nn bb (.slice none 0 0)) := by
  have l0 : (cellsL p).length = 32 := by rw [cellsL_length, hp]
  have z0 : (cellsL (List.replicate 32 0)).length = 32 := by rw [cellsL_length]; simp
  rw [builtBlk]
  obtain ⟨Z, hZ⟩ : ∃ Z, Z = cellsL (List.replicate 32 0) := ⟨_, rfl⟩
  have hz : blkCells (List.replicate 32 0) 0 0 (.slice none 0 0) = (Z ++ [Value.int .u64 0] ++ [Value.int .u64 0] ++ [Value.slice none 0 0]).toArray := by rw [hZ]; rfl
  have hh : blkCells p nn bb (.slice none 0 0) = (cellsL p ++ [Value.int .u64 (nn : Int)] ++ [Value.int .u64 (bb : Int)] ++ [Value.slice none 0 0]).toArray := by unfold blkCells; simp
  rw [← hZ] at z0
  rw [hz, hh]
  obtain ⟨A, hA⟩ : ∃ A, A = cellsL p := ⟨_, rfl⟩
  have eA : cellsOf p = A.toArray := by rw [hA]; rfl
  rw [eA, ← hA]
  rw [← hA] at l0
  have s1 := fill_one (#[(0, 32), (32, 1), (33, 1), (34, 1)][·]?) 0 0 A [] Z ([Value.int .u64 0] ++ [Value.int .u64 0] ++ [Value.slice none 0 0]) [(1, .int .u64 nn), (2, .int .u64 bb)] (by rw [l0]; rfl) rfl (by omega)
  have s2 := fill_int (#[(0, 32), (32, 1), (33, 1), (34, 1)][·]?) 1 32 .u64 nn (.int .u64 0) A ([Value.int .u64 0] ++ [Value.slice none 0 0]) [(2, .int .u64 bb)] rfl l0
  have s3 := fill_int (#[(0, 32), (32, 1), (33, 1), (34, 1)][·]?) 2 33 .u64 bb (.int .u64 0) (A ++ [Value.int .u64 (nn : Int)]) [Value.slice none 0 0] [] rfl (by simp [l0])
  simp only [List.nil_append, List.append_assoc] at s1 s2 s3 ⊢
  rw [s1, s2, s3]
  rfl
theorem underlyingBlk : ∃ fs, Try.prog.underlying 40 = some (.struct fs) := ⟨_, Try.underlying40⟩
theorem infoBlk : (Try.prog.info? 40).map (·.size) = some 35 := by kernel_rfl

/-- a block is told, or an empty one and a fault -/
def BlkD (w : World) (r : Blk × Nat) (e : Ending) (w' : World) : Prop :=
  ∃ a n c, e = .returned (.tuple #[.agg (blkCells r.1.p r.1.nn r.1.bb (.slice a n c)), .int .i64 (r.2 : Int)]) ∧ RowsAt (fresh w) w' (.slice a n c) r.1.T ∧ Below w.heap.size w w'

/-- the transactions are being read -/
structure TxSt (G : Nat → Prop) (w : World) (ZR : Array Value) (N rb tb bx : Nat) (x3 : Value) (k3 : Bool) (p : List UInt8) (nn bb : Nat) (L : List It) (wr : World) (rem : List It) (ok : Bool) (T : List (List UInt8)) (v : Value) : Prop where
  bel : Below w.heap.size w wr
  zero : wr.heap[w.heap.size]? = some (.cells ZR 40 (0, 0))
  rd : wr.heap[rb]? = some (.cells #[x3, .bool k3] 78 (0, 0))
  tx : RdrAt G wr 7 tb (rem, ok)
  box : wr.heap[bx]? = some (.cells (blkCells p nn bb v) 40 (0, 0))
  own : OwnList rowR G N wr 25 1 v T
  data : TxData L rem ok T
  foot : ∀ b, G b → w.heap.size < b ∧ b < N ∧ b ≠ tb ∧ b ≠ bx ∧ b ≠ rb
  place : w.heap.size < rb ∧ w.heap.size < tb ∧ w.heap.size < bx ∧ rb < N ∧ tb < N ∧ bx < N ∧ rb ≠ tb ∧ bx ≠ rb ∧ bx ≠ tb
  len : p.length = 32
  size : N ≤ wr.heap.size
theorem TxSt.push {G : Nat → Prop} {w : World} {ZR : Array Value} {N rb tb bx : Nat} {x3 : Value} {k3 : Bool} {p : List UInt8} {nn bb : Nat} {L : List It} {wr : World} {rem : List It} {T : List (List UInt8)} {v : Value}
    (h : TxSt G w ZR N rb tb bx x3 k3 p nn bb L wr rem true T v) (hr : rem ≠ []) {w5 : World} {a : Option Addr} {n c : Nat}
    (k1 : BytesAt G w5 (.slice a n c) (rText rem true).1) (k2 : RdrAt G w5 7 tb (rText rem true).2) (k3' : Chg (fun k => k = tb) wr.drew w5) :
    ∃ R : List Value → List UInt8 → Prop, (∀ cs x, R cs x → ∀ u ∈ cs, u.oneCell' = true) ∧ OwnAt (w5.alloc (.cells #[.slice a n c] 25)) N 25 1 R v T ∧
      SliceAt (fun _ => True) (w5.alloc (.cells #[.slice a n c] 25)) 1 R (.slice (some ⟨w5.heap.size, 0, none⟩) 1 1) [(rText rem true).1] ∧
      N ≤ w5.heap.size ∧ w5.heap[bx]? = some (.cells (blkCells p nn bb v) 40 (0, 0)) ∧
      ∀ g cap n' W2, OwnAt W2 N 25 1 R (.slice (some ⟨g, 0, none⟩) n' cap) (T ++ [(rText rem true).1]) → (w5.alloc (.cells #[.slice a n c] 25)).grownBy W2 v.ownBlock →
        Moved (w5.alloc (.cells #[.slice a n c] 25)) v (.slice (some ⟨g, 0, none⟩) n' cap) →
        W2.heap[bx]? = some (.cells (blkCells p nn bb v) 40 (0, 0)) ∧
        TxSt G w ZR N rb tb bx x3 k3 p nn bb L (W2.setCell ⟨bx, 34, none⟩ (.slice (some ⟨g, 0, none⟩) n' cap)) (rText rem true).2.1 (rText rem true).2.2 (T ++ [(rText rem true).1]) (.slice (some ⟨g, 0, none⟩) n' cap) := by
  obtain ⟨p1, p2, p3, p4, p5, p6, p7, p8, p9⟩ := h.place
  have hbx := (Array.getElem?_eq_some_iff.1 h.box).1
  have hrb := (Array.getElem?_eq_some_iff.1 h.rd).1
  have hzz := (Array.getElem?_eq_some_iff.1 h.zero).1
  have hsz := k3'.size
  simp only [World.size_drew] at hsz
  have hblk : ∀ k, k < wr.heap.size → k ≠ tb → w5.heap[k]? = wr.heap[k]? := fun k hk hn => k3'.block k hk hn
  have hown := h.own.own
  have hsN := h.size
  have htbl : tb < w5.heap.size := by obtain ⟨_, _, _, _, hk⟩ := k2; exact (Array.getElem?_eq_some_iff.1 hk).1
  have ho5 : OwnList rowR G N w5 25 1 v T := h.own.carry carriedRow hsz (fun b hb hlt => hblk b hlt (h.foot b hb).2.2.1) (fun g hg => hblk g (hown g hg).2 (by have := (hown g hg).1; omega))
  have hbox5 := (hblk bx hbx p9).trans h.box
  have hb5 : Below w.heap.size w w5 := (Below.drew h.bel).trans (k3'.toBelowAt (by simp only [World.size_drew]; omega) (fun k hk e => by omega))
  obtain ⟨R, g1, g2, g3, g4⟩ := ho5.push carriedRow (H := G) (cs := [.slice a n c]) (x := (rText rem true).1) ⟨_, rfl, k1⟩ rfl (by decide) (fun b _ hb => ⟨hb, fun e => by have := (hown b e).1; have := (h.foot b hb).2.1; omega⟩) 25
  refine ⟨R, g1, g2, g3, by omega, hbox5, fun g cap n' W2 ho hg hm => ?_⟩
  have hOn := g4 _ W2 ho hg hm
  have hnew := hOn.own
  have hsg := hg.size
  simp only [World.size_alloc] at hsg
  have hW2 : ∀ k, k < w5.heap.size → k < N → W2.heap[k]? = w5.heap[k]? := fun k hk hN => by
    rw [hg.block k (by simp; omega) (fun e => by have := (hown k e.symm).1; omega)]
    exact Below.heap_alloc _ _ _ hk
  have hset : ∀ k, k < w5.heap.size → k < N → k ≠ bx → (W2.setCell ⟨bx, 34, none⟩ (.slice (some ⟨g, 0, none⟩) n' cap)).heap[k]? = w5.heap[k]? := fun k hk hN hn => by
    rw [Below.heap_setCell _ _ _ _ hn]; exact hW2 k hk hN
  have hboxW2 := (hW2 bx (by omega) p6).trans hbox5
  have hbW2 : Below w.heap.size w W2 := (Below.alloc hb5 hb5.size _).grown hg (by simp; omega) (fun k hk => by have := (hown k hk).1; omega)
  refine ⟨hboxW2, ⟨hbW2.setCell (by show w.heap.size ≤ bx; omega) _, ?_, ?_, ?_, ?_, ?_, h.data.next hr, h.foot, h.place, h.len, by simp [World.setCell]; omega⟩⟩
  · rw [hset _ (by omega) (by omega) (by omega), hblk _ hzz (by omega)]; exact h.zero
  · rw [hset _ (by omega) (by omega) (by omega), hblk _ hrb p7]; exact h.rd
  · exact k2.carry (fun b hb hlt => hset b hlt (h.foot b hb).2.1 (h.foot b hb).2.2.2.1) (hset _ htbl p5 (by omega))
  · have := blk_set (i := 34) (v := .slice (some ⟨g, 0, none⟩) n' cap) hboxW2
    rw [blkCells_set _ _ _ _ _ h.len] at this
    exact this
  · exact hOn.carry carriedRow (by simp) (fun b hb hlt => Below.heap_setCell _ _ _ _ (h.foot b hb).2.2.2.1) (fun g' hg' => Below.heap_setCell _ _ _ _ (by have := (hnew g' hg').1; show g' ≠ bx; omega))
end Go.Proofs.Ytndkkgkcbbmnpaa
