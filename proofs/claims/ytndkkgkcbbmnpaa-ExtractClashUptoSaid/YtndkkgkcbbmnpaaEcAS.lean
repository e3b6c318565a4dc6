/-
  The plain law of headers: both ways of reading agree; what is written is read as it was.
  The plain law of blocks: both ways of reading agree; what is written is read as it was.
  Reading a block's transactions: how far it has come; building a block of parts.
  Contract of extract.Clash.
  Contract of pergolalaw23.alive.
  Contracts of pergolaref01.SameAll, pergolaref21.Same.
  Every Told tells what a witness has, or nothing (the statement ExtractTold, where what is read is of bulk at most 1048576).
-/
import Derived.Test.YtndkkgkcbbmnpaaEcAR
namespace Go.Pg
open Go.RowKit
def itB (l : List It) (i : Nat) : List UInt8 := (l.getD i (.text [])).bytes
def hdrOf (l : List It) : Hdr := ⟨fit32 (itB l 0), (readWord (itB l 1)).1, (readWord (itB l 2)).1, (readWord (itB l 3)).1, fit32 (itB l 4), fit32 (itB l 5), fit32 (itB l 6)⟩
def refHdrDecode (bs : List UInt8) : Hdr × Nat :=
  if (rdWhole bs).1 = 0 ∧ (rdWhole bs).2.items.length = 7 ∧ hdrBytes (hdrOf (rdWhole bs).2.items) = bs then (hdrOf (rdWhole bs).2.items, 0) else (hdr0, 190)
theorem hdrOf_ok (l : List It) : (hdrOf l).ok := ⟨fit32_length _, fit32_length _, fit32_length _, fit32_length _, readWord_lt _, readWord_lt _, readWord_lt _⟩
theorem fit32_id (b : List UInt8) (h : b.length = 32) : fit32 b = b := by
  unfold fit32; rw [List.take_of_length_le (by omega), h]; simp
theorem readWord_ok (b : List UInt8) (h : (readWord b).2 = true) : wordB (readWord b).1 = b := by
  unfold readWord at h ⊢
  split at h
  · cases h
  · rename_i hn
    rw [if_neg hn]
    exact (wordB_beNum_iff b).2 (fun x => hn (.inr x))
theorem readWord_wordB (n : Nat) (h : (n : Int) < 18446744073709551616) : readWord (wordB n) = (n, true) := by
  unfold readWord
  have h1 := wordB_le n h
  have h2 : wordB (beNum (wordB n)) = wordB n := by rw [beNum_wordB]
  have h3 := (wordB_beNum_iff (wordB n)).1 h2
  rw [if_neg (by rintro (x | x); · omega
                 · exact h3 x), beNum_wordB]
theorem rText_true (l : List It) (ok : Bool) (h : (rText l ok).2.2 = true) : ok = true ∧ ∃ b r, l = .text b :: r ∧ rText l ok = (b, r, true) := by
  match l, h with
  | .text b :: r, h => simp only [rText] at h ⊢; exact ⟨h, b, r, rfl, by rw [h]⟩
  | .list x :: r, h => simp [rText] at h
  | [], h => simp [rText] at h
theorem rDig_true (l : List It) (ok : Bool) (h : (rDig l ok).2.2 = true) : ok = true ∧ ∃ b r, l = .text b :: r ∧ b.length = 32 ∧ rDig l ok = (b, r, true) := by
  unfold rDig at h ⊢
  simp only [Bool.and_eq_true, decide_eq_true_eq] at h
  obtain ⟨h1, b, r, h2, h3⟩ := rText_true l ok h.1
  rw [h3] at h ⊢
  simp only at h ⊢
  exact ⟨h1, b, r, h2, h.2, by rw [fit32_id b h.2, h.2]; rfl⟩
theorem rWord_true (l : List It) (ok : Bool) (h : (rWord l ok).2.2 = true) : ok = true ∧ ∃ n r, l = .text (wordB n) :: r ∧ (n : Int) < 18446744073709551616 ∧ rWord l ok = (n, r, true) := by
  unfold rWord at h ⊢
  simp only [Bool.and_eq_true] at h
  obtain ⟨h1, b, r, h2, h3⟩ := rText_true l ok h.1
  rw [h3] at h ⊢
  simp only at h ⊢
  exact ⟨h1, (readWord b).1, r, by rw [readWord_ok b h.2]; exact h2, readWord_lt b, by rw [h.2]; rfl⟩
theorem hdrOf_hdrI (t : Hdr) (ho : t.ok) (r : List It) : hdrOf ((hdrI t).items ++ r) = t := by
  obtain ⟨p, nn, bb, gg, tx, st, rc⟩ := t
  obtain ⟨o1, o2, o3, o4, o5, o6, o7⟩ := ho
  simp only at o1 o2 o3 o4 o5 o6 o7
  simp [hdrOf, hdrI, It.items, itB, It.bytes, fit32_id _ o1, fit32_id _ o2, fit32_id _ o3, fit32_id _ o4, readWord_wordB _ o5, readWord_wordB _ o6, readWord_wordB _ o7]
theorem rHdr_hdrI (t : Hdr) (ho : t.ok) (r : List It) : rHdr ((hdrI t).items ++ r) true = (t, true) := by
  obtain ⟨p, nn, bb, gg, tx, st, rc⟩ := t
  obtain ⟨o1, o2, o3, o4, o5, o6, o7⟩ := ho
  simp only at o1 o2 o3 o4 o5 o6 o7
  simp [rHdr, hdrI, It.items, rDig, rWord, rText, fit32_id _ o1, fit32_id _ o2, fit32_id _ o3, fit32_id _ o4, readWord_wordB _ o5, readWord_wordB _ o6, readWord_wordB _ o7, o1, o2, o3, o4]
theorem rHdr_true (l : List It) (h : (rHdr l true).2 = true) : ∃ t : Hdr, ∃ r, t.ok ∧ l = (hdrI t).items ++ r := by
  unfold rHdr at h
  simp only at h
  obtain ⟨h6, rc, q7, e7, l7, -⟩ := rDig_true _ _ h
  obtain ⟨h5, st, q6, e6, l6, r6⟩ := rDig_true _ _ h6
  obtain ⟨h4, tx, q5, e5, l5, r5⟩ := rDig_true _ _ h5
  obtain ⟨h3, gg, q4, e4, l4, r4⟩ := rWord_true _ _ h4
  obtain ⟨h2, bb, q3, e3, l3, r3⟩ := rWord_true _ _ h3
  obtain ⟨h1, nn, q2, e2, l2, r2⟩ := rWord_true _ _ h2
  obtain ⟨-, p, q1, e1, l1, r1⟩ := rDig_true _ _ h1
  rw [r6] at e7; rw [r5] at e6; rw [r4] at e5; rw [r3] at e4; rw [r2] at e3; rw [r1] at e2
  simp only at e2 e3 e4 e5 e6 e7
  refine ⟨⟨p, nn, bb, gg, tx, st, rc⟩, q7, ⟨l1, l5, l6, l7, l2, l3, l4⟩, ?_⟩
  rw [e1, e2, e3, e4, e5, e6, e7]
  simp [hdrI, It.items]
theorem hdrDecode_eq (bs : List UInt8) : hdrDecode bs = refHdrDecode bs := by
  unfold hdrDecode refHdrDecode
  by_cases h : (rOpen bs 7).2 = true ∧ (rHdr (rOpen bs 7).1 true).2 = true
  · rw [if_pos h]
    obtain ⟨h1, h2⟩ := h
    obtain ⟨t, r, ho, hl⟩ := rHdr_true _ h2
    rw [hl, rHdr_hdrI t ho r]
    simp only [rOpen, Bool.and_eq_true, decide_eq_true_eq] at h1 hl
    obtain ⟨⟨h3, h4⟩, h5⟩ := h1
    have hr : r = [] := by
      rw [hl] at h5
      simp [hdrI, It.items] at h5
      exact h5
    subst hr
    have hx : (rdWhole bs).2 = hdrI t := by
      cases hx : (rdWhole bs).2 with
      | text b => rw [hx] at h4; cases h4
      | list l => rw [hx] at hl; simp only [It.items, List.append_nil] at hl; rw [hl]; rfl
    have hw : rdWhole bs = (0, hdrI t) := by rw [← h3, ← hx]
    have hs := (rdWhole_sound bs _ hw).1
    have he : hdrOf (rdWhole bs).2.items = t := by rw [hl]; exact hdrOf_hdrI t ho []
    rw [if_pos ⟨h3, h5, by rw [he, hdrBytes_eq t ho]; exact hs.symm⟩, he]
  · rw [if_neg h, if_neg]
    rintro ⟨h1, h2, h3⟩
    apply h
    have ho := hdrOf_ok (rdWhole bs).2.items
    obtain ⟨t, ht⟩ : ∃ t, t = hdrOf (rdWhole bs).2.items := ⟨_, rfl⟩
    rw [← ht] at ho h3
    rw [hdrBytes_eq t ho] at h3
    have hb := rdWhole_back _ (hdr_fits t ho)
    rw [h3] at hb
    have e : rHdr (hdrI t).items true = (t, true) := by have := rHdr_hdrI t ho []; rwa [List.append_nil] at this
    constructor
    · simp [rOpen, hb, hdrI, It.isList, It.items]
    · simp only [rOpen, hb, e]
theorem hdrDecode_back (h : Hdr) (ho : h.ok) : hdrDecode (hdrBytes h) = (h, 0) := by
  have hb := rdWhole_back _ (hdr_fits h ho)
  rw [← hdrBytes_eq h ho] at hb
  have e : rHdr (hdrI h).items true = (h, true) := by have := rHdr_hdrI h ho []; rwa [List.append_nil] at this
  unfold hdrDecode
  have e2 : rOpen (hdrBytes h) 7 = ((hdrI h).items, true) := by simp [rOpen, hb, hdrI, It.isList, It.items]
  rw [e2]
  simp only [e, and_self, if_true]
theorem hdrDecode_sound (bs : List UInt8) (h : Hdr) (hd : hdrDecode bs = (h, 0)) : hdrBytes h = bs := by
  rw [hdrDecode_eq] at hd
  unfold refHdrDecode at hd
  split at hd
  · rename_i x
    simp only [Prod.mk.injEq, and_true] at hd
    rw [← hd]; exact x.2.2
  · simp at hd
end Go.Pg
namespace Go.Pg
open Go.RowKit
/-- a block -/
structure Blk where
  p : List UInt8
  nn : Nat
  bb : Nat
  T : List (List UInt8)
structure Blk.ok (b : Blk) : Prop where
  p : b.p.length = 32
  nn : (b.nn : Int) < 18446744073709551616
  bb : (b.bb : Int) < 18446744073709551616
def Blk.item (b : Blk) : It := blkI b.p b.nn b.bb b.T
def Blk.enc (b : Blk) : List UInt8 × Nat := blkEncode b.p b.nn b.bb b.T
def blk0 : Blk := ⟨List.replicate 32 0, 0, 0, []⟩
theorem blk0_ok : blk0.ok := ⟨rfl, by decide, by decide⟩
def rBlk (l : List It) : (List UInt8 × Nat × Nat) × Bool :=
  let r1 := rDig l true
  let r2 := rWord r1.2.1 r1.2.2
  let r3 := rWord r2.2.1 r2.2.2
  ((r1.1, r2.1, r3.1), r3.2.2)
def blkDecode (bs : List UInt8) : Blk × Nat :=
  if (rOpen bs 4).2 = true ∧ ((rOpen bs 4).1.getD 3 (.text [])).isList = true ∧ (rBlk (rOpen bs 4).1).2 = true ∧ flat ((rOpen bs 4).1.getD 3 (.text [])).items = true then
    (⟨(rBlk (rOpen bs 4).1).1.1, (rBlk (rOpen bs 4).1).1.2.1, (rBlk (rOpen bs 4).1).1.2.2, ((rOpen bs 4).1.getD 3 (.text [])).items.map It.bytes⟩, 0)
  else (blk0, 190)
def blkOf (l : List It) : Blk := ⟨fit32 (itB l 0), (readWord (itB l 1)).1, (readWord (itB l 2)).1, (l.getD 3 (.text [])).items.map It.bytes⟩
def refBlkDecode (bs : List UInt8) : Blk × Nat :=
  if (rdWhole bs).1 = 0 ∧ (rdWhole bs).2.items.length = 4 ∧ (blkOf (rdWhole bs).2.items).enc = (bs, 0) then (blkOf (rdWhole bs).2.items, 0) else (blk0, 190)
theorem blkOf_ok (l : List It) : (blkOf l).ok := ⟨fit32_length _, readWord_lt _, readWord_lt _⟩
theorem rBlk_item (b : Blk) (ho : b.ok) : rBlk b.item.items = ((b.p, b.nn, b.bb), true) := by
  obtain ⟨p, nn, bb, T⟩ := b
  obtain ⟨o1, o2, o3⟩ := ho
  simp only at o1 o2 o3
  simp [rBlk, Blk.item, blkI, It.items, rDig, rWord, rText, fit32_id _ o1, readWord_wordB _ o2, readWord_wordB _ o3, o1]
theorem textsI_items (T : List (List UInt8)) : (textsI T).items = T.map .text := rfl
theorem bytes_of_texts (T : List (List UInt8)) : (T.map It.text).map It.bytes = T := by
  rw [List.map_map]
  conv => rhs; rw [← List.map_id T]
  exact List.map_congr_left fun y _ => rfl
theorem blkOf_item (b : Blk) (ho : b.ok) : blkOf b.item.items = b := by
  obtain ⟨p, nn, bb, T⟩ := b
  obtain ⟨o1, o2, o3⟩ := ho
  simp only at o1 o2 o3
  have hT := bytes_of_texts T
  simp only [blkOf, Blk.item, blkI, It.items, itB, List.getD_cons_zero, List.getD_cons_succ, It.bytes, fit32_id _ o1, readWord_wordB _ o2, readWord_wordB _ o3, textsI, hT]
theorem flat_texts (T : List (List UInt8)) : flat (T.map It.text) = true := by
  unfold flat; rw [List.all_eq_true]; intro x hx
  simp only [List.mem_map] at hx
  obtain ⟨y, -, rfl⟩ := hx
  rfl
theorem rBlk_true (l : List It) (h : (rBlk l).2 = true) (hl : l.length = 4) (h3 : (l.getD 3 (.text [])).isList = true) (hf : flat (l.getD 3 (.text [])).items = true) :
    ∃ b : Blk, b.ok ∧ l = b.item.items := by
  unfold rBlk at h
  simp only at h
  obtain ⟨k2, bb, q3, e3, l3, r3⟩ := rWord_true _ _ h
  obtain ⟨k1, nn, q2, e2, l2, r2⟩ := rWord_true _ _ k2
  obtain ⟨-, p, q1, e1, l1, r1⟩ := rDig_true _ _ k1
  rw [r2] at e3; rw [r1] at e2
  simp only at e2 e3
  rw [e2, e3] at e1
  subst e1
  match q3, hl, h3, hf with
  | [.list its], _, _, hf =>
    simp only [List.getD_cons_succ, List.getD_cons_zero, It.items] at hf
    have ht := texts_of_flat its hf
    refine ⟨⟨p, nn, bb, its.map It.bytes⟩, ⟨l1, l2, l3⟩, ?_⟩
    simp only [Blk.item, blkI, It.items, textsI, ht]
  | [.text t], _, h3, _ => simp [It.isList] at h3
  | [], hl, _, _ => simp at hl
  | _ :: _ :: _, hl, _, _ => simp at hl
theorem blk_enc_of (b : Blk) (bs : List UInt8) (h : It.fits 8 b.item) (hb : bs = b.item.enc) : b.enc = (bs, 0) := by
  have he := encode_ok _ h
  unfold Blk.enc blkEncode
  unfold Blk.item at he hb
  rw [he, if_pos rfl, hb]
theorem blk_of_enc (b : Blk) (bs : List UInt8) (h : b.enc = (bs, 0)) : It.fits 8 b.item ∧ bs = b.item.enc := by
  unfold Blk.enc blkEncode at h
  split at h
  · rename_i h0
    have hf := encode_fits _ h0
    have he := encode_ok _ hf
    rw [he] at h
    simp only [Prod.mk.injEq, and_true] at h
    exact ⟨hf, h.symm⟩
  · simp at h
theorem blkDecode_of (b : Blk) (ho : b.ok) (bs : List UInt8) (h : rdWhole bs = (0, b.item)) : blkDecode bs = (b, 0) := by
  have e1 : rOpen bs 4 = (b.item.items, true) := by simp [rOpen, h, Blk.item, blkI, It.isList, It.items]
  have e2 : b.item.items.getD 3 (.text []) = textsI b.T := rfl
  unfold blkDecode
  rw [e1]
  simp only [rBlk_item b ho, e2]
  rw [if_pos ⟨trivial, rfl, trivial, by rw [textsI_items]; exact flat_texts _⟩, textsI_items, bytes_of_texts]
theorem blkDecode_eq (bs : List UInt8) : blkDecode bs = refBlkDecode bs := by
  by_cases h : (rdWhole bs).1 = 0 ∧ (rdWhole bs).2.items.length = 4 ∧ (blkOf (rdWhole bs).2.items).enc = (bs, 0)
  · unfold refBlkDecode
    rw [if_pos h]
    obtain ⟨-, -, h3⟩ := h
    obtain ⟨g1, g2⟩ := blk_of_enc _ _ h3
    refine blkDecode_of _ (blkOf_ok _) bs ?_
    have := rdWhole_back _ g1
    rw [← g2] at this
    exact this
  · unfold refBlkDecode
    rw [if_neg h]
    unfold blkDecode
    rw [if_neg]
    rintro ⟨h1, h2, h3, h4⟩
    apply h
    simp only [rOpen, Bool.and_eq_true, decide_eq_true_eq] at h1
    obtain ⟨⟨g1, g2⟩, g3⟩ := h1
    obtain ⟨b, ho, hl⟩ := rBlk_true _ h3 g3 h2 h4
    simp only [rOpen] at hl
    have hx : (rdWhole bs).2 = b.item := by
      cases hx : (rdWhole bs).2 with
      | text t => rw [hx] at g2; cases g2
      | list l => rw [hx] at hl; simp only [It.items] at hl; rw [hl]; rfl
    have hs := rdWhole_sound bs b.item (by rw [← g1, ← hx])
    refine ⟨g1, g3, ?_⟩
    rw [hx, blkOf_item b ho]
    exact blk_enc_of b bs hs.2 hs.1
theorem blkDecode_ok (bs : List UInt8) : (blkDecode bs).1.ok := by
  rw [blkDecode_eq]; unfold refBlkDecode
  split
  · exact blkOf_ok _
  · exact blk0_ok
theorem blkDecode_back (b : Blk) (ho : b.ok) (bs : List UInt8) (h : b.enc = (bs, 0)) : blkDecode bs = (b, 0) := by
  obtain ⟨g1, g2⟩ := blk_of_enc _ _ h
  refine blkDecode_of b ho bs ?_
  rw [g2]; exact rdWhole_back _ g1
theorem blkDecode_sound (bs : List UInt8) (b : Blk) (h : blkDecode bs = (b, 0)) : b.enc = (bs, 0) := by
  rw [blkDecode_eq] at h
  unfold refBlkDecode at h
  split at h
  · rename_i x
    simp only [Prod.mk.injEq, and_true] at h
    rw [← h]; exact x.2.2
  · simp at h
end Go.Pg
namespace Go.Pg
open Go.RowKit
/-- what has been read of a list of texts, and what is left -/
structure TxData (L rem : List It) (ok : Bool) (T : List (List UInt8)) : Prop where
  good : ok = true → L = T.map .text ++ rem
  bad : ok = false → flat L = false ∧ rem ≠ []
  sum : T.length + (rem.length + ok.toNat) = L.length + 1
theorem TxData.start (L : List It) : TxData L L true [] := ⟨fun _ => rfl, (fun h => by cases h), by simp⟩
theorem TxData.next {L rem : List It} {T : List (List UInt8)} (h : TxData L rem true T) (hr : rem ≠ []) :
    TxData L (rText rem true).2.1 (rText rem true).2.2 (T ++ [(rText rem true).1]) := by
  have hg := h.good rfl
  have hs := h.sum
  match rem, hr with
  | .text b :: r, _ =>
    simp only [rText]
    refine ⟨fun _ => by rw [hg]; simp, fun x => (by cases x), ?_⟩
    simp at hs ⊢; omega
  | .list x :: r, _ =>
    simp only [rText]
    refine ⟨fun x => (by cases x), fun _ => ⟨?_, by simp⟩, ?_⟩
    · rw [hg]; simp [flat, It.isList]
    · simp at hs ⊢; omega
theorem TxData.all {L : List It} {ok : Bool} {T : List (List UInt8)} (h : TxData L [] ok T) : ok = true ∧ flat L = true ∧ L.map It.bytes = T := by
  cases ok with
  | false => exact absurd rfl (h.bad rfl).2
  | true =>
    have hg := h.good rfl
    rw [List.append_nil] at hg
    refine ⟨rfl, by rw [hg]; exact flat_texts T, by rw [hg]; exact bytes_of_texts T⟩
theorem rOpen_len (bs : List UInt8) (many : Nat) (h : (rOpen bs many).2 = true) : (rOpen bs many).1.length = many := by
  simp only [rOpen, Bool.and_eq_true, decide_eq_true_eq] at h ⊢
  exact h.2
theorem whole_le_mem (l : List It) (x : It) (h : x ∈ l) : x.whole ≤ It.wholes l := by
  induction l with
  | nil => cases h
  | cons y r ih =>
    simp only [It.wholes]
    rcases List.mem_cons.1 h with rfl | h
    · omega
    · have := ih h; omega
theorem items_le_whole (x : It) : x.items.length ≤ x.whole := by
  have h1 := It.length_le_wholes x.items
  have h2 := It.body_le_whole x
  have h3 := It.body_eq x
  omega
theorem rOpen_small (bs : List UInt8) (many : Nat) (h : (rOpen bs many).2 = true) (x : It) (hx : x ∈ (rOpen bs many).1) : x.items.length ≤ bs.length := by
  simp only [rOpen, Bool.and_eq_true, decide_eq_true_eq] at h hx
  obtain ⟨⟨g1, -⟩, -⟩ := h
  have hs := (rdWhole_sound bs _ (Prod.ext g1 rfl)).1
  have h1 := It.enc_length (rdWhole bs).2
  rw [← hs] at h1
  have h2 := items_le_whole x
  have h3 := whole_le_mem _ _ hx
  have h4 := It.body_le_whole (rdWhole bs).2
  have h5 := It.body_eq (rdWhole bs).2
  omega
theorem blkCells_size (p : List UInt8) (n b : Nat) (v : Value) (hp : p.length = 32) : (blkCells p n b v).size = 35 := by
  simp [blkCells, cellsL_length, hp]
theorem blkCells_set (p : List UInt8) (n b : Nat) (v v' : Value) (hp : p.length = 32) : (blkCells p n b v).setIfInBounds 34 v' = blkCells p n b v' := by
  have hl : (cellsL p).length = 32 := by rw [cellsL_length, hp]
  unfold blkCells
  rw [List.setIfInBounds_toArray]
  congr 1
  rw [List.set_append_right _ _ (by omega), hl]
  rfl
theorem blkCells_one (p : List UInt8) (n b : Nat) (a : Option Addr) (m c : Nat) : (blkCells p n b (.slice a m c)).all (·.oneCell') = true := by
  apply Array.all_eq_true_iff_forall_mem.2
  intro u hu
  simp only [blkCells, cellsL, List.mem_toArray, List.mem_append, List.mem_map, List.mem_cons, List.not_mem_nil, or_false] at hu
  rcases hu with ⟨x, -, rfl⟩ | rfl | rfl | rfl <;> rfl
section
variable {P : Program}
/-- the laws of whole rows, their facts on the frame asked behind the operation's shape -/
theorem wpL_store_row {ops : Array Oper} {rest : List Oper} {o : Oper} {a : Act} {w : World} {Q : Exit → Act → World → Prop} (ty : TypeId) (x y : Operand) (g : Nat) (cells : Array Value) (t : TypeId) (old : Array Value)
    (hc : o.guard = none ∧ o.op = .store ty x y ∧ a.eval x = .pointer (some ⟨g, 0, none⟩) ∧ a.eval y = .agg cells)
    (hf : w.heap[g]? = some (.cells old t (0, 0)) ∧ (P.info? ty).map (·.size) = some cells.size ∧ old.size = cells.size ∧ cells.all (·.oneCell') = true)
    (h : wpList P ops Q rest (a.put o.dst undef) (w.setRow g cells)) : wpList P ops Q (o :: rest) a w :=
  wpList_store_row hc.1 ty x y hc.2.1 g cells hc.2.2.1 hc.2.2.2 t old hf.1 hf.2.1 hf.2.2.1 hf.2.2.2 h
theorem wpL_load_row {ops : Array Oper} {rest : List Oper} {o : Oper} {a : Act} {w : World} {Q : Exit → Act → World → Prop} (ty : TypeId) (x : Operand) (g : Nat) (cs : Array Value) (t : TypeId) (d : TypeDesc)
    (hc : o.guard = none ∧ o.op = .load ty x ∧ a.eval x = .pointer (some ⟨g, 0, none⟩))
    (hf : w.heap[g]? = some (.cells cs t (0, 0)) ∧ P.underlying ty = some d ∧ (match d with | .struct _ | .array _ _ => true | _ => false) = true ∧ (P.info? ty).map (·.size) = some cs.size)
    (h : wpList P ops Q rest (a.put o.dst (.agg cs)) w) : wpList P ops Q (o :: rest) a w :=
  wpList_load_row hc.1 ty x hc.2.1 g hc.2.2 t cs (0, 0) d hf.1 hf.2.1 (by have := hf.2.2.1; cases d <;> exact this) hf.2.2.2 h
theorem wpL_build_to {ops : Array Oper} {rest : List Oper} {o : Oper} {a : Act} {w : World} {Q : Exit → Act → World → Prop} (t : TypeId) (parts : Array (Nat × Operand)) (vs : List (Nat × Value)) (cells : Array Value)
    (hc : o.guard = none ∧ o.op = .build t parts ∧ (parts.map fun (i, x) => (i, a.eval x)).toList = vs) (hb : P.built t vs = some cells)
    (h : wpList P ops Q rest (a.put o.dst (.agg cells)) w) : wpList P ops Q (o :: rest) a w :=
  wpList_build_to hc.1 t parts hc.2.1 vs hc.2.2 cells hb h
end
theorem rBlk_ok (l : List It) : (rBlk l).1.1.length = 32 ∧ ((rBlk l).1.2.1 : Int) < 18446744073709551616 ∧ ((rBlk l).1.2.2 : Int) < 18446744073709551616 :=
  ⟨fit32_length _, readWord_lt _, readWord_lt _⟩
end Go.Pg
namespace Go.Proofs.Ytndkkgkcbbmnpaa
open Go.RowKit Go.Pg
theorem builtBlk (parts : List (Nat × Value)) : Try.prog.built 40 parts = Instr.fill (#[(0, 32), (32, 1), (33, 1), (34, 1)][·]?) (blkCells (List.replicate 32 0) 0 0 (.slice none 0 0)) parts := by kernel_rfl
theorem builtBlkOf (p : List UInt8) (nn bb : Nat) (hp : p.length = 32) : Try.prog.built 40 [(0, .agg (cellsOf p)), (1, .int .u64 nn), (2, .int .u64 bb)] = some (blkCells p nn bb (.slice none 0 0)) := by
  have l0 : (cellsL p).length = 32 := by rw [cellsL_length, hp]
  have z0 : (cellsL (List.replicate 32 0)).length = 32 := by rw [cellsL_length]; simp
  rw [builtBlk]
  obtain ⟨Z, hZ⟩ : ∃ Z, Z = cellsL (List.replicate 32 0) := ⟨_, rfl⟩
  have hz : blkCells (List.replicate 32 0) 0 0 (.slice none 0 0) = (Z ++ [Value.int .u64 0] ++ [Value.int .u64 0] ++ [Value.slice none 0 0]).toArray := by rw [hZ]; rfl
  have hh : blkCells p nn bb (.slice none 0 0) = (cellsL p ++ [Value.int .u64 (nn : Int)] ++ [Value.int .u64 (bb : Int)] ++ [Value.slice none 0 0]).toArray := by unfold blkCells; simp
  rw [← hZ] at z0
  rw [hz, hh]
  obtain ⟨A, hA⟩ : ∃ A, A = cellsL p := ⟨_, rfl⟩
  have eA : cellsOf p = A.toArray := by rw [hA]; rfl
  rw [eA, ← hA]
  rw [← hA] at l0
  have s1 := fill_one (#[(0, 32), (32, 1), (33, 1), (34, 1)][·]?) 0 0 A [] Z ([Value.int .u64 0] ++ [Value.int .u64 0] ++ [Value.slice none 0 0]) [(1, .int .u64 nn), (2, .int .u64 bb)] (by rw [l0]; rfl) rfl (by omega)
  have s2 := fill_int (#[(0, 32), (32, 1), (33, 1), (34, 1)][·]?) 1 32 .u64 nn (.int .u64 0) A ([Value.int .u64 0] ++ [Value.slice none 0 0]) [(2, .int .u64 bb)] rfl l0
  have s3 := fill_int (#[(0, 32), (32, 1), (33, 1), (34, 1)][·]?) 2 33 .u64 bb (.int .u64 0) (A ++ [Value.int .u64 (nn : Int)]) [Value.slice none 0 0] [] rfl (by simp [l0])
  simp only [List.nil_append, List.append_assoc] at s1 s2 s3 ⊢
  rw [s1, s2, s3]
  rfl
theorem underlyingBlk : ∃ fs, Try.prog.underlying 40 = some (.struct fs) := ⟨_, Try.underlying40⟩
theorem infoBlk : (Try.prog.info? 40).map (·.size) = some 35 := by kernel_rfl

/-- a block is told, or an empty one and a fault -/
def BlkD (w : World) (r : Blk × Nat) (e : Ending) (w' : World) : Prop :=
  ∃ a n c, e = .returned (.tuple #[.agg (blkCells r.1.p r.1.nn r.1.bb (.slice a n c)), .int .i64 (r.2 : Int)]) ∧ RowsAt (fresh w) w' (.slice a n c) r.1.T ∧ Below w.heap.size w w'

/-- the transactions are being read -/
structure TxSt (G : Nat → Prop) (w : World) (ZR : Array Value) (N rb tb bx : Nat) (x3 : Value) (k3 : Bool) (p : List UInt8) (nn bb : Nat) (L : List It) (wr : World) (rem : List It) (ok : Bool) (T : List (List UInt8)) (v : Value) : Prop where
  bel : Below w.heap.size w wr
  zero : wr.heap[w.heap.size]? = some (.cells ZR 40 (0, 0))
  rd : wr.heap[rb]? = some (.cells #[x3, .bool k3] 78 (0, 0))
  tx : RdrAt G wr 7 tb (rem, ok)
  box : wr.heap[bx]? = some (.cells (blkCells p nn bb v) 40 (0, 0))
  own : OwnList rowR G N wr 25 1 v T
  data : TxData L rem ok T
  foot : ∀ b, G b → w.heap.size < b ∧ b < N ∧ b ≠ tb ∧ b ≠ bx ∧ b ≠ rb
  place : w.heap.size < rb ∧ w.heap.size < tb ∧ w.heap.size < bx ∧ rb < N ∧ tb < N ∧ bx < N ∧ rb ≠ tb ∧ bx ≠ rb ∧ bx ≠ tb
  len : p.length = 32
  size : N ≤ wr.heap.size
theorem TxSt.push {G : Nat → Prop} {w : World} {ZR : Array Value} {N rb tb bx : Nat} {x3 : Value} {k3 : Bool} {p : List UInt8} {nn bb : Nat} {L : List It} {wr : World} {rem : List It} {T : List (List UInt8)} {v : Value}
    (h : TxSt G w ZR N rb tb bx x3 k3 p nn bb L wr rem true T v) (hr : rem ≠ []) {w5 : World} {a : Option Addr} {n c : Nat}
    (k1 : BytesAt G w5 (.slice a n c) (rText rem true).1) (k2 : RdrAt G w5 7 tb (rText rem true).2) (k3' : Chg (fun k => k = tb) wr.drew w5) :
    ∃ R : List Value → List UInt8 → Prop, (∀ cs x, R cs x → ∀ u ∈ cs, u.oneCell' = true) ∧ OwnAt (w5.alloc (.cells #[.slice a n c] 25)) N 25 1 R v T ∧
      SliceAt (fun _ => True) (w5.alloc (.cells #[.slice a n c] 25)) 1 R (.slice (some ⟨w5.heap.size, 0, none⟩) 1 1) [(rText rem true).1] ∧
      N ≤ w5.heap.size ∧ w5.heap[bx]? = some (.cells (blkCells p nn bb v) 40 (0, 0)) ∧
      ∀ g cap n' W2, OwnAt W2 N 25 1 R (.slice (some ⟨g, 0, none⟩) n' cap) (T ++ [(rText rem true).1]) → (w5.alloc (.cells #[.slice a n c] 25)).grownBy W2 v.ownBlock →
        Moved (w5.alloc (.cells #[.slice a n c] 25)) v (.slice (some ⟨g, 0, none⟩) n' cap) →
        W2.heap[bx]? = some (.cells (blkCells p nn bb v) 40 (0, 0)) ∧
        TxSt G w ZR N rb tb bx x3 k3 p nn bb L (W2.setCell ⟨bx, 34, none⟩ (.slice (some ⟨g, 0, none⟩) n' cap)) (rText rem true).2.1 (rText rem true).2.2 (T ++ [(rText rem true).1]) (.slice (some ⟨g, 0, none⟩) n' cap) := by
  obtain ⟨p1, p2, p3, p4, p5, p6, p7, p8, p9⟩ := h.place
  have hbx := (Array.getElem?_eq_some_iff.1 h.box).1
  have hrb := (Array.getElem?_eq_some_iff.1 h.rd).1
  have hzz := (Array.getElem?_eq_some_iff.1 h.zero).1
  have hsz := k3'.size
  simp only [World.size_drew] at hsz
  have hblk : ∀ k, k < wr.heap.size → k ≠ tb → w5.heap[k]? = wr.heap[k]? := fun k hk hn => k3'.block k hk hn
  have hown := h.own.own
  have hsN := h.size
  have htbl : tb < w5.heap.size := by obtain ⟨_, _, _, _, hk⟩ := k2; exact (Array.getElem?_eq_some_iff.1 hk).1
  have ho5 : OwnList rowR G N w5 25 1 v T := h.own.carry carriedRow hsz (fun b hb hlt => hblk b hlt (h.foot b hb).2.2.1) (fun g hg => hblk g (hown g hg).2 (by have := (hown g hg).1; omega))
  have hbox5 := (hblk bx hbx p9).trans h.box
  have hb5 : Below w.heap.size w w5 := (Below.drew h.bel).trans (k3'.toBelowAt (by simp only [World.size_drew]; omega) (fun k hk e => by omega))
  obtain ⟨R, g1, g2, g3, g4⟩ := ho5.push carriedRow (H := G) (cs := [.slice a n c]) (x := (rText rem true).1) ⟨_, rfl, k1⟩ rfl (by decide) (fun b _ hb => ⟨hb, fun e => by have := (hown b e).1; have := (h.foot b hb).2.1; omega⟩) 25
  refine ⟨R, g1, g2, g3, by omega, hbox5, fun g cap n' W2 ho hg hm => ?_⟩
  have hOn := g4 _ W2 ho hg hm
  have hnew := hOn.own
  have hsg := hg.size
  simp only [World.size_alloc] at hsg
  have hW2 : ∀ k, k < w5.heap.size → k < N → W2.heap[k]? = w5.heap[k]? := fun k hk hN => by
    rw [hg.block k (by simp; omega) (fun e => by have := (hown k e.symm).1; omega)]
    exact Below.heap_alloc _ _ _ hk
  have hset : ∀ k, k < w5.heap.size → k < N → k ≠ bx → (W2.setCell ⟨bx, 34, none⟩ (.slice (some ⟨g, 0, none⟩) n' cap)).heap[k]? = w5.heap[k]? := fun k hk hN hn => by
    rw [Below.heap_setCell _ _ _ _ hn]; exact hW2 k hk hN
  have hboxW2 := (hW2 bx (by omega) p6).trans hbox5
  have hbW2 : Below w.heap.size w W2 := (Below.alloc hb5 hb5.size _).grown hg (by simp; omega) (fun k hk => by have := (hown k hk).1; omega)
  refine ⟨hboxW2, ⟨hbW2.setCell (by show w.heap.size ≤ bx; omega) _, ?_, ?_, ?_, ?_, ?_, h.data.next hr, h.foot, h.place, h.len, by simp [World.setCell]; omega⟩⟩
  · rw [hset _ (by omega) (by omega) (by omega), hblk _ hzz (by omega)]; exact h.zero
  · rw [hset _ (by omega) (by omega) (by omega), hblk _ hrb p7]; exact h.rd
  · exact k2.carry (fun b hb hlt => hset b hlt (h.foot b hb).2.1 (h.foot b hb).2.2.2.1) (hset _ htbl p5 (by omega))
  · have := blk_set (i := 34) (v := .slice (some ⟨g, 0, none⟩) n' cap) hboxW2
    rw [blkCells_set _ _ _ _ _ h.len] at this
    exact this
  · exact hOn.carry carriedRow (by simp) (fun b hb hlt => Below.heap_setCell _ _ _ _ (h.foot b hb).2.2.2.1) (fun g' hg' => Below.heap_setCell _ _ _ _ (by have := (hnew g' hg').1; show g' ≠ bx; omega))
end Go.Proofs.Ytndkkgkcbbmnpaa
namespace Go.Pg
open Go.RowKit
/-- the value at a place of a slice -/
def valAt (w : World) (a : Option Addr) (j : Nat) : Option Value := a.bind fun ad => w.cell? ⟨ad.block, ad.off + j, none⟩
end Go.Pg
namespace Go.Proofs.Ytndkkgkcbbmnpaa
open Go.RowKit Go.Pg

/-- two unlike texts of one digest, in memory of their own, or none -/
def ClashD (F : Nat → Prop) (w : World) (r : Option (List UInt8 × List UInt8)) (e : Ending) (w' : World) : Prop :=
  ∃ a1 n1 c1 a2 n2 c2, e = .returned (.tuple #[.slice a1 n1 c1, .slice a2 n2 c2, .bool r.isSome]) ∧ BytesAt F w' (.slice a1 n1 c1) (r.elim [] (·.1)) ∧ BytesAt F w' (.slice a2 n2 c2) (r.elim [] (·.2)) ∧ Below w.heap.size w w'

set_option maxRecDepth 100000 in
set_option maxHeartbeats 8000000 in
theorem clash_any (F : Nat → Prop) (w : World) (a : Option Addr) (n c : Nat) (l : List (List UInt8)) (h : RowsAt F w (.slice a n c) l) (hlen : n ≤ 1099511627776) (hx : ∀ x ∈ l, x.length ≤ 70368744177664) :
    Calls Try.prog 32 #[.slice a n c] w (ClashD (fresh w) w (clash l)) := by
  have hn : n = l.length := by
    obtain ⟨a', c', hv, -⟩ := SliceAt.len h
    simp only [Value.slice.injEq] at hv
    exact hv.2.1
  obtain ⟨ZD, hZD⟩ : ∃ Z : Array Value, Z = #[.int .u8 0, .int .u8 0, .int .u8 0, .int .u8 0, .int .u8 0, .int .u8 0, .int .u8 0, .int .u8 0, .int .u8 0, .int .u8 0, .int .u8 0, .int .u8 0, .int .u8 0, .int .u8 0, .int .u8 0, .int .u8 0, .int .u8 0, .int .u8 0, .int .u8 0, .int .u8 0, .int .u8 0, .int .u8 0, .int .u8 0, .int .u8 0, .int .u8 0, .int .u8 0, .int .u8 0, .int .u8 0, .int .u8 0, .int .u8 0, .int .u8 0, .int .u8 0] := ⟨_, rfl⟩
  have hZs : ZD.size = 32 := by rw [hZD]; rfl
  obtain ⟨R, hR⟩ : ∃ R, R = clash l := ⟨_, rfl⟩
  obtain ⟨i0, hi, hz0, hz1, hz2⟩ := info_parts infoU8
  have hmm := @run_makeMap Try.prog
  have HN := Lib.hid hn
  have HX := Lib.hid hx
  have HZD := Lib.hid hZD
  have HZS := Lib.hid hZs
  have HR := Lib.hid hR
  have HH := Lib.hid h
  rw [← hR]
  clear hn hx hZD hZs hR h
  go_enter Try.func32, Try.ntmps32
  go_wp2
  go_loopw [14] (fun i wr => ∃ k : Nat, k ≤ n ∧ i = .int .i64 k ∧ Hid (R = clashFrom (l.take k) (l.drop k)) ∧ Hid (Known wr w.heap.size k fun d => (firstOf (l.take k) d).bind (valAt w a)) ∧ Hid (Below w.heap.size w wr)) (fun i _ => n - (intOf i).toNat)
  case atStart =>
    refine ⟨0, Nat.zero_le _, rfl, Lib.hid (by rw [HR.out]; rfl), Lib.hid ?_, Lib.hid (Bel.alloc (Bel.refl w) _)⟩
    exact (Known.made w).ext fun d _ => by simp [firstOf]
  case round =>
    obtain ⟨k, hk, rfl, HC, HKN0, HB⟩ := hrel
    have hN := HN.out
    by_cases hlt : k < n
    · rcases SliceAt.split HH.out with ⟨_, h0⟩ | ⟨b, o, rfl, -, -, -⟩
      · omega
      have hkl : k < l.length := by omega
      have hwr := RowsAt.below HH.out HB.out
      obtain ⟨u, c0, t0⟩ := RowsAt.cell hwr k hkl
      have c0w : w.cell? ⟨b, o + k, none⟩ = some u := by
        obtain ⟨u', c0', -⟩ := RowsAt.cell HH.out k hkl
        have := (cell_below HB.out c0').symm.trans c0
        rw [c0', this]
      have hnx := clashFrom_next l k hkl
      have htk : l.take (k + 1) = l.take k ++ [l[k]] := List.take_succ_eq_append_getElem hkl
      have hxl := HX.out l[k] (List.getElem_mem _)
      obtain ⟨x, hxx⟩ : ∃ x, x = l[k] := ⟨_, rfl⟩
      rw [← hxx] at hnx htk hxl t0
      obtain ⟨au, cu, rfl, -, -, -⟩ := SliceAt.len t0
      obtain ⟨m, hm⟩ : ∃ m, m = x.length := ⟨_, rfl⟩
      rw [← hm] at t0 c0 c0w hxl
      obtain ⟨D, hD⟩ : ∃ D, D = digestOf x := ⟨_, rfl⟩
      have hDl : D.length = 32 := by rw [hD]; exact digestOf_length _
      rw [← hD] at hnx
      have hcall := dof_any F wr au m cu x t0 hxl
      rw [← hD] at hcall
      obtain ⟨f, hf⟩ : ∃ f : List UInt8 → Option Value, f = fun d => (firstOf (l.take k) d).bind (valAt w (some ⟨b, o, none⟩)) := ⟨_, rfl⟩
      rw [← hf] at HKN0
      have hold : ∀ y, (¬ (f y = none ∧ y = D)) → (firstOf (l.take (k + 1)) y).bind (valAt w (some ⟨b, o, none⟩)) = f y := fun y hy => by
        have hlt' : (l.take k).length = k := by rw [List.length_take]; omega
        rw [htk, firstOf_snoc, hlt', ← hD]
        rw [hf] at hy ⊢
        dsimp only at hy ⊢
        obtain ⟨q, hq⟩ : ∃ q, q = firstOf (l.take k) y := ⟨_, rfl⟩
        rw [← hq] at hy ⊢
        cases q with
        | none => rw [if_neg (fun e => hy ⟨rfl, e.symm⟩)]; rfl
        | some j => rfl
      have hnew : f D = none → (firstOf (l.take (k + 1)) D).bind (valAt w (some ⟨b, o, none⟩)) = some (.slice au m cu) := fun hy => by
        have hlt' : (l.take k).length = k := by rw [List.length_take]; omega
        rw [htk, firstOf_snoc, hlt', ← hD, if_pos rfl]
        rw [hf] at hy
        dsimp only at hy
        obtain ⟨q, hq⟩ : ∃ q, q = firstOf (l.take k) D := ⟨_, rfl⟩
        rw [← hq] at hy ⊢
        cases q with
        | none => exact c0w
        | some j =>
          obtain ⟨hj, -⟩ := firstOf_some _ _ _ hq.symm
          rw [hlt'] at hj
          obtain ⟨uj, cj, -⟩ := RowsAt.cell HH.out j (by omega)
          have : (some j).bind (valAt w (some ⟨b, o, none⟩)) = some uj := cj
          rw [this] at hy
          cases hy
      have HCALL := Lib.hid hcall
      have HID := Lib.hid (show (Try.prog.info? 37).map (·.size) = some (cellsOf D).size by rw [cellsOf_size, hDl]; kernel_rfl)
      have HSD := Lib.hid (show ZD.size = (cellsOf D).size by rw [HZS.out, cellsOf_size, hDl])
      have HOD := Lib.hid (show (cellsOf D).all (·.oneCell') = true by
        apply Array.all_eq_true_iff_forall_mem.2
        intro v hv
        simp only [cellsOf, List.mem_toArray, List.mem_map] at hv
        obtain ⟨y, -, rfl⟩ := hv
        rfl)
      have HNX := Lib.hid hnx
      have HTK := Lib.hid htk
      have HM := Lib.hid hm
      have HOLD := Lib.hid hold
      have HNEW := Lib.hid hnew
      have HT0 := Lib.hid t0
      have HFE := Lib.hid hf
      have HXX := Lib.hid hxx
      have hkz : (0 : Int) ≤ (k : Int) := by omega
      have hkn : (k : Int) < (n : Int) := by omega
      clear hwr c0w hnx htk hxl hm hD hcall hold hnew hf t0 hxx hN
      go_wp2_with fail
      refine HCALL.out.mono ?_
      rintro e w1 ⟨rfl, hb1⟩
      obtain ⟨W1, hW1⟩ : ∃ W : World, W = (w1.alloc (.cells ZD 37)).setRow w1.heap.size (cellsOf D) := ⟨_, rfl⟩
      have hz1' : (w1.alloc (.cells ZD 37)).heap[w1.heap.size]? = some (.cells ZD 37 (0, 0)) := heap_alloc_new w1 _
      have hk1 : W1.heap[w1.heap.size]? = some (.cells (cellsOf D) 37 (0, 0)) := by rw [hW1]; exact setRow_heap _ _ _ _ _ _ hz1'
      have hbW : Below wr.heap.size wr W1 := Bel.call hb1 (by rw [hW1]; exact below_setRow (Bel.alloc (Bel.refl w1) _) (Nat.le_refl _) _)
      have HKN := Lib.hid (HKN0.out.below hbW)
      have HZ1 := Lib.hid hz1'
      have HK1 := Lib.hid hk1
      have HW1 := Lib.hid hW1
      have HBW := Lib.hid (HB.out.trans (hbW.mono HB.out.size))
      have HT1 := Lib.hid (BytesAt.below HT0.out hbW)
      clear hz1' hk1 hW1 hbW hb1
      cases hfd : f D with
      | none =>
        have HF := Lib.hid hfd
        have hnone : firstOf (l.take k) D = none := by
          rw [HFE.out] at hfd
          cases hq : firstOf (l.take k) D with
          | none => rfl
          | some j =>
            try dsimp only at hfd
            rw [hq] at hfd
            obtain ⟨hj, -⟩ := firstOf_some _ _ _ hq
            rw [List.length_take] at hj
            obtain ⟨uj, cj, -⟩ := RowsAt.cell HH.out j (by omega)
            have : (some j).bind (valAt w (some ⟨b, o, none⟩)) = some uj := cj
            rw [this] at hfd
            cases hfd
        have hC2 : R = clashFrom (l.take (k + 1)) (l.drop (k + 1)) := by rw [HC.out, HNX.out, hnone]
        have HC2 := Lib.hid hC2
        clear hfd hnone hC2
        go_wp2_with (first
          | (rw [← HZD.out]; (with_reducible refine wpL_store_row 37 (.tmp 8) (.tmp 19) w1.heap.size (cellsOf D) 37 ZD ?_ ⟨HZ1.out, HID.out, HSD.out, HOD.out⟩ ?_); (exact ⟨rfl, rfl, rfl, rfl⟩); rw [← HW1.out])
          | ((with_reducible refine wpL_load_row 37 (.tmp 8) w1.heap.size (cellsOf D) 37 (.array 32 5) ?_ ⟨HK1.out, underlyingDig, rfl, HID.out⟩ ?_); (exact ⟨rfl, rfl, rfl⟩))
          | ((with_reducible refine wpL_lookup_known (.tmp 21) (.tmp 22) w.heap.size k f D ?_ ⟨HKN.out, hDl⟩ ?_); (exact ⟨rfl, rfl, rfl, rfl⟩); rw [HF.out]; simp only [Option.getD_none, Option.isSome_none, Option.getD_some, Option.isSome_some])
          | ((with_reducible refine wpL_update_known (.tmp 28) (.tmp 29) (.tmp 30) w.heap.size k f D (.slice au m cu) ?_ ⟨HKN.out, hDl, (show k < maxLen by unfold maxLen; omega)⟩ ?_); (exact ⟨rfl, rfl, rfl, rfl, rfl⟩); intro w2 hk2 hg2))
        have HKN2 := Lib.hid (hk2.ext (g := fun d => (firstOf (l.take (k + 1)) d).bind (valAt w (some ⟨b, o, none⟩))) fun y _ => by
          by_cases hy : y = D
          · subst hy; rw [if_pos rfl]; exact (HNEW.out HF.out).symm
          · rw [if_neg hy]; exact (HOLD.out y (fun e => hy e.2)).symm)
        have HB2 := Lib.hid (HBW.out.grown hg2 HBW.out.size (fun j hj => by cases hj; exact Nat.le_refl _))
        clear hk2 hg2
        go_roundw
        case rel => exact ⟨k + 1, by omega, num_eq (by omega), HC2, HKN2, HB2⟩
        case measure => simp [intOf]; omega
      | some uj =>
        have HF := Lib.hid hfd
        have hsome : ∃ j, firstOf (l.take k) D = some j ∧ j < k ∧ w.cell? ⟨b, o + j, none⟩ = some uj := by
          rw [HFE.out] at hfd
          cases hq : firstOf (l.take k) D with
          | none => (try dsimp only at hfd); rw [hq] at hfd; cases hfd
          | some j =>
            try dsimp only at hfd
            rw [hq] at hfd
            obtain ⟨hj, -⟩ := firstOf_some _ _ _ hq
            rw [List.length_take] at hj
            exact ⟨j, rfl, by omega, hfd⟩
        obtain ⟨j, hj1, hj2, hj3⟩ := hsome
        obtain ⟨uj', cj, tj⟩ := RowsAt.cell HH.out j (by omega)
        obtain rfl : uj' = uj := by rw [cj] at hj3; exact Option.some.inj hj3
        have hgd : l.getD j [] = l[j]'(by omega) := by rw [List.getD_eq_getElem?_getD, List.getElem?_eq_getElem (by omega)]; rfl
        obtain ⟨y, hy⟩ : ∃ y, y = l[j]'(by omega) := ⟨_, rfl⟩
        rw [← hy] at hgd tj
        obtain ⟨aj, cj', rfl, -, -, -⟩ := SliceAt.len tj
        obtain ⟨mj, hmj⟩ : ∃ m, m = y.length := ⟨_, rfl⟩
        have hyl : y.length ≤ 70368744177664 := by rw [hy]; exact HX.out _ (List.getElem_mem _)
        have hxl : x.length ≤ 70368744177664 := by rw [HXX.out]; exact HX.out _ (List.getElem_mem _)
        rw [← hmj] at tj HF
        have HTJ := Lib.hid (BytesAt.below tj HBW.out)
        have hnx2 := HNX.out
        rw [hj1] at hnx2
        simp only [hgd] at hnx2
        have HNX2 := Lib.hid hnx2
        have HSAME : Hid (∀ z, (firstOf (l.take (k + 1)) z).bind (valAt w (some ⟨b, o, none⟩)) = f z) := Lib.hid fun z => HOLD.out z (fun e => by
          have e1 := e.1
          rw [e.2, HF.out] at e1
          cases e1)
        have HYL := Lib.hid hyl
        have HXL := Lib.hid hxl
        clear hfd hj1 hj2 hj3 cj tj hgd hy hnx2 hyl hxl hmj
        go_wp2_with (first
          | (rw [← HZD.out]; (with_reducible refine wpL_store_row 37 (.tmp 8) (.tmp 19) w1.heap.size (cellsOf D) 37 ZD ?_ ⟨HZ1.out, HID.out, HSD.out, HOD.out⟩ ?_); (exact ⟨rfl, rfl, rfl, rfl⟩); rw [← HW1.out])
          | ((with_reducible refine wpL_load_row 37 (.tmp 8) w1.heap.size (cellsOf D) 37 (.array 32 5) ?_ ⟨HK1.out, underlyingDig, rfl, HID.out⟩ ?_); (exact ⟨rfl, rfl, rfl⟩))
          | ((with_reducible refine wpL_lookup_known (.tmp 21) (.tmp 22) w.heap.size k f D ?_ ⟨HKN.out, hDl⟩ ?_); (exact ⟨rfl, rfl, rfl, rfl⟩); rw [HF.out]; simp only [Option.getD_none, Option.isSome_none, Option.getD_some, Option.isSome_some]))
        refine (bEqual_any F F W1 (.slice au m cu) (.slice aj mj cj') x y HT1.out HTJ.out).mono ?_
        rintro e w2 ⟨rfl, rfl⟩
        by_cases hxy : x = y
        · subst hxy
          rw [beq_self_eq_true]
          have hC2 : R = clashFrom (l.take (k + 1)) (l.drop (k + 1)) := by rw [HC.out, HNX2.out, if_pos rfl]
          have HC2 := Lib.hid hC2
          have HKN2 := Lib.hid ((HKN.out.ext (g := fun d => (firstOf (l.take (k + 1)) d).bind (valAt w (some ⟨b, o, none⟩))) fun z _ => (HSAME.out z).symm))
          clear hC2
          go_wp2_with fail
          go_roundw
          case rel => exact ⟨k + 1, by omega, num_eq (by omega), HC2, (by
            obtain ⟨D', g1, g2⟩ := HKN2.out
            exact Lib.hid ⟨D', g1.mono (Nat.le_succ _), g2⟩), HBW⟩
          case measure => simp [intOf]; omega
        · have hbe : (x == y) = false := by simp [hxy]
          rw [hbe]
          have hRR : R = some (y, x) := by rw [HC.out, HNX2.out, if_neg (fun e => hxy e.symm)]
          have HRR := Lib.hid hRR
          have hle1 : (([] : List UInt8).length + y.length) * 1 ≤ 140737488355328 := by have := HYL.out; simp; omega
          have hle2 : (([] : List UInt8).length + x.length) * 1 ≤ 140737488355328 := by have := HXL.out; simp; omega
          clear hxy hbe hRR
          go_wp2_with (at_builtin; refine wpList_append_at rfl (.const (.slice none 0 0)) (.tmp 35) 25 rfl W1.heap.size 5 i0 (.int .u8 0) 1 1 underlying25 hi hz0 hz1 hz2 rfl (by decide) (by decide) byteR.one (.slice none 0 0) [] rfl (OwnAt.nil _ _ _ _ _) (.slice aj mj cj') y F rfl HTJ.out hle1 (Nat.le_refl _) ?next)
          case next =>
          intro v1 w2 ho1 hg1 hm1
          obtain ⟨a1, c1, rfl, -, -, -⟩ := ho1.len
          have hat1 := ho1.at (F := fun b => W1.heap.size ≤ b) (fun _ _ h _ => h) (by decide)
          try simp only [List.nil_append] at hat1 ⊢
          obtain ⟨q1, hq1⟩ : ∃ q, q = y.length := ⟨_, rfl⟩
          rw [← hq1] at hat1 ⊢
          have hb2 : Below W1.heap.size W1 w2 := (Bel.refl W1).grown hg1 (Nat.le_refl _) (fun j hj => by cases hj)
          have HAT1 := Lib.hid hat1
          have HB2 := Lib.hid hb2
          have HT2 := Lib.hid (BytesAt.below HT1.out hb2)
          clear ho1 hg1 hm1 hat1 hb2 hq1
          go_wp2_with (at_builtin; refine wpList_append_at rfl (.const (.slice none 0 0)) (.tmp 37) 25 rfl w2.heap.size 5 i0 (.int .u8 0) 1 1 underlying25 hi hz0 hz1 hz2 rfl (by decide) (by decide) byteR.one (.slice none 0 0) [] rfl (OwnAt.nil _ _ _ _ _) (.slice au m cu) x F rfl HT2.out hle2 (Nat.le_refl _) ?next2)
          case next2 =>
          intro v2 w3 ho2 hg2 hm2
          obtain ⟨a2, c2, rfl, -, -, -⟩ := ho2.len
          have hat2 := ho2.at (F := fun b => w2.heap.size ≤ b) (fun _ _ h _ => h) (by decide)
          try simp only [List.nil_append] at hat2 ⊢
          obtain ⟨q2, hq2⟩ : ∃ q, q = x.length := ⟨_, rfl⟩
          rw [← hq2] at hat2 ⊢
          have hb3 : Below w2.heap.size w2 w3 := (Bel.refl w2).grown hg2 (Nat.le_refl _) (fun j hj => by cases hj)
          have HAT2 := Lib.hid hat2
          have HAT1' := Lib.hid (BytesAt.below HAT1.out hb3)
          have HB3 := Lib.hid hb3
          have hs1 := HBW.out.size
          have hs2 := HB2.out.size
          clear ho2 hg2 hm2 hat2 hb3 hq2
          go_wp2_with fail
          refine bodyPost_ret (v := .tuple #[.slice a1 q1 c1, .slice a2 q2 c2, .bool true]) (by simp [results, Try.results32, go_sem]) rfl ?_
          rw [HRR.out]
          exact ⟨a1, q1, c1, a2, q2, c2, rfl, BytesAt.carry HAT1'.out (fun b _ hb => Nat.le_trans hs1 hb) (fun _ _ _ => rfl), BytesAt.carry HAT2.out (fun b _ hb => Nat.le_trans (Nat.le_trans hs1 hs2) hb) (fun _ _ _ => rfl), Bel.call (Bel.call HBW.out HB2.out) HB3.out⟩
    · obtain rfl : n = k := by omega
      have hRR : R = none := by rw [HC.out, hN]; exact clashFrom_end l
      subst hRR
      clear hN
      go_wp2_with fail
      refine bodyPost_ret (v := .tuple #[.slice none 0 0, .slice none 0 0, .bool false]) (by simp [results, Try.results32, go_sem]) rfl ?_
      exact ⟨none, 0, 0, none, 0, 0, rfl, BytesAt.nil _ _, BytesAt.nil _ _, HB.out⟩
end Go.Proofs.Ytndkkgkcbbmnpaa
namespace Go.Pg
open Go.RowKit
theorem witEnc_ex : witEncode [[1], [2]] [[1]] = ([0xc5, 0xc2, 1, 2, 0xc1, 1], 0) := by
  simp [witEncode, rising, It.encode, witI, textsI, It.look, It.looks, It.body, It.wholes, It.whole, sz, It.enc, It.encs, headB, plainB, Lib.compareBytes]
theorem witDec_ex : witDecode [0xc5, 0xc2, 1, 2, 0xc1, 1] = ([[1], [2]], [[1]], 0) := witDecode_back _ _ _ witEnc_ex
theorem dig_ne : digestOf [1] ≠ digestOf [2] := by
  unfold digestOf
  rw [absorb_step _ (padOf [1] _) (by decide), absorb_step _ (padOf [2] _) (by decide), absorb_done _ _ (by decide), absorb_done _ _ (by decide)]
  decide +kernel
theorem clash_ex : clash [[1], [2], [1]] = none := by
  have h1 : firstOf [] (digestOf [1]) = none := rfl
  have h2 : firstOf [[1]] (digestOf [2]) = none := (firstOf_none _ _).2 (by simpa using dig_ne)
  have h3 : firstOf [[1], [2]] (digestOf [1]) = some 0 := by simp [firstOf, List.findIdx?_cons]
  simp [clash, clashFrom, h1, h2, h3]
end Go.Pg
namespace Go.Proofs.Ytndkkgkcbbmnpaa
open Go.RowKit Go.Pg

set_option maxRecDepth 100000 in
set_option maxHeartbeats 4000000 in
theorem alive23_any (w : World) : Calls Try.prog 34 #[] w fun e w' => e = .returned (.bool true) ∧ Below w.heap.size w w' := by
  go_enter Try.func34, Try.ntmps34
  go_wp2_with fail
  have hbytes : BytesAt (fun _ => True) (w.alloc (.cells #[.int .u8 197, .int .u8 194, .int .u8 1, .int .u8 2, .int .u8 193, .int .u8 1] 5)) (.slice (some ⟨w.heap.size, 0, none⟩) 6 6) [0xc5, 0xc2, 1, 2, 0xc1, 1] :=
    (OwnAt.lit w 5 #[.int .u8 197, .int .u8 194, .int .u8 1, .int .u8 2, .int .u8 193, .int .u8 1] [0xc5, 0xc2, 1, 2, 0xc1, 1] (by simp) (by decide)).at (fun _ _ _ _ => trivial) (by decide)
  refine (told_any (fun _ => True) _ _ 6 6 _ hbytes (by omega)).mono ?_
  rintro e w1 ⟨a1, n1, c1, ts, rfl, hr, hso, hb1⟩
  rw [witDec_ex] at hso
  obtain rfl : ts = [[1], [2]] := rising_ext ts [[1], [2]] hso.1 (by decide) (fun x => by rw [hso.2]; simp; exact ⟨fun h => by rcases h with h | h | h <;> simp [h], fun h => by rcases h with h | h <;> simp [h]⟩)
  obtain ⟨a1', c1', hv, -, -, -⟩ := SliceAt.len hr
  simp only [Value.slice.injEq] at hv
  obtain ⟨rfl, rfl, rfl⟩ := hv
  simp only [List.length_cons, List.length_nil, Nat.zero_add, Nat.reduceAdd] at hr ⊢
  have HR := Lib.hid hr
  have HB1 := Lib.hid (Bel.call (Bel.alloc (Bel.refl w) _) hb1)
  clear hbytes hso hr hb1
  go_wp2_with fail
  obtain ⟨W0, hW0⟩ : ∃ W : World, W = ((w1.alloc (.cells #[.int .u8 1] 5)).alloc (.cells #[.int .u8 2] 5)).alloc (.cells #[.int .u8 1] 5) := ⟨_, rfl⟩
  have hs0 : W0.heap.size = w1.heap.size + 3 := by rw [hW0]; simp
  have hb0 : Below w1.heap.size w1 W0 := by rw [hW0]; exact Bel.alloc (Bel.alloc (Bel.alloc (Bel.refl w1) _) _) _
  have g1 : BytesAt (fun _ => True) W0 (.slice (some ⟨w1.heap.size, 0, none⟩) 1 1) [1] := by
    rw [hW0]; exact BytesAt.below (BytesAt.below (byte_new w1 5 1 1 rfl (by omega)) (Bel.alloc (Bel.refl _) _)) (Bel.alloc (Bel.refl _) _)
  have g2 : BytesAt (fun _ => True) W0 (.slice (some ⟨w1.heap.size + 1, 0, none⟩) 1 1) [2] := by
    rw [hW0]
    have := byte_new (w1.alloc (.cells #[.int .u8 1] 5)) 5 2 2 rfl (by omega)
    rw [World.size_alloc] at this
    exact BytesAt.below this (Bel.alloc (Bel.refl _) _)
  have g3 : BytesAt (fun _ => True) W0 (.slice (some ⟨w1.heap.size + 2, 0, none⟩) 1 1) [1] := by
    rw [hW0]
    have := byte_new ((w1.alloc (.cells #[.int .u8 1] 5)).alloc (.cells #[.int .u8 2] 5)) 5 1 1 rfl (by omega)
    rw [World.size_alloc, World.size_alloc] at this
    exact this
  have one : ∀ (u : Value) (x : List UInt8), BytesAt (fun _ => True) W0 u x → Go.Pg.Rows 1 (rowR (fun _ => True) W0) [u] [x] := fun u x g => Go.Pg.Rows.one ⟨u, rfl, g⟩ rfl
  have hrow : Go.Pg.Rows 1 (rowR (fun _ => True) W0) [.slice (some ⟨w1.heap.size, 0, none⟩) 1 1, .slice (some ⟨w1.heap.size + 1, 0, none⟩) 1 1, .slice (some ⟨w1.heap.size + 2, 0, none⟩) 1 1] [[1], [2], [1]] :=
    ((one _ _ g1).append (one _ _ g2)).append (one _ _ g3)
  have hrows := rows_alloc carriedRow (F' := fun _ => True) hrow (by decide) (fun _ _ _ => trivial) trivial 25
  rw [hs0] at hrows
  have hcl := clash_any (fun _ => True) _ _ 3 3 [[1], [2], [1]] hrows (by omega) (by simp)
  rw [clash_ex] at hcl
  have HCL := Lib.hid hcl
  have HW0 := Lib.hid hW0
  have HB0 := Lib.hid hb0
  clear hcl hrows hrow one g1 g2 g3 hs0 hb0 hW0
  try rw [← HW0.out]
  refine HCL.out.mono ?_
  rintro e w2 ⟨b1, m1, d1, b2, m2, d2, rfl, -, -, hb2⟩
  simp only [Option.isSome_none]
  have hb3 : Below w1.heap.size w1 w2 := Bel.call (Bel.alloc HB0.out _) hb2
  have hr2 := RowsAt.below HR.out hb3
  have HB3 := Lib.hid (Bel.call HB1.out hb3)
  rcases SliceAt.split hr2 with ⟨h0, -⟩ | ⟨b, o, rfl, -, -, -⟩
  · cases h0
  obtain ⟨u0, q0, t0⟩ := RowsAt.cell hr2 0 (by simp)
  obtain ⟨u1, q1, t1⟩ := RowsAt.cell hr2 1 (by simp)
  simp only [List.getElem_cons_zero, List.getElem_cons_succ, Nat.add_zero] at q0 q1 t0 t1
  obtain ⟨x0, y0, rfl, -, -, -⟩ := SliceAt.len t0
  obtain ⟨x1, y1, rfl, -, -, -⟩ := SliceAt.len t1
  have s0 := run_string_at (P := Try.prog) t0 25 5 9 Try.underlying25 Try.underlying5 Try.underlying9
  have s1 := run_string_at (P := Try.prog) t1 25 5 9 Try.underlying25 Try.underlying5 Try.underlying9
  simp only [List.length_cons, List.length_nil, Nat.zero_add] at s0 s1 q0 q1
  clear t0 t1 hr2 hb2 hb3
  go_wp2_with fail
  go_ret
  exact ⟨rfl, HB3.out⟩
end Go.Proofs.Ytndkkgkcbbmnpaa
namespace Go.Proofs.Ytndkkgkcbbmnpaa
open Go.RowKit Go.Pg

theorem bytes_ne (x y : List UInt8) (h : x ≠ y) : (⟨x.toArray⟩ : ByteArray) ≠ ⟨y.toArray⟩ := fun e => h (by
  have := congrArg ByteArray.data e
  simpa using this)

set_option maxRecDepth 100000 in
set_option maxHeartbeats 1000000 in
theorem sameAll_any (F G : Nat → Prop) (w : World) (u v : Value) (A B : List (List UInt8)) (h : RowsAt F w u A) (k : RowsAt G w v B) (hl : A.length ≤ 1152921504606846976) :
    Calls Try.prog 35 #[u, v] w fun e w' => e = .returned (.bool (decide (A = B))) ∧ ∃ m, w' = w.drewN m := by
  obtain ⟨a, c, rfl, -, -, -⟩ := SliceAt.len h
  obtain ⟨a', c', rfl, -, -, -⟩ := SliceAt.len k
  obtain ⟨n, hn⟩ : ∃ n, n = A.length := ⟨_, rfl⟩
  obtain ⟨n', hn'⟩ : ∃ n, n = B.length := ⟨_, rfl⟩
  rw [← hn] at h hl ⊢
  rw [← hn'] at k ⊢
  have HN := Lib.hid hn
  have HN' := Lib.hid hn'
  clear hn hn'
  by_cases hnn : n = n'
  · subst hnn
    have hb : ((n : Int) != (n : Int)) = false := by simp
    go_enter Try.func35, Try.ntmps35
    go_wp2
    clear hb
    go_loopw [5] (fun i wr => ∃ j : Nat, j ≤ n ∧ i = .int .i64 j ∧ Hid (A.take j = B.take j) ∧ Hid (∃ m, wr = w.drewN m)) (fun i _ => n - (intOf i).toNat)
    case atStart => exact ⟨0, Nat.zero_le _, rfl, rfl, 0, rfl⟩
    case round =>
      obtain ⟨j, hj, rfl, HT, HM⟩ := hrel
      have hwr : RowsAt F wr (.slice a n c) A ∧ RowsAt G wr (.slice a' n c') B := by
        obtain ⟨m, hm⟩ := HM.out
        rw [hm]; exact ⟨RowsAt.carry h (fun _ _ x => x) (fun _ _ _ => rfl), RowsAt.carry k (fun _ _ x => x) (fun _ _ _ => rfl)⟩
      have hN := HN.out
      have hN' := HN'.out
      by_cases hlt : j < n
      · rcases SliceAt.split hwr.1 with ⟨_, h0⟩ | ⟨b, o, rfl, -, -, -⟩
        · omega
        rcases SliceAt.split hwr.2 with ⟨_, h0⟩ | ⟨b', o', rfl, -, -, -⟩
        · omega
        obtain ⟨u1, c1, t1⟩ := RowsAt.cell hwr.1 j (by omega)
        obtain ⟨u2, c2, t2⟩ := RowsAt.cell hwr.2 j (by omega)
        have hst : A.take (j + 1) = A.take j ++ [A[j]'(by omega)] ∧ B.take (j + 1) = B.take j ++ [B[j]'(by omega)] := ⟨List.take_succ_eq_append_getElem (by omega), List.take_succ_eq_append_getElem (by omega)⟩
        have hne : A[j]'(by omega) ≠ B[j]'(by omega) → A ≠ B := fun h e => h (by simp [e])
        obtain ⟨x1, hx1⟩ : ∃ x, x = A[j]'(by omega) := ⟨_, rfl⟩
        obtain ⟨x2, hx2⟩ : ∃ x, x = B[j]'(by omega) := ⟨_, rfl⟩
        rw [← hx1, ← hx2] at hst hne
        rw [← hx1] at t1
        rw [← hx2] at t2
        obtain ⟨d1, e1, rfl, -, -, -⟩ := SliceAt.len t1
        obtain ⟨d2, e2, rfl, -, -, -⟩ := SliceAt.len t2
        have s1 := fun nq => run_string_at (P := Try.prog) (BytesAt.draws t1 nq) 25 5 9 Try.underlying25 Try.underlying5 Try.underlying9
        have s2 := fun nq => run_string_at (P := Try.prog) (BytesAt.draws t2 nq) 25 5 9 Try.underlying25 Try.underlying5 Try.underlying9
        have HST := Lib.hid hst
        have HNE := Lib.hid hne
        have hjn : (j : Int) < (n : Int) := by omega
        clear hst hne hx1 hx2 hwr hN hN' t1 t2
        by_cases hxy : x1 = x2
        · subst hxy
          go_wp2
          go_quiet (fail)
          go_wp2
          go_roundw
          case rel => exact ⟨j + 1, by omega, num_eq (by omega), (by show _ = _; rw [HST.out.1, HST.out.2, HT.out]), (by obtain ⟨m, hm⟩ := HM.out; rw [hm]; exact ⟨_, World.drewN_drewN _ _ _⟩)⟩
          case measure => simp [intOf]; omega
        · have hb1 : (x1 == x2) = false := by simp [hxy]
          have hd : decide (A = B) = false := by simp [HNE.out hxy]
          have HD := Lib.hid hd
          clear hxy hd
          go_wp2
          go_quiet (fail)
          go_wp2
          go_ret
          exact ⟨ret_bool HD.out.symm, (by obtain ⟨m, hm⟩ := HM.out; rw [hm]; exact ⟨_, World.drewN_drewN _ _ _⟩)⟩
      · obtain rfl : j = n := by omega
        go_wp2
        go_ret
        refine ⟨ret_bool ?_, HM.out⟩
        have := HT.out
        rw [List.take_of_length_le (by omega), List.take_of_length_le (by omega)] at this
        simp [this]
  · have hb : ((n : Int) != (n' : Int)) = true := by simp; omega
    have hne : A ≠ B := fun e => hnn (by rw [HN.out, HN'.out, e])
    have hd : decide (A = B) = false := by simp [hne]
    rw [hd]
    clear hnn hne hd
    go_enter Try.func35, Try.ntmps35
    go_wp2
    go_ret
    exact ⟨rfl, 0, rfl⟩

set_option maxRecDepth 100000 in
set_option maxHeartbeats 400000 in
theorem same_any (F G : Nat → Prop) (w : World) (a1 a2 a3 a4 : Option Addr) (n1 c1 n2 c2 n3 c3 n4 c4 : Nat) (N C N' C' : List (List UInt8)) (h1 : RowsAt F w (.slice a1 n1 c1) N) (h2 : RowsAt F w (.slice a2 n2 c2) C)
    (h3 : RowsAt G w (.slice a3 n3 c3) N') (h4 : RowsAt G w (.slice a4 n4 c4) C') (hl1 : N.length ≤ 1152921504606846976) (hl2 : C.length ≤ 1152921504606846976) :
    Calls Try.prog 18 #[.agg #[.slice a1 n1 c1, .slice a2 n2 c2], .agg #[.slice a3 n3 c3, .slice a4 n4 c4]] w fun e w' => e = .returned (.bool (decide (N = N' ∧ C = C'))) ∧ Below w.heap.size w w' := by
  have hb0 : Below w.heap.size w ((w.alloc (.cells #[.slice a1 n1 c1, .slice a2 n2 c2] 24)).alloc (.cells #[.slice a3 n3 c3, .slice a4 n4 c4] 24)) := Bel.alloc (Bel.alloc (Bel.refl w) _) _
  have g1 := RowsAt.below h1 hb0
  have g2 := RowsAt.below h2 hb0
  have g3 := RowsAt.below h3 hb0
  have g4 := RowsAt.below h4 hb0
  obtain ⟨b1, hd1⟩ : ∃ b, b = decide (N = N') := ⟨_, rfl⟩
  obtain ⟨b2, hd2⟩ : ∃ b, b = decide (C = C') := ⟨_, rfl⟩
  have hfin : decide (N = N' ∧ C = C') = (b1 && b2) := by rw [hd1, hd2]; simp
  rw [hfin]
  have HB0 := Lib.hid hb0
  have HD1 := Lib.hid hd1
  have HD2 := Lib.hid hd2
  clear h1 h2 h3 h4 hb0 hfin hd1 hd2
  go_enter Try.func18, Try.ntmps18
  go_wp2_with fail
  refine (sameAll_any F G _ _ _ N N' g1 g3 hl1).mono ?_
  rintro e w1 ⟨rfl, m, rfl⟩
  rw [← HD1.out]
  have g2' : RowsAt F (((w.alloc (.cells #[.slice a1 n1 c1, .slice a2 n2 c2] 24)).alloc (.cells #[.slice a3 n3 c3, .slice a4 n4 c4] 24)).drewN m) _ C := RowsAt.carry g2 (fun _ _ x => x) (fun _ _ _ => rfl)
  have g4' : RowsAt G (((w.alloc (.cells #[.slice a1 n1 c1, .slice a2 n2 c2] 24)).alloc (.cells #[.slice a3 n3 c3, .slice a4 n4 c4] 24)).drewN m) _ C' := RowsAt.carry g4 (fun _ _ x => x) (fun _ _ _ => rfl)
  clear g1 g2 g3 g4
  go_wp2_with fail
  refine (sameAll_any F G _ _ _ C C' g2' g4' hl2).mono ?_
  rintro e w1 ⟨rfl, m', rfl⟩
  rw [← HD2.out]
  clear g2' g4'
  cases b1
  all_goals
    go_wp2_with fail
    go_ret
    exact ⟨rfl, ⟨HB0.out.os, HB0.out.tape, HB0.out.output, HB0.out.size, HB0.out.block⟩⟩
end Go.Proofs.Ytndkkgkcbbmnpaa
namespace Go.Pg
open Go.RowKit
theorem bel_drewN {w w' : World} (h : ∃ m, w' = w.drewN m) : Below w.heap.size w w' := by
  obtain ⟨m, rfl⟩ := h
  exact ⟨rfl, rfl, rfl, Nat.le_refl _, fun _ _ => rfl⟩
end Go.Pg
namespace Go.Proofs.Ytndkkgkcbbmnpaa
open Go.ChangeShapes Go.WideShapes Go.ChangeAt Go.RowKit Go.Pg

set_option maxRecDepth 100000 in
set_option maxHeartbeats 4000000 in
theorem told_walk (F : Nat → Prop) (w : World) (ab : Option Addr) (nb cb : Nat) (B : List UInt8) (hB : BytesAt F w (.slice ab nb cb) B) (hBl : B.length ≤ 1048576) :
    Calls Try.prog 12 #[.slice ab nb cb] w fun e w' => e = .returned (.bool true) ∧ Below w.heap.size w w' := by
  have hnb := (BytesAt.n hB).1
  have hnbl : nb ≤ 1048576 := by omega
  obtain ⟨l1, l2, -, -⟩ := witDecode_len B
  have HB := Lib.hid hB
  have HL1 := Lib.hid l1
  have HL2 := Lib.hid l2
  have HBL := Lib.hid hBl
  clear hB hnb l1 l2 hBl
  go_enter Try.func12, Try.ntmps12
  go_wp2_with fail
  refine (alive23_any w).mono ?_
  rintro e w1 ⟨rfl, hb1⟩
  have HB1 := Lib.hid hb1
  clear hb1
  go_wp2_with fail
  refine (told_any F w1 ab nb cb B (BytesAt.below HB.out HB1.out) (by omega)).mono ?_
  rintro e w2 ⟨a1, n1, c1, ts, rfl, hr1, hso, hb2⟩
  have HB2 := Lib.hid (Bel.call HB1.out hb2)
  have HR1 := Lib.hid hr1
  have HSO := Lib.hid hso
  clear hr1 hso hb2
  go_wp2_with fail
  refine (rtold_any F w2 ab nb cb B (BytesAt.below HB.out HB2.out) hnbl).mono ?_
  rintro e w3 ⟨a2, n2, c2, rfl, hr2, hb3⟩
  have hts : ts = puts ((witDecode B).1 ++ (witDecode B).2.1) := rising_ext _ _ HSO.out.1 (puts_rising _) (fun x => by rw [HSO.out.2, puts_mem])
  have hlen : ts.length ≤ 1152921504606846976 := by
    rw [hts]
    have h1 := (puts_small ((witDecode B).1 ++ (witDecode B).2.1)).1
    rw [List.length_append] at h1
    have := HL1.out; have := HL2.out; have := HBL.out
    omega
  rw [← hts] at hr2
  have hcall := sameAll_any (fresh w1) (fresh w2) w3 (.slice a1 n1 c1) (.slice a2 n2 c2) ts ts (RowsAt.below HR1.out hb3) hr2 hlen
  rw [decide_eq_true rfl] at hcall
  have HCALL := Lib.hid hcall
  have HB3 := Lib.hid (Bel.call HB2.out hb3)
  clear hcall hlen hts hr2 hb3
  go_wp2_with fail
  refine HCALL.out.mono ?_
  rintro e w4 ⟨rfl, hq⟩
  have HB4 := Lib.hid (Bel.call HB3.out (bel_drewN hq))
  clear hq
  go_wp2_with fail
  go_ret
  exact ⟨rfl, HB4.out⟩
end Go.Proofs.Ytndkkgkcbbmnpaa
