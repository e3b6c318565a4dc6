/-
  The plain law of headers: both ways of reading agree; what is written is read as it was.
  The plain law of blocks: both ways of reading agree; what is written is read as it was.
  Reading a block's transactions: how far it has come; building a block of parts.
  Contract of pergolaref19.SameBlock.
  What the laws of blocks ask besides the contracts: a long row's load in a region that draws; equality of headers; the values of the fixed examples.
  The frame of a law's proof in the form without a bound on bulk: what the form's own reach gives for an argument that is a slice of slices of bytes.
  sort.Slice of this program, held against the library's own (what the kit's laying tool prints in plain words).
  sort.Slice of a slice of byte strings, by their bytes: the closure; what the call leaves.
-/
import Derived.Test.YtndkkgkcbbmnpaaQnAG
import Derived.Stop.BytesEq
import Derived.Deep.MidRow
import Derived.Test.YtndkkgkcbbmnpaaProg
import Derived.Shelf.GgSortFunc.Whole
import Derived.Shelf.GgSortFunc.Tiny
import Derived.Lib.RowBridge
import Derived.Sort.LotA
namespace Go.Pg
open Go.RowKit
def itB (l : List It) (i : Nat) : List UInt8 := (l.getD i (.text [])).bytes
def hdrOf (l : List It) : Hdr := ⟨fit32 (itB l 0), (readWord (itB l 1)).1, (readWord (itB l 2)).1, (readWord (itB l 3)).1, fit32 (itB l 4), fit32 (itB l 5), fit32 (itB l 6)⟩
def refHdrDecode (bs : List UInt8) : Hdr × Nat :=
  if (rdWhole bs).1 = 0 ∧ (rdWhole bs).2.items.length = 7 ∧ hdrBytes (hdrOf (rdWhole bs).2.items) = bs then (hdrOf (rdWhole bs).2.items, 0) else (hdr0, 190)
theorem hdrOf_ok (l : List It) : (hdrOf l).ok := ⟨fit32_length _, fit32_length _, fit32_length _, fit32_length _, readWord_lt _, readWord_lt _, readWord_lt _⟩
theorem fit32_id (b : List UInt8) (h : b.length = 32) : fit32 b = b := by
  unfold fit32; rw [List.take_of_length_le (by omega), h]; simp
theorem readWord_ok (b : List UInt8) (h : (readWord b).2 = true) : wordB (readWord b).1 = b := by
  unfold readWord at h ⊢
  split at h
  · cases h
  · rename_i hn
    rw [if_neg hn]
    exact (wordB_beNum_iff b).2 (fun x => hn (.inr x))
theorem readWord_wordB (n : Nat) (h : (n : Int) < 18446744073709551616) : readWord (wordB n) = (n, true) := by
  unfold readWord
  have h1 := wordB_le n h
  have h2 : wordB (beNum (wordB n)) = wordB n := by rw [beNum_wordB]
  have h3 := (wordB_beNum_iff (wordB n)).1 h2
  rw [if_neg (by rintro (x | x); · omega
                 · exact h3 x), beNum_wordB]
theorem rText_true (l : List It) (ok : Bool) (h : (rText l ok).2.2 = true) : ok = true ∧ ∃ b r, l = .text b :: r ∧ rText l ok = (b, r, true) := by
  match l, h with
  | .text b :: r, h => simp only [rText] at h ⊢; exact ⟨h, b, r, rfl, by rw [h]⟩
  | .list x :: r, h => simp [rText] at h
  | [], h => simp [rText] at h
theorem rDig_true (l : List It) (ok : Bool) (h : (rDig l ok).2.2 = true) : ok = true ∧ ∃ b r, l = .text b :: r ∧ b.length = 32 ∧ rDig l ok = (b, r, true) := by
  unfold rDig at h ⊢
  simp only [Bool.and_eq_true, decide_eq_true_eq] at h
  obtain ⟨h1, b, r, h2, h3⟩ := rText_true l ok h.1
  rw [h3] at h ⊢
  simp only at h ⊢
  exact ⟨h1, b, r, h2, h.2, by rw [fit32_id b h.2, h.2]; rfl⟩
theorem rWord_true (l : List It) (ok : Bool) (h : (rWord l ok).2.2 = true) : ok = true ∧ ∃ n r, l = .text (wordB n) :: r ∧ (n : Int) < 18446744073709551616 ∧ rWord l ok = (n, r, true) := by
  unfold rWord at h ⊢
  simp only [Bool.and_eq_true] at h
  obtain ⟨h1, b, r, h2, h3⟩ := rText_true l ok h.1
  rw [h3] at h ⊢
  simp only at h ⊢
  exact ⟨h1, (readWord b).1, r, by rw [readWord_ok b h.2]; exact h2, readWord_lt b, by rw [h.2]; rfl⟩
theorem hdrOf_hdrI (t : Hdr) (ho : t.ok) (r : List It) : hdrOf ((hdrI t).items ++ r) = t := by
  obtain ⟨p, nn, bb, gg, tx, st, rc⟩ := t
  obtain ⟨o1, o2, o3, o4, o5, o6, o7⟩ := ho
  simp only at o1 o2 o3 o4 o5 o6 o7
  simp [hdrOf, hdrI, It.items, itB, It.bytes, fit32_id _ o1, fit32_id _ o2, fit32_id _ o3, fit32_id _ o4, readWord_wordB _ o5, readWord_wordB _ o6, readWord_wordB _ o7]
theorem rHdr_hdrI (t : Hdr) (ho : t.ok) (r : List It) : rHdr ((hdrI t).items ++ r) true = (t, true) := by
  obtain ⟨p, nn, bb, gg, tx, st, rc⟩ := t
  obtain ⟨o1, o2, o3, o4, o5, o6, o7⟩ := ho
  simp only at o1 o2 o3 o4 o5 o6 o7
  simp [rHdr, hdrI, It.items, rDig, rWord, rText, fit32_id _ o1, fit32_id _ o2, fit32_id _ o3, fit32_id _ o4, readWord_wordB _ o5, readWord_wordB _ o6, readWord_wordB _ o7, o1, o2, o3, o4]
theorem rHdr_true (l : List It) (h : (rHdr l true).2 = true) : ∃ t : Hdr, ∃ r, t.ok ∧ l = (hdrI t).items ++ r := by
  unfold rHdr at h
  simp only at h
  obtain ⟨h6, rc, q7, e7, l7, -⟩ := rDig_true _ _ h
  obtain ⟨h5, st, q6, e6, l6, r6⟩ := rDig_true _ _ h6
  obtain ⟨h4, tx, q5, e5, l5, r5⟩ := rDig_true _ _ h5
  obtain ⟨h3, gg, q4, e4, l4, r4⟩ := rWord_true _ _ h4
  obtain ⟨h2, bb, q3, e3, l3, r3⟩ := rWord_true _ _ h3
  obtain ⟨h1, nn, q2, e2, l2, r2⟩ := rWord_true _ _ h2
  obtain ⟨-, p, q1, e1, l1, r1⟩ := rDig_true _ _ h1
  rw [r6] at e7; rw [r5] at e6; rw [r4] at e5; rw [r3] at e4; rw [r2] at e3; rw [r1] at e2
  simp only at e2 e3 e4 e5 e6 e7
  refine ⟨⟨p, nn, bb, gg, tx, st, rc⟩, q7, ⟨l1, l5, l6, l7, l2, l3, l4⟩, ?_⟩
  rw [e1, e2, e3, e4, e5, e6, e7]
  simp [hdrI, It.items]
theorem hdrDecode_eq (bs : List UInt8) : hdrDecode bs = refHdrDecode bs := by
  unfold hdrDecode refHdrDecode
  by_cases h : (rOpen bs 7).2 = true ∧ (rHdr (rOpen bs 7).1 true).2 = true
  · rw [if_pos h]
    obtain ⟨h1, h2⟩ := h
    obtain ⟨t, r, ho, hl⟩ := rHdr_true _ h2
    rw [hl, rHdr_hdrI t ho r]
    simp only [rOpen, Bool.and_eq_true, decide_eq_true_eq] at h1 hl
    obtain ⟨⟨h3, h4⟩, h5⟩ := h1
    have hr : r = [] := by
      rw [hl] at h5
      simp [hdrI, It.items] at h5
      exact h5
    subst hr
    have hx : (rdWhole bs).2 = hdrI t := by
      cases hx : (rdWhole bs).2 with
      | text b => rw [hx] at h4; cases h4
      | list l => rw [hx] at hl; simp only [It.items, List.append_nil] at hl; rw [hl]; rfl
    have hw : rdWhole bs = (0, hdrI t) := by rw [← h3, ← hx]
    have hs := (rdWhole_sound bs _ hw).1
    have he : hdrOf (rdWhole bs).2.items = t := by rw [hl]; exact hdrOf_hdrI t ho []
    rw [if_pos ⟨h3, h5, by rw [he, hdrBytes_eq t ho]; exact hs.symm⟩, he]
  · rw [if_neg h, if_neg]
    rintro ⟨h1, h2, h3⟩
    apply h
    have ho := hdrOf_ok (rdWhole bs).2.items
    obtain ⟨t, ht⟩ : ∃ t, t = hdrOf (rdWhole bs).2.items := ⟨_, rfl⟩
    rw [← ht] at ho h3
    rw [hdrBytes_eq t ho] at h3
    have hb := rdWhole_back _ (hdr_fits t ho)
    rw [h3] at hb
    have e : rHdr (hdrI t).items true = (t, true) := by have := rHdr_hdrI t ho []; rwa [List.append_nil] at this
    constructor
    · simp [rOpen, hb, hdrI, It.isList, It.items]
    · simp only [rOpen, hb, e]
theorem hdrDecode_back (h : Hdr) (ho : h.ok) : hdrDecode (hdrBytes h) = (h, 0) := by
  have hb := rdWhole_back _ (hdr_fits h ho)
  rw [← hdrBytes_eq h ho] at hb
  have e : rHdr (hdrI h).items true = (h, true) := by have := rHdr_hdrI h ho []; rwa [List.append_nil] at this
  unfold hdrDecode
  have e2 : rOpen (hdrBytes h) 7 = ((hdrI h).items, true) := by simp [rOpen, hb, hdrI, It.isList, It.items]
  rw [e2]
  simp only [e, and_self, if_true]
theorem hdrDecode_sound (bs : List UInt8) (h : Hdr) (hd : hdrDecode bs = (h, 0)) : hdrBytes h = bs := by
  rw [hdrDecode_eq] at hd
  unfold refHdrDecode at hd
  split at hd
  · rename_i x
    simp only [Prod.mk.injEq, and_true] at hd
    rw [← hd]; exact x.2.2
  · simp at hd
end Go.Pg
namespace Go.Pg
open Go.RowKit
/-- a block -/
structure Blk where
  p : List UInt8
  nn : Nat
  bb : Nat
  T : List (List UInt8)
structure Blk.ok (b : Blk) : Prop where
  p : b.p.length = 32
  nn : (b.nn : Int) < 18446744073709551616
  bb : (b.bb : Int) < 18446744073709551616
def Blk.item (b : Blk) : It := blkI b.p b.nn b.bb b.T
def Blk.enc (b : Blk) : List UInt8 × Nat := blkEncode b.p b.nn b.bb b.T
def blk0 : Blk := ⟨List.replicate 32 0, 0, 0, []⟩
theorem blk0_ok : blk0.ok := ⟨rfl, by decide, by decide⟩
def rBlk (l : List It) : (List UInt8 × Nat × Nat) × Bool :=
  let r1 := rDig l true
  let r2 := rWord r1.2.1 r1.2.2
  let r3 := rWord r2.2.1 r2.2.2
  ((r1.1, r2.1, r3.1), r3.2.2)
def blkDecode (bs : List UInt8) : Blk × Nat :=
  if (rOpen bs 4).2 = true ∧ ((rOpen bs 4).1.getD 3 (.text [])).isList = true ∧ (rBlk (rOpen bs 4).1).2 = true ∧ flat ((rOpen bs 4).1.getD 3 (.text [])).items = true then
    (⟨(rBlk (rOpen bs 4).1).1.1, (rBlk (rOpen bs 4).1).1.2.1, (rBlk (rOpen bs 4).1).1.2.2, ((rOpen bs 4).1.getD 3 (.text [])).items.map It.bytes⟩, 0)
  else (blk0, 190)
def blkOf (l : List It) : Blk := ⟨fit32 (itB l 0), (readWord (itB l 1)).1, (readWord (itB l 2)).1, (l.getD 3 (.text [])).items.map It.bytes⟩
def refBlkDecode (bs : List UInt8) : Blk × Nat :=
  if (rdWhole bs).1 = 0 ∧ (rdWhole bs).2.items.length = 4 ∧ (blkOf (rdWhole bs).2.items).enc = (bs, 0) then (blkOf (rdWhole bs).2.items, 0) else (blk0, 190)
theorem blkOf_ok (l : List It) : (blkOf l).ok := ⟨fit32_length _, readWord_lt _, readWord_lt _⟩
theorem rBlk_item (b : Blk) (ho : b.ok) : rBlk b.item.items = ((b.p, b.nn, b.bb), true) := by
  obtain ⟨p, nn, bb, T⟩ := b
  obtain ⟨o1, o2, o3⟩ := ho
  simp only at o1 o2 o3
  simp [rBlk, Blk.item, blkI, It.items, rDig, rWord, rText, fit32_id _ o1, readWord_wordB _ o2, readWord_wordB _ o3, o1]
theorem textsI_items (T : List (List UInt8)) : (textsI T).items = T.map .text := rfl
theorem bytes_of_texts (T : List (List UInt8)) : (T.map It.text).map It.bytes = T := by
  rw [List.map_map]
  conv => rhs; rw [← List.map_id T]
  exact List.map_congr_left fun y _ => rfl
theorem blkOf_item (b : Blk) (ho : b.ok) : blkOf b.item.items = b := by
  obtain ⟨p, nn, bb, T⟩ := b
  obtain ⟨o1, o2, o3⟩ := ho
  simp only at o1 o2 o3
  have hT := bytes_of_texts T
  simp only [blkOf, Blk.item, blkI, It.items, itB, List.getD_cons_zero, List.getD_cons_succ, It.bytes, fit32_id _ o1, readWord_wordB _ o2, readWord_wordB _ o3, textsI, hT]
theorem flat_texts (T : List (List UInt8)) : flat (T.map It.text) = true := by
  unfold flat; rw [List.all_eq_true]; intro x hx
  simp only [List.mem_map] at hx
  obtain ⟨y, -, rfl⟩ := hx
  rfl
theorem rBlk_true (l : List It) (h : (rBlk l).2 = true) (hl : l.length = 4) (h3 : (l.getD 3 (.text [])).isList = true) (hf : flat (l.getD 3 (.text [])).items = true) :
    ∃ b : Blk, b.ok ∧ l = b.item.items := by
  unfold rBlk at h
  simp only at h
  obtain ⟨k2, bb, q3, e3, l3, r3⟩ := rWord_true _ _ h
  obtain ⟨k1, nn, q2, e2, l2, r2⟩ := rWord_true _ _ k2
  obtain ⟨-, p, q1, e1, l1, r1⟩ := rDig_true _ _ k1
  rw [r2] at e3; rw [r1] at e2
  simp only at e2 e3
  rw [e2, e3] at e1
  subst e1
  match q3, hl, h3, hf with
  | [.list its], _, _, hf =>
    simp only [List.getD_cons_succ, List.getD_cons_zero, It.items] at hf
    have ht := texts_of_flat its hf
    refine ⟨⟨p, nn, bb, its.map It.bytes⟩, ⟨l1, l2, l3⟩, ?_⟩
    simp only [Blk.item, blkI, It.items, textsI, ht]
  | [.text t], _, h3, _ => simp [It.isList] at h3
  | [], hl, _, _ => simp at hl
  | _ :: _ :: _, hl, _, _ => simp at hl
theorem blk_enc_of (b : Blk) (bs : List UInt8) (h : It.fits 8 b.item) (hb : bs = b.item.enc) : b.enc = (bs, 0) := by
  have he := encode_ok _ h
  unfold Blk.enc blkEncode
  unfold Blk.item at he hb
  rw [he, if_pos rfl, hb]
theorem blk_of_enc (b : Blk) (bs : List UInt8) (h : b.enc = (bs, 0)) : It.fits 8 b.item ∧ bs = b.item.enc := by
  unfold Blk.enc blkEncode at h
  split at h
  · rename_i h0
    have hf := encode_fits _ h0
    have he := encode_ok _ hf
    rw [he] at h
    simp only [Prod.mk.injEq, and_true] at h
    exact ⟨hf, h.symm⟩
  · simp at h
theorem blkDecode_of (b : Blk) (ho : b.ok) (bs : List UInt8) (h : rdWhole bs = (0, b.item)) : blkDecode bs = (b, 0) := by
  have e1 : rOpen bs 4 = (b.item.items, true) := by simp [rOpen, h, Blk.item, blkI, It.isList, It.items]
  have e2 : b.item.items.getD 3 (.text []) = textsI b.T := rfl
  unfold blkDecode
  rw [e1]
  simp only [rBlk_item b ho, e2]
  rw [if_pos ⟨trivial, rfl, trivial, by rw [textsI_items]; exact flat_texts _⟩, textsI_items, bytes_of_texts]
theorem blkDecode_eq (bs : List UInt8) : blkDecode bs = refBlkDecode bs := by
  by_cases h : (rdWhole bs).1 = 0 ∧ (rdWhole bs).2.items.length = 4 ∧ (blkOf (rdWhole bs).2.items).enc = (bs, 0)
  · unfold refBlkDecode
    rw [if_pos h]
    obtain ⟨-, -, h3⟩ := h
    obtain ⟨g1, g2⟩ := blk_of_enc _ _ h3
    refine blkDecode_of _ (blkOf_ok _) bs ?_
    have := rdWhole_back _ g1
    rw [← g2] at this
    exact this
  · unfold refBlkDecode
    rw [if_neg h]
    unfold blkDecode
    rw [if_neg]
    rintro ⟨h1, h2, h3, h4⟩
    apply h
    simp only [rOpen, Bool.and_eq_true, decide_eq_true_eq] at h1
    obtain ⟨⟨g1, g2⟩, g3⟩ := h1
    obtain ⟨b, ho, hl⟩ := rBlk_true _ h3 g3 h2 h4
    simp only [rOpen] at hl
    have hx : (rdWhole bs).2 = b.item := by
      cases hx : (rdWhole bs).2 with
      | text t => rw [hx] at g2; cases g2
      | list l => rw [hx] at hl; simp only [It.items] at hl; rw [hl]; rfl
    have hs := rdWhole_sound bs b.item (by rw [← g1, ← hx])
    refine ⟨g1, g3, ?_⟩
    rw [hx, blkOf_item b ho]
    exact blk_enc_of b bs hs.2 hs.1
theorem blkDecode_ok (bs : List UInt8) : (blkDecode bs).1.ok := by
  rw [blkDecode_eq]; unfold refBlkDecode
  split
  · exact blkOf_ok _
  · exact blk0_ok
theorem blkDecode_back (b : Blk) (ho : b.ok) (bs : List UInt8) (h : b.enc = (bs, 0)) : blkDecode bs = (b, 0) := by
  obtain ⟨g1, g2⟩ := blk_of_enc _ _ h
  refine blkDecode_of b ho bs ?_
  rw [g2]; exact rdWhole_back _ g1
theorem blkDecode_sound (bs : List UInt8) (b : Blk) (h : blkDecode bs = (b, 0)) : b.enc = (bs, 0) := by
  rw [blkDecode_eq] at h
  unfold refBlkDecode at h
  split at h
  · rename_i x
    simp only [Prod.mk.injEq, and_true] at h
    rw [← h]; exact x.2.2
  · simp at h
end Go.Pg
namespace Go.Pg
open Go.RowKit
/-- what has been read of a list of texts, and what is left -/
structure TxData (L rem : List It) (ok : Bool) (T : List (List UInt8)) : Prop where
  good : ok = true → L = T.map .text ++ rem
  bad : ok = false → flat L = false ∧ rem ≠ []
  sum : T.length + (rem.length + ok.toNat) = L.length + 1
theorem TxData.start (L : List It) : TxData L L true [] := ⟨fun _ => rfl, (fun h => by cases h), by simp⟩
theorem TxData.next {L rem : List It} {T : List (List UInt8)} (h : TxData L rem true T) (hr : rem ≠ []) :
    TxData L (rText rem true).2.1 (rText rem true).2.2 (T ++ [(rText rem true).1]) := by
  have hg := h.good rfl
  have hs := h.sum
  match rem, hr with
  | .text b :: r, _ =>
    simp only [rText]
    refine ⟨fun _ => by rw [hg]; simp, fun x => (by cases x), ?_⟩
    simp at hs ⊢; omega
  | .list x :: r, _ =>
    simp only [rText]
    refine ⟨fun x => (by cases x), fun _ => ⟨?_, by simp⟩, ?_⟩
    · rw [hg]; simp [flat, It.isList]
    · simp at hs ⊢; omega
theorem TxData.all {L : List It} {ok : Bool} {T : List (List UInt8)} (h : TxData L [] ok T) : ok = true ∧ flat L = true ∧ L.map It.bytes = T := by
  cases ok with
  | false => exact absurd rfl (h.bad rfl).2
  | true =>
    have hg := h.good rfl
    rw [List.append_nil] at hg
    refine ⟨rfl, by rw [hg]; exact flat_texts T, by rw [hg]; exact bytes_of_texts T⟩
theorem rOpen_len (bs : List UInt8) (many : Nat) (h : (rOpen bs many).2 = true) : (rOpen bs many).1.length = many := by
  simp only [rOpen, Bool.and_eq_true, decide_eq_true_eq] at h ⊢
  exact h.2
theorem whole_le_mem (l : List It) (x : It) (h : x ∈ l) : x.whole ≤ It.wholes l := by
  induction l with
  | nil => cases h
  | cons y r ih =>
    simp only [It.wholes]
    rcases List.mem_cons.1 h with rfl | h
    · omega
    · have := ih h; omega
theorem items_le_whole (x : It) : x.items.length ≤ x.whole := by
  have h1 := It.length_le_wholes x.items
  have h2 := It.body_le_whole x
  have h3 := It.body_eq x
  omega
theorem rOpen_small (bs : List UInt8) (many : Nat) (h : (rOpen bs many).2 = true) (x : It) (hx : x ∈ (rOpen bs many).1) : x.items.length ≤ 16777215 := by
  simp only [rOpen, Bool.and_eq_true, decide_eq_true_eq] at h hx
  obtain ⟨⟨g1, -⟩, -⟩ := h
  have h1 := read_items_small bs g1
  have h2 := items_le_whole x
  have h3 := whole_le_mem _ _ hx
  omega
theorem blkCells_size (p : List UInt8) (n b : Nat) (v : Value) (hp : p.length = 32) : (blkCells p n b v).size = 35 := by
  simp [blkCells, cellsL_length, hp]
theorem blkCells_set (p : List UInt8) (n b : Nat) (v v' : Value) (hp : p.length = 32) : (blkCells p n b v).setIfInBounds 34 v' = blkCells p n b v' := by
  have hl : (cellsL p).length = 32 := by rw [cellsL_length, hp]
  unfold blkCells
  rw [List.setIfInBounds_toArray]
  congr 1
  rw [List.set_append_right _ _ (by omega), hl]
  rfl
theorem blkCells_one (p : List UInt8) (n b : Nat) (a : Option Addr) (m c : Nat) : (blkCells p n b (.slice a m c)).all (·.oneCell') = true := by
  apply Array.all_eq_true_iff_forall_mem.2
  intro u hu
  simp only [blkCells, cellsL, List.mem_toArray, List.mem_append, List.mem_map, List.mem_cons, List.not_mem_nil, or_false] at hu
  rcases hu with ⟨x, -, rfl⟩ | rfl | rfl | rfl <;> rfl
section
variable {P : Program}
/-- the laws of whole rows, their facts on the frame asked behind the operation's shape -/
theorem wpL_store_row {ops : Array Oper} {rest : List Oper} {o : Oper} {a : Act} {w : World} {Q : Exit → Act → World → Prop} (ty : TypeId) (x y : Operand) (g : Nat) (cells : Array Value) (t : TypeId) (old : Array Value)
    (hc : o.guard = none ∧ o.op = .store ty x y ∧ a.eval x = .pointer (some ⟨g, 0, none⟩) ∧ a.eval y = .agg cells)
    (hf : w.heap[g]? = some (.cells old t (0, 0)) ∧ (P.info? ty).map (·.size) = some cells.size ∧ old.size = cells.size ∧ cells.all (·.oneCell') = true)
    (h : wpList P ops Q rest (a.put o.dst undef) (w.setRow g cells)) : wpList P ops Q (o :: rest) a w :=
  wpList_store_row hc.1 ty x y hc.2.1 g cells hc.2.2.1 hc.2.2.2 t old hf.1 hf.2.1 hf.2.2.1 hf.2.2.2 h
theorem wpL_load_row {ops : Array Oper} {rest : List Oper} {o : Oper} {a : Act} {w : World} {Q : Exit → Act → World → Prop} (ty : TypeId) (x : Operand) (g : Nat) (cs : Array Value) (t : TypeId) (d : TypeDesc)
    (hc : o.guard = none ∧ o.op = .load ty x ∧ a.eval x = .pointer (some ⟨g, 0, none⟩))
    (hf : w.heap[g]? = some (.cells cs t (0, 0)) ∧ P.underlying ty = some d ∧ (match d with | .struct _ | .array _ _ => true | _ => false) = true ∧ (P.info? ty).map (·.size) = some cs.size)
    (h : wpList P ops Q rest (a.put o.dst (.agg cs)) w) : wpList P ops Q (o :: rest) a w :=
  wpList_load_row hc.1 ty x hc.2.1 g hc.2.2 t cs (0, 0) d hf.1 hf.2.1 (by have := hf.2.2.1; cases d <;> exact this) hf.2.2.2 h
theorem wpL_build_to {ops : Array Oper} {rest : List Oper} {o : Oper} {a : Act} {w : World} {Q : Exit → Act → World → Prop} (t : TypeId) (parts : Array (Nat × Operand)) (vs : List (Nat × Value)) (cells : Array Value)
    (hc : o.guard = none ∧ o.op = .build t parts ∧ (parts.map fun (i, x) => (i, a.eval x)).toList = vs) (hb : P.built t vs = some cells)
    (h : wpList P ops Q rest (a.put o.dst (.agg cells)) w) : wpList P ops Q (o :: rest) a w :=
  wpList_build_to hc.1 t parts hc.2.1 vs hc.2.2 cells hb h
end
theorem rBlk_ok (l : List It) : (rBlk l).1.1.length = 32 ∧ ((rBlk l).1.2.1 : Int) < 18446744073709551616 ∧ ((rBlk l).1.2.2 : Int) < 18446744073709551616 :=
  ⟨fit32_length _, readWord_lt _, readWord_lt _⟩
end Go.Pg
namespace Go.Proofs.Ytndkkgkcbbmnpaa
open Go.RowKit Go.Pg
theorem builtBlk (parts : List (Nat × Value)) : Try.prog.built 40 parts = Instr.fill (#[(0, 32), (32, 1), (33, 1), (34, 1)][·]?) (blkCells (List.replicate 32 0) 0 0 (.slice none 0 0)) parts := by kernel_rfl
theorem builtBlkOf (p : List UInt8) (nn bb : Nat) (hp : p.length = 32) : Try.prog.built 40 [(0, .agg (cellsOf p)), (1, .int .u64 nn), (2, .int .u64 bb)] = some (blkCells p nn bb (.slice none 0 0)) := by
  have l0 : (cellsL p).length = 32 := by rw [cellsL_length, hp]
  have z0 : (cellsL (List.replicate 32 0)).length = 32 := by rw [cellsL_length]; simp
  rw [builtBlk]
  obtain ⟨Z, hZ⟩ : ∃ Z, Z = cellsL (List.replicate 32 0) := ⟨_, rfl⟩
  have hz : blkCells (List.replicate 32 0) 0 0 (.slice none 0 0) = (Z ++ [Value.int .u64 0] ++ [Value.int .u64 0] ++ [Value.slice none 0 0]).toArray := by rw [hZ]; rfl
  have hh : blkCells p nn bb (.slice none 0 0) = (cellsL p ++ [Value.int .u64 (nn : Int)] ++ [Value.int .u64 (bb : Int)] ++ [Value.slice none 0 0]).toArray := by unfold blkCells; simp
  rw [← hZ] at z0
  rw [hz, hh]
  obtain ⟨A, hA⟩ : ∃ A, A = cellsL p := ⟨_, rfl⟩
  have eA : cellsOf p = A.toArray := by rw [hA]; rfl
  rw [eA, ← hA]
  rw [← hA] at l0
  have s1 := fill_one (#[(0, 32), (32, 1), (33, 1), (34, 1)][·]?) 0 0 A [] Z ([Value.int .u64 0] ++ [Value.int .u64 0] ++ [Value.slice none 0 0]) [(1, .int .u64 nn), (2, .int .u64 bb)] (by rw [l0]; rfl) rfl (by omega)
  have s2 := fill_int (#[(0, 32), (32, 1), (33, 1), (34, 1)][·]?) 1 32 .u64 nn (.int .u64 0) A ([Value.int .u64 0] ++ [Value.slice none 0 0]) [(2, .int .u64 bb)] rfl l0
  have s3 := fill_int (#[(0, 32), (32, 1), (33, 1), (34, 1)][·]?) 2 33 .u64 bb (.int .u64 0) (A ++ [Value.int .u64 (nn : Int)]) [Value.slice none 0 0] [] rfl (by simp [l0])
  simp only [List.nil_append, List.append_assoc] at s1 s2 s3 ⊢
  rw [s1, s2, s3]
  rfl
theorem underlyingBlk : ∃ fs, Try.prog.underlying 40 = some (.struct fs) := ⟨_, Try.underlying40⟩
theorem infoBlk : (Try.prog.info? 40).map (·.size) = some 35 := by kernel_rfl

/-- a block is told, or an empty one and a fault -/
def BlkD (w : World) (r : Blk × Nat) (e : Ending) (w' : World) : Prop :=
  ∃ a n c, e = .returned (.tuple #[.agg (blkCells r.1.p r.1.nn r.1.bb (.slice a n c)), .int .i64 (r.2 : Int)]) ∧ RowsAt (fresh w) w' (.slice a n c) r.1.T ∧ Below w.heap.size w w'

/-- the transactions are being read -/
structure TxSt (G : Nat → Prop) (w : World) (ZR : Array Value) (N rb tb bx : Nat) (x3 : Value) (k3 : Bool) (p : List UInt8) (nn bb : Nat) (L : List It) (wr : World) (rem : List It) (ok : Bool) (T : List (List UInt8)) (v : Value) : Prop where
  bel : Below w.heap.size w wr
  zero : wr.heap[w.heap.size]? = some (.cells ZR 40 (0, 0))
  rd : wr.heap[rb]? = some (.cells #[x3, .bool k3] 78 (0, 0))
  tx : RdrAt G wr 7 tb (rem, ok)
  box : wr.heap[bx]? = some (.cells (blkCells p nn bb v) 40 (0, 0))
  own : OwnList rowR G N wr 25 1 v T
  data : TxData L rem ok T
  foot : ∀ b, G b → w.heap.size < b ∧ b < N ∧ b ≠ tb ∧ b ≠ bx ∧ b ≠ rb
  place : w.heap.size < rb ∧ w.heap.size < tb ∧ w.heap.size < bx ∧ rb < N ∧ tb < N ∧ bx < N ∧ rb ≠ tb ∧ bx ≠ rb ∧ bx ≠ tb
  len : p.length = 32
  size : N ≤ wr.heap.size
theorem TxSt.push {G : Nat → Prop} {w : World} {ZR : Array Value} {N rb tb bx : Nat} {x3 : Value} {k3 : Bool} {p : List UInt8} {nn bb : Nat} {L : List It} {wr : World} {rem : List It} {T : List (List UInt8)} {v : Value}
    (h : TxSt G w ZR N rb tb bx x3 k3 p nn bb L wr rem true T v) (hr : rem ≠ []) {w5 : World} {a : Option Addr} {n c : Nat}
    (k1 : BytesAt G w5 (.slice a n c) (rText rem true).1) (k2 : RdrAt G w5 7 tb (rText rem true).2) (k3' : Chg (fun k => k = tb) wr.drew w5) :
    ∃ R : List Value → List UInt8 → Prop, (∀ cs x, R cs x → ∀ u ∈ cs, u.oneCell' = true) ∧ OwnAt (w5.alloc (.cells #[.slice a n c] 25)) N 25 1 R v T ∧
      SliceAt (fun _ => True) (w5.alloc (.cells #[.slice a n c] 25)) 1 R (.slice (some ⟨w5.heap.size, 0, none⟩) 1 1) [(rText rem true).1] ∧
      N ≤ w5.heap.size ∧ w5.heap[bx]? = some (.cells (blkCells p nn bb v) 40 (0, 0)) ∧
      ∀ g cap n' W2, OwnAt W2 N 25 1 R (.slice (some ⟨g, 0, none⟩) n' cap) (T ++ [(rText rem true).1]) → (w5.alloc (.cells #[.slice a n c] 25)).grownBy W2 v.ownBlock →
        Moved (w5.alloc (.cells #[.slice a n c] 25)) v (.slice (some ⟨g, 0, none⟩) n' cap) →
        W2.heap[bx]? = some (.cells (blkCells p nn bb v) 40 (0, 0)) ∧
        TxSt G w ZR N rb tb bx x3 k3 p nn bb L (W2.setCell ⟨bx, 34, none⟩ (.slice (some ⟨g, 0, none⟩) n' cap)) (rText rem true).2.1 (rText rem true).2.2 (T ++ [(rText rem true).1]) (.slice (some ⟨g, 0, none⟩) n' cap) := by
  obtain ⟨p1, p2, p3, p4, p5, p6, p7, p8, p9⟩ := h.place
  have hbx := (Array.getElem?_eq_some_iff.1 h.box).1
  have hrb := (Array.getElem?_eq_some_iff.1 h.rd).1
  have hzz := (Array.getElem?_eq_some_iff.1 h.zero).1
  have hsz := k3'.size
  simp only [World.size_drew] at hsz
  have hblk : ∀ k, k < wr.heap.size → k ≠ tb → w5.heap[k]? = wr.heap[k]? := fun k hk hn => k3'.block k hk hn
  have hown := h.own.own
  have hsN := h.size
  have htbl : tb < w5.heap.size := by obtain ⟨_, _, _, _, hk⟩ := k2; exact (Array.getElem?_eq_some_iff.1 hk).1
  have ho5 : OwnList rowR G N w5 25 1 v T := h.own.carry carriedRow hsz (fun b hb hlt => hblk b hlt (h.foot b hb).2.2.1) (fun g hg => hblk g (hown g hg).2 (by have := (hown g hg).1; omega))
  have hbox5 := (hblk bx hbx p9).trans h.box
  have hb5 : Below w.heap.size w w5 := (Below.drew h.bel).trans (k3'.toBelowAt (by simp only [World.size_drew]; omega) (fun k hk e => by omega))
  obtain ⟨R, g1, g2, g3, g4⟩ := ho5.push carriedRow (H := G) (cs := [.slice a n c]) (x := (rText rem true).1) ⟨_, rfl, k1⟩ rfl (by decide) (fun b _ hb => ⟨hb, fun e => by have := (hown b e).1; have := (h.foot b hb).2.1; omega⟩) 25
  refine ⟨R, g1, g2, g3, by omega, hbox5, fun g cap n' W2 ho hg hm => ?_⟩
  have hOn := g4 _ W2 ho hg hm
  have hnew := hOn.own
  have hsg := hg.size
  simp only [World.size_alloc] at hsg
  have hW2 : ∀ k, k < w5.heap.size → k < N → W2.heap[k]? = w5.heap[k]? := fun k hk hN => by
    rw [hg.block k (by simp; omega) (fun e => by have := (hown k e.symm).1; omega)]
    exact Below.heap_alloc _ _ _ hk
  have hset : ∀ k, k < w5.heap.size → k < N → k ≠ bx → (W2.setCell ⟨bx, 34, none⟩ (.slice (some ⟨g, 0, none⟩) n' cap)).heap[k]? = w5.heap[k]? := fun k hk hN hn => by
    rw [Below.heap_setCell _ _ _ _ hn]; exact hW2 k hk hN
  have hboxW2 := (hW2 bx (by omega) p6).trans hbox5
  have hbW2 : Below w.heap.size w W2 := (Below.alloc hb5 hb5.size _).grown hg (by simp; omega) (fun k hk => by have := (hown k hk).1; omega)
  refine ⟨hboxW2, ⟨hbW2.setCell (by show w.heap.size ≤ bx; omega) _, ?_, ?_, ?_, ?_, ?_, h.data.next hr, h.foot, h.place, h.len, by simp [World.setCell]; omega⟩⟩
  · rw [hset _ (by omega) (by omega) (by omega), hblk _ hzz (by omega)]; exact h.zero
  · rw [hset _ (by omega) (by omega) (by omega), hblk _ hrb p7]; exact h.rd
  · exact k2.carry (fun b hb hlt => hset b hlt (h.foot b hb).2.1 (h.foot b hb).2.2.2.1) (hset _ htbl p5 (by omega))
  · have := blk_set (i := 34) (v := .slice (some ⟨g, 0, none⟩) n' cap) hboxW2
    rw [blkCells_set _ _ _ _ _ h.len] at this
    exact this
  · exact hOn.carry carriedRow (by simp) (fun b hb hlt => Below.heap_setCell _ _ _ _ (h.foot b hb).2.2.2.1) (fun g' hg' => Below.heap_setCell _ _ _ _ (by have := (hnew g' hg').1; show g' ≠ bx; omega))
end Go.Proofs.Ytndkkgkcbbmnpaa
namespace Go.Pg
open Go.RowKit
section
variable {P : Program}
theorem wpList_wanted {ops : Array Oper} {rest : List Oper} {o : Oper} {a : Act} {w : World} {Q : Exit → Act → World → Prop} (hg : Region.wanted o (yielded ops a.tmps) = true)
    (h : ∀ K : Act → World → Prop, (∀ a w, wpList P ops Q rest a w → K a w) → o.wp P a w K Q) : wpList P ops Q (o :: rest) a w :=
  wpList_step fun K hK => by rw [if_pos hg]; exact h K hK
end
end Go.Pg
namespace Go.Proofs.Ytndkkgkcbbmnpaa
open Go.RowKit Go.Pg
theorem digEq (xs ys : List UInt8) (hx : xs.length = 32) (hy : ys.length = 32) (W : World) :
    (Op.equalIn 10000 37 (.agg (cellsL xs).toArray) (.agg (cellsL ys).toArray)).run Try.prog W = .ok (decide (xs = ys)) W := by
  obtain ⟨i0, hi, hz0, hz1, hz2⟩ := info_parts infoU8
  have h := run_equalIn_bytes (P := Try.prog) W 9998 37 5 32 underlyingDig Try.underlying5 (fun w => by simp [sizeOf, typeInfo, hi, hz1]) xs ys hx hy
  have e : (xs == ys) = decide (xs = ys) := by by_cases h : xs = ys <;> simp [h]
  rw [e] at h
  exact h

set_option maxRecDepth 100000 in
set_option maxHeartbeats 4000000 in
theorem sameBlk_any (F G : Nat → Prop) (w : World) (p p' : List UInt8) (nn bb nn' bb' : Nat) (v v' : Value) (l l' : List (List UInt8)) (h : RowsAt F w v l) (h' : RowsAt G w v' l') (hp : p.length = 32) (hp' : p'.length = 32) (hl : l.length ≤ 1152921504606846976) :
    Calls Try.prog 22 #[.agg (blkCells p nn bb v), .agg (blkCells p' nn' bb' v')] w fun e w' => e = .returned (.bool (decide (l = l' ∧ p = p' ∧ nn = nn' ∧ bb = bb'))) ∧ Below w.heap.size w w' := by
  obtain ⟨a, c, rfl, -, -, -⟩ := SliceAt.len h
  obtain ⟨a', c', rfl, -, -, -⟩ := SliceAt.len h'
  obtain ⟨n, hn⟩ : ∃ n, n = l.length := ⟨_, rfl⟩
  obtain ⟨n', hn'⟩ : ∃ n, n = l'.length := ⟨_, rfl⟩
  rw [← hn] at h ⊢
  rw [← hn'] at h' ⊢
  obtain ⟨BC, hBC⟩ : ∃ BC, BC = blkCells p nn bb (.slice a n c) := ⟨_, rfl⟩
  obtain ⟨BD, hBD⟩ : ∃ BD, BD = blkCells p' nn' bb' (.slice a' n' c') := ⟨_, rfl⟩
  obtain ⟨Wz, hWz⟩ : ∃ W, W = (w.alloc (.cells BC 40)).alloc (.cells BD 40) := ⟨_, rfl⟩
  have hbz : Below w.heap.size w Wz := by rw [hWz]; exact Bel.alloc (Bel.alloc (Bel.refl w) _) _
  have hk0 : Wz.heap[w.heap.size]? = some (.cells BC 40 (0, 0)) := by rw [hWz, Below.heap_alloc _ _ _ (by simp)]; exact heap_alloc_new w _
  have hk1 : Wz.heap[w.heap.size + 1]? = some (.cells BD 40 (0, 0)) := by rw [hWz]; have := heap_alloc_new (w.alloc (.cells BC 40)) (.cells BD 40); rw [World.size_alloc] at this; exact this
  have g1 := RowsAt.below h hbz
  have g2 := RowsAt.below h' hbz
  have hf0 : ∀ W : World, W.heap = Wz.heap → W.rangeAt w.heap.size 0 (cellsL p) ∧ W.cell? ⟨w.heap.size, 32, none⟩ = some (.int .u64 nn) ∧ W.cell? ⟨w.heap.size, 33, none⟩ = some (.int .u64 bb) ∧ W.cell? ⟨w.heap.size, 34, none⟩ = some (.slice a n c) :=
    fun W hW => blk_facts (t := 40) hp (by rw [hW, hk0, hBC])
  have hf1 : ∀ W : World, W.heap = Wz.heap → W.rangeAt (w.heap.size + 1) 0 (cellsL p') ∧ W.cell? ⟨w.heap.size + 1, 32, none⟩ = some (.int .u64 nn') ∧ W.cell? ⟨w.heap.size + 1, 33, none⟩ = some (.int .u64 bb') ∧ W.cell? ⟨w.heap.size + 1, 34, none⟩ = some (.slice a' n' c') :=
    fun W hW => blk_facts (t := 40) hp' (by rw [hW, hk1, hBD])
  obtain ⟨-, -, -, q34⟩ := hf0 Wz rfl
  obtain ⟨-, -, -, r34⟩ := hf1 Wz rfl
  obtain ⟨b0, hb0⟩ : ∃ b, b = decide (l = l') := ⟨_, rfl⟩
  obtain ⟨b1, hb1⟩ : ∃ b, b = decide (p = p') := ⟨_, rfl⟩
  have hres : decide (l = l' ∧ p = p' ∧ nn = nn' ∧ bb = bb') = (b0 && (b1 && (decide (nn = nn') && decide (bb = bb')))) := by rw [hb0, hb1]; simp [Bool.decide_and]
  obtain ⟨b2, hb2⟩ : ∃ b, b = decide (nn = nn') := ⟨_, rfl⟩
  obtain ⟨b3, hb3⟩ : ∃ b, b = decide (bb = bb') := ⟨_, rfl⟩
  have hE2 : ((nn : Int) == (nn' : Int)) = b2 := by
    rw [hb2]
    by_cases h : nn = nn'
    · subst h; simp
    · have h' : ¬ (nn : Int) = nn' := by omega
      simp [h, h']
  have hE3 : ((bb : Int) == (bb' : Int)) = b3 := by
    rw [hb3]
    by_cases h : bb = bb'
    · subst h; simp
    · have h' : ¬ (bb : Int) = bb' := by omega
      simp [h, h']
  rw [← hb2, ← hb3] at hres
  clear hb2 hb3
  obtain ⟨m1, hm1⟩ : ∃ m : Int, m = (nn : Int) := ⟨_, rfl⟩
  obtain ⟨m2, hm2⟩ : ∃ m : Int, m = (nn' : Int) := ⟨_, rfl⟩
  obtain ⟨m3, hm3⟩ : ∃ m : Int, m = (bb : Int) := ⟨_, rfl⟩
  obtain ⟨m4, hm4⟩ : ∃ m : Int, m = (bb' : Int) := ⟨_, rfl⟩
  rw [← hm1, ← hm2] at hE2
  rw [← hm3, ← hm4] at hE3
  simp only [← hm1, ← hm3] at hf0
  simp only [← hm2, ← hm4] at hf1
  have HE2 := Lib.hid hE2
  have HE3 := Lib.hid hE3
  clear hE2 hE3 hm1 hm2 hm3 hm4
  rw [hres, ← hBC, ← hBD]
  have heq := digEq p p' hp hp'
  rw [← hb1] at heq
  have HEQ := Lib.hid heq
  have HB0 := Lib.hid hb0
  have HF0 := Lib.hid hf0
  have HF1 := Lib.hid hf1
  have HBZ := Lib.hid hbz
  have HWZ := Lib.hid hWz
  have HLN := Lib.hid hl
  have G1 := Lib.hid g1
  have G2 := Lib.hid g2
  have HQ := Lib.hid q34
  have HR := Lib.hid r34
  have e0 : (Try.prog.info? 37).map (·.size) = some (cellsL p).length := by rw [cellsL_length, hp]; exact infoDig
  have e1 : (Try.prog.info? 37).map (·.size) = some (cellsL p').length := by rw [cellsL_length, hp']; exact infoDig
  have E0 := Lib.hid e0
  have E1 := Lib.hid e1
  rw [hWz] at q34 r34
  clear heq hb0 hb1 hf0 hf1 hbz hWz hl g1 g2 hres hBC hBD h h' hn hn' hk0 hk1 e0 e1 hp hp'
  go_enter Try.func22, Try.ntmps22
  go_wp2_with fail
  rw [← HWZ.out]
  refine (sameAll_any F G Wz _ _ l l' G1.out G2.out HLN.out).mono ?_
  rintro e w1 ⟨rfl, m, rfl⟩
  rw [← HB0.out]
  clear q34 r34
  obtain ⟨s0, s1, s2, s3⟩ := HF0.out (Wz.drewN m) rfl
  obtain ⟨t0, t1, t2, t3⟩ := HF1.out (Wz.drewN m) rfl
  have hend : Below w.heap.size w (Wz.drewN m) := ⟨HBZ.out.os, HBZ.out.tape, HBZ.out.output, HBZ.out.size, HBZ.out.block⟩
  have HEND := Lib.hid hend
  have S0 := Lib.hid s0
  have T0 := Lib.hid t0
  clear hend s0 t0
  cases b0 with
  | false =>
    go_wp2_with fail
    go_ret
    exact ⟨rfl, HEND.out⟩
  | true =>
    have heq := HEQ.out
    have hE2 := HE2.out
    have hE3 := HE3.out
    cases b1 <;> cases b2 <;> cases b3
    all_goals
      go_wp2_with (first
        | (refine wpList_wanted (by rfl) ?_; intro K hK; refine wp_load_mid 37 (.tmp 13) rfl w.heap.size 0 rfl (cellsL p) (.array 32 5) S0.out underlyingDig rfl E0.out ?_; apply hK)
        | (refine wpList_wanted (by rfl) ?_; intro K hK; refine wp_load_mid 37 (.tmp 15) rfl (w.heap.size + 1) 0 rfl (cellsL p') (.array 32 5) T0.out underlyingDig rfl E1.out ?_; apply hK))
      go_ret
      exact ⟨rfl, HEND.out⟩
end Go.Proofs.Ytndkkgkcbbmnpaa
namespace Go.Pg
open Go.RowKit
section
variable {P : Program}
theorem yieldsIf_load_row {ops : Array Oper} {S : World → Prop} {op : Oper} {a : Act} (hw : Region.wanted op (yielded ops a.tmps) = true) (ty : TypeId) (x : Operand) (ho : op.op = .load ty x)
    (g : Nat) (hx : a.eval x = .pointer (some ⟨g, 0, none⟩)) (cs : Array Value) (t : TypeId) (d : TypeDesc) (hS : ∀ w, S w → w.heap[g]? = some (.cells cs t (0, 0)))
    (hu : P.underlying ty = some d) (hd : (match d with | .struct _ | .array _ _ => true | _ => false) = true) (hi : (P.info? ty).map (·.size) = some cs.size) : YieldsIf P ops S op (.agg cs) a :=
  .inl ⟨hw, fun w hw' => by
    unfold execOp
    simp only [ho, hx, Instr.loadAt, Instr.sureAddr, Sem.run_bind, Sem.run_pure, Result.andThen_ok, run_loadVar_row w g t ty cs (0, 0) d (hS w hw') hu (by cases d <;> exact hd) hi]⟩
theorem yieldsIf_eql_agg {ops : Array Oper} {S : World → Prop} {op : Oper} {a : Act} (hw : Region.wanted op (yielded ops a.tmps) = true) (t : TypeId) (x y : Operand) (t2 : TypeId) (ho : op.op = .binOp .eql t x y t2)
    (xs ys : Array Value) (hx : a.eval x = .agg xs) (hy : a.eval y = .agg ys) (hg : P.eqGuardType P.depth t = false) (b : Bool) (h : ∀ W : World, (Op.equalIn 10000 t (.agg xs) (.agg ys)).run P W = .ok b W) : YieldsIf P ops S op (.bool b) a :=
  .inl ⟨hw, fun w _ => by
    unfold execOp
    simp only [ho, hx, hy, Sem.run_bind, run_eqGuard_agg w .eql t x y xs ys hg, run_eql_struct, h, Result.andThen_ok, Sem.run_pure]⟩
theorem yieldsIf_neq_agg {ops : Array Oper} {S : World → Prop} {op : Oper} {a : Act} (hw : Region.wanted op (yielded ops a.tmps) = true) (t : TypeId) (x y : Operand) (t2 : TypeId) (ho : op.op = .binOp .neq t x y t2)
    (xs ys : Array Value) (hx : a.eval x = .agg xs) (hy : a.eval y = .agg ys) (hg : P.eqGuardType P.depth t = false) (b : Bool) (h : ∀ W : World, (Op.equalIn 10000 t (.agg xs) (.agg ys)).run P W = .ok b W) : YieldsIf P ops S op (.bool (!b)) a :=
  .inl ⟨hw, fun w _ => by
    unfold execOp
    simp only [ho, hx, hy, Sem.run_bind, run_eqGuard_agg w .neq t x y xs ys hg, run_neq_struct, h, Result.andThen_ok, Sem.run_pure]⟩
theorem extract_mid (pre l post : List Value) : (pre ++ l ++ post).toArray.extract pre.length (pre.length + l.length) = l.toArray := by
  apply Array.ext'
  simp [List.extract_eq_take_drop]
theorem eqFields_self (xs : Array Value) (d : Nat) (fs : List Field) (w : World)
    (h : ∀ f ∈ fs, ∃ v, (∀ W : World, (Go.part f.type xs f.offset).run P W = .ok v W) ∧ (∀ W : World, (Op.equalIn d f.type v v).run P W = .ok true W)) :
    (Op.eqFields d xs xs fs).run P w = .ok true w := by
  induction fs generalizing w with
  | nil => simp [Op.eqFields]
  | cons f fs ih =>
    obtain ⟨v, h1, h2⟩ := h f (by simp)
    have ih' := ih w (fun f hf => h f (by simp [hf]))
    simp only [Op.eqFields, Sem.run_ite, Sem.run_bind, h1, h2, Result.andThen_ok, ih', Bool.not_true, Bool.false_eq_true, if_false]
    split <;> rfl
end
end Go.Pg
namespace Go.Proofs.Ytndkkgkcbbmnpaa
open Go.RowKit Go.Pg
theorem partDig (pre : List Value) (p : List UInt8) (post : List Value) (hp : p.length = 32) (off : Nat) (ho : pre.length = off) (W : World) :
    (Go.part 37 (pre ++ cellsL p ++ post).toArray off).run Try.prog W = .ok (.agg (cellsL p).toArray) W := by
  have hs : (sizeOf 37).run Try.prog W = .ok 32 W := by
    have := infoDig
    cases h : Try.prog.info? 37 with
    | none => rw [h] at this; cases this
    | some i => rw [h] at this; simp only [Option.map_some, Option.some.injEq] at this; simp [sizeOf, typeInfo, h, this]
  have hx := extract_mid pre (cellsL p) post
  rw [cellsL_length, hp, ho] at hx
  simp only [Go.part, isAgg, Sem.run_bind, run_underlying underlyingDig, Sem.run_pure, Result.andThen_ok, if_true, hs, hx]
theorem partInt (pre : List Value) (v : Value) (post : List Value) (off : Nat) (ho : pre.length = off) (W : World) :
    (Go.part 38 (pre ++ v :: post).toArray off).run Try.prog W = .ok v W := by
  have hx : (pre ++ v :: post).toArray[off]? = some v := by rw [List.getElem?_toArray, ← ho, List.getElem?_append_right (Nat.le_refl _), Nat.sub_self]; rfl
  simp only [Go.part, isAgg, Sem.run_bind, run_underlying Try.underlying38, Sem.run_pure, Result.andThen_ok, Bool.false_eq_true, if_false, hx]
theorem digSelf (p : List UInt8) (hp : p.length = 32) (W : World) : (Op.equalIn 9999 37 (.agg (cellsL p).toArray) (.agg (cellsL p).toArray)).run Try.prog W = .ok true W := by
  obtain ⟨i0, hi, hz0, hz1, hz2⟩ := info_parts infoU8
  have h := run_equalIn_bytes (P := Try.prog) W 9997 37 5 32 underlyingDig Try.underlying5 (fun w => by simp [sizeOf, typeInfo, hi, hz1]) p p hp hp
  rw [beq_self_eq_true] at h
  exact h
theorem intSelf (n : Int) (W : World) : (Op.equalIn 9999 38 (.int .u64 n) (.int .u64 n)).run Try.prog W = .ok true W := by
  rw [run_equalIn_int W 9998 38 .u64 .u64 n n Try.underlying38, beq_self_eq_true]
theorem hdrFields : (Try.prog.fieldsOf 47).toList.map (fun f => (f.type, f.offset)) = [(37, 0), (38, 32), (38, 33), (38, 34), (37, 35), (37, 67), (37, 99)] := by kernel_rfl
theorem hdrEq (h : Hdr) (ho : h.ok) (W : World) : (Op.equalIn 10000 47 (.agg (hdrCells h)) (.agg (hdrCells h))).run Try.prog W = .ok true W := by
  have hu : Try.prog.underlying 47 = some (.struct (Try.prog.fieldsOf 47)) := by kernel_rfl
  rw [show (10000 : Nat) = 9999 + 1 from rfl, run_equalIn_agg W 9999 47 _ _ hu (by kernel_rfl)]
  refine eqFields_self _ _ _ _ fun f hf => ?_
  have hm : (f.type, f.offset) ∈ (Try.prog.fieldsOf 47).toList.map (fun f => (f.type, f.offset)) := List.mem_map.2 ⟨f, hf, rfl⟩
  rw [hdrFields] at hm
  obtain ⟨p, nn, bb, gg, tx, st, rc⟩ := h
  obtain ⟨o1, o2, o3, o4, -, -, -⟩ := ho
  simp only at o1 o2 o3 o4
  have l1 : (cellsL p).length = 32 := by rw [cellsL_length, o1]
  have l2 : (cellsL tx).length = 32 := by rw [cellsL_length, o2]
  have l3 : (cellsL st).length = 32 := by rw [cellsL_length, o3]
  have l4 : (cellsL rc).length = 32 := by rw [cellsL_length, o4]
  have e0 : hdrCells ⟨p, nn, bb, gg, tx, st, rc⟩ = ([] ++ cellsL p ++ ([Value.int .u64 (nn : Int), Value.int .u64 (bb : Int), Value.int .u64 (gg : Int)] ++ cellsL tx ++ cellsL st ++ cellsL rc)).toArray := by simp [hdrCells]
  have e1 : hdrCells ⟨p, nn, bb, gg, tx, st, rc⟩ = (cellsL p ++ Value.int .u64 (nn : Int) :: ([Value.int .u64 (bb : Int), Value.int .u64 (gg : Int)] ++ cellsL tx ++ cellsL st ++ cellsL rc)).toArray := by simp [hdrCells]
  have e2 : hdrCells ⟨p, nn, bb, gg, tx, st, rc⟩ = ((cellsL p ++ [Value.int .u64 (nn : Int)]) ++ Value.int .u64 (bb : Int) :: ([Value.int .u64 (gg : Int)] ++ cellsL tx ++ cellsL st ++ cellsL rc)).toArray := by simp [hdrCells]
  have e3 : hdrCells ⟨p, nn, bb, gg, tx, st, rc⟩ = ((cellsL p ++ [Value.int .u64 (nn : Int), Value.int .u64 (bb : Int)]) ++ Value.int .u64 (gg : Int) :: (cellsL tx ++ cellsL st ++ cellsL rc)).toArray := by simp [hdrCells]
  have e4 : hdrCells ⟨p, nn, bb, gg, tx, st, rc⟩ = ((cellsL p ++ [Value.int .u64 (nn : Int), Value.int .u64 (bb : Int), Value.int .u64 (gg : Int)]) ++ cellsL tx ++ (cellsL st ++ cellsL rc)).toArray := by simp [hdrCells]
  have e5 : hdrCells ⟨p, nn, bb, gg, tx, st, rc⟩ = ((cellsL p ++ [Value.int .u64 (nn : Int), Value.int .u64 (bb : Int), Value.int .u64 (gg : Int)] ++ cellsL tx) ++ cellsL st ++ cellsL rc).toArray := by simp [hdrCells]
  have e6 : hdrCells ⟨p, nn, bb, gg, tx, st, rc⟩ = ((cellsL p ++ [Value.int .u64 (nn : Int), Value.int .u64 (bb : Int), Value.int .u64 (gg : Int)] ++ cellsL tx ++ cellsL st) ++ cellsL rc ++ []).toArray := by simp [hdrCells]
  simp only [List.mem_cons, Prod.mk.injEq, List.not_mem_nil, or_false] at hm
  rcases hm with ⟨h1, h2⟩ | ⟨h1, h2⟩ | ⟨h1, h2⟩ | ⟨h1, h2⟩ | ⟨h1, h2⟩ | ⟨h1, h2⟩ | ⟨h1, h2⟩
  all_goals rw [h1, h2]
  · exact ⟨_, fun W => by rw [e0]; exact partDig _ _ _ o1 _ rfl W, digSelf _ o1⟩
  · exact ⟨_, fun W => by rw [e1]; exact partInt _ _ _ _ (by simp [l1]) W, intSelf _⟩
  · exact ⟨_, fun W => by rw [e2]; exact partInt _ _ _ _ (by simp [l1]) W, intSelf _⟩
  · exact ⟨_, fun W => by rw [e3]; exact partInt _ _ _ _ (by simp [l1]) W, intSelf _⟩
  · exact ⟨_, fun W => by rw [e4]; exact partDig _ _ _ o2 _ (by simp [l1]) W, digSelf _ o2⟩
  · exact ⟨_, fun W => by rw [e5]; exact partDig _ _ _ o3 _ (by simp [l1, l2]) W, digSelf _ o3⟩
  · exact ⟨_, fun W => by rw [e6]; exact partDig _ _ _ o4 _ (by simp [l1, l2, l3]) W, digSelf _ o4⟩
/-- the header of the example -/
def hdr5 : Hdr := ⟨List.replicate 32 0, 5, 0, 0, List.replicate 32 0, List.replicate 32 0, List.replicate 32 0⟩
theorem hdr5_ok : hdr5.ok := ⟨rfl, rfl, rfl, rfl, by decide, by decide, by decide⟩
theorem builtHdr5 : Try.prog.built 47 [(1, .int .u64 5)] = some (hdrCells hdr5) := by kernel_rfl
/-- the block of the example -/
def blk1 : Blk := ⟨List.replicate 32 0, 1, 200, []⟩
theorem blk1_ok : blk1.ok := ⟨rfl, by decide, by decide⟩
theorem builtBlk1 : Try.prog.built 40 [(1, .int .u64 1), (2, .int .u64 200)] = some (blkCells blk1.p blk1.nn blk1.bb (.slice none 0 0)) := by kernel_rfl
theorem number_1 : number 1 = 1 := by rw [number_pos (by decide), show 1 / 256 = 0 from rfl, number_zero]
theorem number_200 : number 200 = 1 := by rw [number_pos (by decide), show 200 / 256 = 0 from rfl, number_zero]
theorem wordB_1 : wordB 1 = [1] := by unfold wordB; rw [number_1]; rfl
theorem wordB_200 : wordB 200 = [200] := by unfold wordB; rw [number_200]; rfl
theorem blk1_item : blk1.item = .list [.text (List.replicate 32 0), .text [1], .text [200], .list []] := by
  simp [Blk.item, blk1, blkI, wordB_1, wordB_200, textsI]
theorem blk1_fits : It.fits 8 blk1.item := by
  rw [blk1_item]
  simp [It.fits, It.wholes, It.whole, sz, plainB]
theorem blk1_enc : ∃ B, blk1.enc = (B, 0) ∧ B.length = 38 := by
  refine ⟨blk1.item.enc, blk_enc_of blk1 _ blk1_fits rfl, ?_⟩
  rw [It.enc_length, blk1_item]
  simp [It.whole, It.wholes, sz, plainB]
end Go.Proofs.Ytndkkgkcbbmnpaa
namespace Go.Proofs.Ytndkkgkcbbmnpaa
open Go.ChangeShapes Go.WideShapes Go.ChangeAt Go.RowKit Go.Pg

theorem weightsAll_mem {H : Type} {P : Program} {e : TypeId} : ∀ {l : List (DataW H)} {d : DataW H} {n : Nat}, d ∈ l → n ∈ d.weights P e → n ∈ DataW.weightsAll P e l
  | [], _, _, h, _ => by cases h
  | x :: r, d, n, h, hn => by
    rw [DataW.weightsAll, List.mem_append]
    rcases List.mem_cons.1 h with rfl | h
    · exact .inl hn
    · exact .inr (weightsAll_mem h hn)
section
variable {H : Type} {enc : TypeId × Value → H} {P : Program} {w : World} {held : Bool}
/-- an argument that is a slice of slices of bytes, and what the form's own reach gives for it -/
theorem open_rows_reach {t e q : TypeId} {fuel : Nat} {v : Value} {x : DataW H × List MemPlace} (ht : P.underlying t = some (.slice e)) (he : P.underlying e = some (.slice q)) (hq : P.underlying q = some (.int .u8))
    (ce : P.cellsOf e = 1) (cq : P.cellsOf q = 1) (be : P.bytesOf e = 24) (bq : P.bytesOf q = 1) (h : DataW.trod enc P w 0 (fun _ => true) held fuel t [v] = some x) (hfz : ∀ b o, MemPlace.cell b o ∈ x.2 → w.frozen? ⟨b, o, none⟩ = false)
    (hz : ∀ n ∈ x.1.weights P t, n ≤ reachBytes) :
    ∃ l a c, v = .slice a l.length c ∧ RowsAt (fun b => b < w.heap.size) w v l ∧ l.length * 24 ≤ 140737488351232 ∧ ∀ y ∈ l, y.length ≤ 140737488351232 := by
  have hreach : reachBytes = 140737488351232 := rfl
  rcases Deep.open_int_rows ht he hq ce cq h with ⟨hv, rfl⟩ | ⟨a, len, cap, A, L, C, Z, hv, -, hl, hm, rfl, hr⟩
  · simp only [List.cons.injEq, and_true] at hv
    subst hv
    exact ⟨[], none, 0, rfl, SliceAt.nil _ _ _ _, by simp, fun y hy => by cases hy⟩
  · obtain ⟨l, a', c', hv', hrows, -⟩ := open_rows ht he hq ce cq h hfz
    have hvv := hv
    simp only [List.cons.injEq, and_true] at hvv
    rw [hvv] at hv'
    simp only [Value.slice.injEq] at hv'
    obtain ⟨rfl, hlen, rfl⟩ := hv'
    have hw0 : ((len + (cap - len)) * 24) ∈ DataW.weights P t (.slice ((List.range len).map fun r => Deep.intRow (H := H) .u8 (A r) (L r) (Z r)) ((List.range (cap - len)).map fun j => Deep.intRow .u8 (A (len + j)) (L (len + j)) (Z (len + j)))) := by
      simp [DataW.weights, ht, be]
    have h0 := hz _ hw0
    rw [hreach] at h0
    have hrows' := hrows
    rw [hvv] at hrows'
    refine ⟨l, some a, cap, by rw [hvv, hlen], hrows, by omega, fun y hy => ?_⟩
    obtain ⟨i, hi, rfl⟩ := List.getElem_of_mem hy
    rcases SliceAt.split hrows' with ⟨_, h00⟩ | ⟨b, o, hab, -, -, -⟩
    · omega
    simp only [Option.some.injEq] at hab
    subst hab
    obtain ⟨u, c0, t0⟩ := RowsAt.cell hrows' i hi
    obtain ⟨g1, g2, g3, g4, g5, g6, g7⟩ := hr i (by omega)
    rw [add_at, c0] at g1
    simp only [Option.some.injEq] at g1
    subst g1
    have hn : L i = l[i].length := by
      obtain ⟨a2, c2, hv2, -⟩ := SliceAt.len t0
      simp only [Value.slice.injEq] at hv2
      exact hv2.2.1
    rw [← hn]
    cases hA : A i with
    | none => have := g6 hA; omega
    | some a' =>
      have hmem : Deep.intRow (H := H) .u8 (A i) (L i) (Z i) ∈ (List.range len).map fun r => Deep.intRow (H := H) .u8 (A r) (L r) (Z r) := List.mem_map.2 ⟨i, List.mem_range.2 (by omega), rfl⟩
      have hw1 : C i ∈ (Deep.intRow (H := H) .u8 (A i) (L i) (Z i)).weights P e := by
        rw [hA]
        have h5 : ((lits (H := H) .u8 ((Z i).take (L i))).length + (lits (H := H) .u8 ((Z i).drop (L i))).length) = C i := by simp [lits]; omega
        simp [Deep.intRow, DataW.weights, he, bq, h5]
      have h6 := hz (C i) (by
        simp only [DataW.weights, ht, List.mem_cons, List.mem_append]
        exact .inr (.inl (weightsAll_mem hmem hw1)))
      rw [hreach] at h6
      omega
end
end Go.Proofs.Ytndkkgkcbbmnpaa
namespace Go.Proofs.Ytndkkgkcbbmnpaa
open Go.Shelf
def saSort_ren : Go.Shelf.Ren := ⟨fun | 6 => 87 | 10 => 102 | 11 => 103 | 12 => 104 | 13 => 105 | 14 => 106 | 24 => 124 | 25 => 125 | 26 => 126 | 27 => 127 | 28 => 128 | 29 => 129 | 30 => 130 | 31 => 131 | 32 => 132 | 33 => 133 | 34 => 134 | 35 => 135 | 36 => 136 | 37 => 137 | 38 => 138 | 39 => 139 | n => n, fun | 20 => 20 | 26 => 111 | 35 => 130 | 0 => 0 | 37 => 132 | 3 => 3 | 41 => 136 | 44 => 139 | 49 => 150 | 51 => 38 | 4 => 4 | 54 => 154 | 53 => 153 | 58 => 144 | 5 => 5 | 9 => 9 | 60 => 159 | 64 => 162 | 66 => 164 | 67 => 165 | 17 => 17 | 32 => 127 | 33 => 128 | 82 => 180 | 12 => 12 | 75 => 173 | 76 => 174 | 77 => 175 | 78 => 176 | 79 => 177 | 80 => 178 | n => n, fun | n => n⟩
theorem saSort : Go.Proofs.LaysGg.n6 Try.prog saSort_ren := {
  mixed := by kernel_rfl
  f6 := Try.func87.trans (congrArg some (by kernel_rfl))
  f10 := Try.func102.trans (congrArg some (by kernel_rfl))
  f11 := Try.func103.trans (congrArg some (by kernel_rfl))
  f12 := Try.func104.trans (congrArg some (by kernel_rfl))
  f13 := Try.func105.trans (congrArg some (by kernel_rfl))
  f14 := Try.func106.trans (congrArg some (by kernel_rfl))
  f24 := Try.func124.trans (congrArg some (by kernel_rfl))
  f25 := Try.func125.trans (congrArg some (by kernel_rfl))
  f26 := Try.func126.trans (congrArg some (by kernel_rfl))
  f27 := Try.func127.trans (congrArg some (by kernel_rfl))
  f28 := Try.func128.trans (congrArg some (by kernel_rfl))
  f29 := Try.func129.trans (congrArg some (by kernel_rfl))
  f30 := Try.func130.trans (congrArg some (by kernel_rfl))
  f31 := Try.func131.trans (congrArg some (by kernel_rfl))
  f32 := Try.func132.trans (congrArg some (by kernel_rfl))
  f33 := Try.func133.trans (congrArg some (by kernel_rfl))
  f34 := Try.func134.trans (congrArg some (by kernel_rfl))
  f35 := Try.func135.trans (congrArg some (by kernel_rfl))
  f36 := Try.func136.trans (congrArg some (by kernel_rfl))
  f37 := Try.func137.trans (congrArg some (by kernel_rfl))
  f38 := Try.func138.trans (congrArg some (by kernel_rfl))
  f39 := Try.func139.trans (congrArg some (by kernel_rfl))
  t0 := Try.underlying0
  a0 := Try.isAgg0
  z0 := Try.sizeOf0
  v0 := Try.zeroValue0
  i0 := by kernel_rfl
  t3 := Try.underlying3
  a3 := Try.isAgg3
  z3 := Try.sizeOf3
  v3 := Try.zeroValue3
  i3 := by kernel_rfl
  t4 := Try.underlying4
  a4 := Try.isAgg4
  z4 := Try.sizeOf4
  v4 := Try.zeroValue4
  i4 := by kernel_rfl
  t5 := Try.underlying5
  a5 := Try.isAgg5
  z5 := Try.sizeOf5
  v5 := Try.zeroValue5
  i5 := by kernel_rfl
  t9 := Try.underlying9
  a9 := Try.isAgg9
  z9 := Try.sizeOf9
  v9 := Try.zeroValue9
  i9 := by kernel_rfl
  t12 := Try.underlying12
  a12 := Try.isAgg12
  z12 := Try.sizeOf12
  v12 := Try.zeroValue12
  i12 := by kernel_rfl
  t17 := Try.underlying17
  a17 := Try.isAgg17
  z17 := Try.sizeOf17
  v17 := Try.zeroValue17
  i17 := by kernel_rfl
  t20 := Try.underlying20
  a20 := Try.isAgg20
  z20 := Try.sizeOf20
  v20 := Try.zeroValue20
  i20 := by kernel_rfl
  t26 := Try.underlying111
  a26 := Try.isAgg111
  z26 := Try.sizeOf111
  v26 := Try.zeroValue111
  i26 := by kernel_rfl
  t32 := Try.underlying127
  a32 := Try.isAgg127
  z32 := Try.sizeOf127
  v32 := Try.zeroValue127
  i32 := by kernel_rfl
  t33 := Try.underlying128
  a33 := Try.isAgg128
  z33 := Try.sizeOf128
  v33 := Try.zeroValue128
  i33 := by kernel_rfl
  t35 := Try.underlying130
  a35 := Try.isAgg130
  z35 := Try.sizeOf130
  v35 := Try.zeroValue130
  i35 := by kernel_rfl
  t37 := Try.underlying132
  a37 := Try.isAgg132
  z37 := Try.sizeOf132
  v37 := Try.zeroValue132
  i37 := by kernel_rfl
  t41 := Try.underlying136
  a41 := Try.isAgg136
  z41 := Try.sizeOf136
  v41 := Try.zeroValue136
  i41 := by kernel_rfl
  t44 := Try.underlying139
  a44 := Try.isAgg139
  z44 := Try.sizeOf139
  v44 := Try.zeroValue139
  i44 := by kernel_rfl
  t49 := Try.underlying150
  a49 := Try.isAgg150
  z49 := Try.sizeOf150
  v49 := Try.zeroValue150
  i49 := by kernel_rfl
  t51 := Try.underlying38
  a51 := Try.isAgg38
  z51 := Try.sizeOf38
  v51 := Try.zeroValue38
  i51 := by kernel_rfl
  t53 := Try.underlying153
  a53 := Try.isAgg153
  z53 := Try.sizeOf153
  v53 := Try.zeroValue153
  i53 := by kernel_rfl
  t54 := Try.underlying154
  a54 := Try.isAgg154
  z54 := Try.sizeOf154
  v54 := Try.zeroValue154
  i54 := by kernel_rfl
  t58 := Try.underlying144
  a58 := Try.isAgg144
  z58 := Try.sizeOf144
  v58 := Try.zeroValue144
  i58 := by kernel_rfl
  t60 := Try.underlying159
  a60 := Try.isAgg159
  z60 := Try.sizeOf159
  v60 := Try.zeroValue159
  i60 := by kernel_rfl
  t64 := Try.underlying162
  a64 := Try.isAgg162
  z64 := Try.sizeOf162
  v64 := Try.zeroValue162
  i64 := by kernel_rfl
  t66 := Try.underlying164
  a66 := Try.isAgg164
  z66 := Try.sizeOf164
  v66 := Try.zeroValue164
  i66 := by kernel_rfl
  t67 := Try.underlying165
  a67 := Try.isAgg165
  z67 := Try.sizeOf165
  v67 := Try.zeroValue165
  i67 := by kernel_rfl
  t75 := Try.underlying173
  a75 := Try.isAgg173
  z75 := Try.sizeOf173
  v75 := Try.zeroValue173
  i75 := by kernel_rfl
  t76 := Try.underlying174
  a76 := Try.isAgg174
  z76 := Try.sizeOf174
  v76 := Try.zeroValue174
  i76 := by kernel_rfl
  t77 := Try.underlying175
  a77 := Try.isAgg175
  z77 := Try.sizeOf175
  v77 := Try.zeroValue175
  i77 := by kernel_rfl
  t78 := Try.underlying176
  a78 := Try.isAgg176
  z78 := Try.sizeOf176
  v78 := Try.zeroValue176
  i78 := by kernel_rfl
  t79 := Try.underlying177
  a79 := Try.isAgg177
  z79 := Try.sizeOf177
  v79 := Try.zeroValue177
  i79 := by kernel_rfl
  t80 := Try.underlying178
  a80 := Try.isAgg178
  z80 := Try.sizeOf178
  v80 := Try.zeroValue178
  i80 := by kernel_rfl
  t82 := Try.underlying180
  a82 := Try.isAgg180
  z82 := Try.sizeOf180
  v82 := Try.zeroValue180
  i82 := by kernel_rfl }
end Go.Proofs.Ytndkkgkcbbmnpaa
namespace Go.Pg
open Go.RowKit
theorem lt_cmp : ∀ x y : List UInt8, decide (Lib.compareBytes x y < 0) = decide (x < y)
  | [], [] => by simp [Lib.compareBytes]
  | [], _ :: _ => by simp [Lib.compareBytes]
  | _ :: _, [] => by simp [Lib.compareBytes]
  | a :: r, b :: q => by
    have ih := lt_cmp r q
    simp only [Lib.compareBytes, List.cons_lt_cons_iff]
    by_cases h1 : a < b
    · simp [h1]
    · by_cases h2 : b < a
      · have h3 : a ≠ b := fun e => by subst e; exact h1 h2
        simp [h1, h2, h3]
      · have h3 : a = b := by
          have h4 : a.toNat = b.toNat := by
            have g1 : ¬ a.toNat < b.toNat := fun h => h1 (UInt8.lt_iff_toNat_lt.2 h)
            have g2 : ¬ b.toNat < a.toNat := fun h => h2 (UInt8.lt_iff_toNat_lt.2 h)
            omega
          exact UInt8.toNat_inj.1 h4
        subst h3
        simp only [h1, if_false, false_or, true_and]
        exact ih
end Go.Pg
namespace Go.Proofs.Ytndkkgkcbbmnpaa
open Go.RowKit Go.Pg Go.Shelf Go.Lib Go.Sort

set_option maxRecDepth 100000 in
set_option maxHeartbeats 2000000 in
theorem less_any (F : Nat → Prop) (blk n c Bs : Nat) (W : World) (V : Nat → Value) (G : Nat → List UInt8) (hs : W.cell? ⟨Bs, 0, none⟩ = some (.slice (some ⟨blk, 0, none⟩) n c))
    (hc : ∀ t, t < n → W.cell? ⟨blk, 0 + t, none⟩ = some (V t) ∧ BytesAt F W (V t) (G t)) (i j : Nat) (hi : i < n) (hj : j < n) :
    Calls Try.prog 88 #[.int .i64 i, .int .i64 j, .pointer (some ⟨Bs, 0, none⟩)] W fun e w' => e = .returned (.bool (decide (G i < G j))) ∧ ∃ q, w' = W.drewN q := by
  obtain ⟨ci, ti⟩ := hc i hi
  obtain ⟨cj, tj⟩ := hc j hj
  rw [Nat.zero_add] at ci cj
  obtain ⟨x, hx⟩ : ∃ x, x = G i := ⟨_, rfl⟩
  obtain ⟨y, hy⟩ : ∃ y, y = G j := ⟨_, rfl⟩
  obtain ⟨u, hu⟩ : ∃ u, u = V i := ⟨_, rfl⟩
  obtain ⟨v, hv⟩ : ∃ v, v = V j := ⟨_, rfl⟩
  rw [← hx, ← hy, ← lt_cmp]
  rw [← hu] at ci
  rw [← hv] at cj
  rw [← hu, ← hx] at ti
  rw [← hv, ← hy] at tj
  obtain ⟨q, hq⟩ : ∃ q, q = Lib.compareBytes x y := ⟨_, rfl⟩
  rw [← hq]
  have hi' : (i : Int) < (n : Int) := by omega
  have hj' : (j : Int) < (n : Int) := by omega
  have hi0 : (0 : Int) ≤ (i : Int) := by omega
  have hj0 : (0 : Int) ≤ (j : Int) := by omega
  have HQ := Lib.hid hq
  clear hc hx hy hu hv hq
  go_enter Try.func88, Try.ntmps88
  go_wp2
  go_quiet (((go_at_call 68; exact Calls.quiet_of_same ((compare_any F F _ u v x y (ti.draws _) (tj.draws _)).mono fun _ _ ⟨p, q⟩ => ⟨p, q.symm⟩))))
  rw [← HQ.out]
  go_wp2
  go_ret
  exact ⟨rfl, nq, rfl⟩
end Go.Proofs.Ytndkkgkcbbmnpaa
