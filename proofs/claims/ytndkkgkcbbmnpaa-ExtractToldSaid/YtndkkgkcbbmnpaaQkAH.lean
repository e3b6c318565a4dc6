/-
  The plain law of headers: both ways of reading agree; what is written is read as it was.
  The plain law of blocks: both ways of reading agree; what is written is read as it was.
  Reading a block's transactions: how far it has come; building a block of parts.
  sort.Slice of this program, held against the library's own (what the kit's laying tool prints in plain words).
  sort.Slice of a slice of byte strings, by their bytes: the closure; what the call leaves.
  sort.Slice of a slice of byte strings of the call's own: it owns them still, sorted.
  A set of strings, as the walk holds it; []byte of a string; sort.Slice of no slice.
-/
import Derived.Test.YtndkkgkcbbmnpaaQkAG
import Derived.Test.YtndkkgkcbbmnpaaProg
import Derived.Shelf.GgSortFunc.Whole
import Derived.Shelf.GgSortFunc.Tiny
import Derived.Lib.RowBridge
import Derived.Sort.LotA
import Derived.Maps.RangeWalk
import Derived.Sort.KeysCollected
import Derived.Laws.IdiomStrings
namespace Go.Pg
open Go.RowKit
def itB (l : List It) (i : Nat) : List UInt8 := (l.getD i (.text [])).bytes
def hdrOf (l : List It) : Hdr := ⟨fit32 (itB l 0), (readWord (itB l 1)).1, (readWord (itB l 2)).1, (readWord (itB l 3)).1, fit32 (itB l 4), fit32 (itB l 5), fit32 (itB l 6)⟩
def refHdrDecode (bs : List UInt8) : Hdr × Nat :=
  if (rdWhole bs).1 = 0 ∧ (rdWhole bs).2.items.length = 7 ∧ hdrBytes (hdrOf (rdWhole bs).2.items) = bs then (hdrOf (rdWhole bs).2.items, 0) else (hdr0, 190)
theorem hdrOf_ok (l : List It) : (hdrOf l).ok := ⟨fit32_length _, fit32_length _, fit32_length _, fit32_length _, readWord_lt _, readWord_lt _, readWord_lt _⟩
theorem fit32_id (b : List UInt8) (h : b.length = 32) : fit32 b = b := by
  unfold fit32; rw [List.take_of_length_le (by omega), h]; simp
theorem readWord_ok (b : List UInt8) (h : (readWord b).2 = true) : wordB (readWord b).1 = b := by
  unfold readWord at h ⊢
  split at h
  · cases h
  · rename_i hn
    rw [if_neg hn]
    exact (wordB_beNum_iff b).2 (fun x => hn (.inr x))
theorem readWord_wordB (n : Nat) (h : (n : Int) < 18446744073709551616) : readWord (wordB n) = (n, true) := by
  unfold readWord
  have h1 := wordB_le n h
  have h2 : wordB (beNum (wordB n)) = wordB n := by rw [beNum_wordB]
  have h3 := (wordB_beNum_iff (wordB n)).1 h2
  rw [if_neg (by rintro (x | x); · omega
                 · exact h3 x), beNum_wordB]
theorem rText_true (l : List It) (ok : Bool) (h : (rText l ok).2.2 = true) : ok = true ∧ ∃ b r, l = .text b :: r ∧ rText l ok = (b, r, true) := by
  match l, h with
  | .text b :: r, h => simp only [rText] at h ⊢; exact ⟨h, b, r, rfl, by rw [h]⟩
  | .list x :: r, h => simp [rText] at h
  | [], h => simp [rText] at h
theorem rDig_true (l : List It) (ok : Bool) (h : (rDig l ok).2.2 = true) : ok = true ∧ ∃ b r, l = .text b :: r ∧ b.length = 32 ∧ rDig l ok = (b, r, true) := by
  unfold rDig at h ⊢
  simp only [Bool.and_eq_true, decide_eq_true_eq] at h
  obtain ⟨h1, b, r, h2, h3⟩ := rText_true l ok h.1
  rw [h3] at h ⊢
  simp only at h ⊢
  exact ⟨h1, b, r, h2, h.2, by rw [fit32_id b h.2, h.2]; rfl⟩
theorem rWord_true (l : List It) (ok : Bool) (h : (rWord l ok).2.2 = true) : ok = true ∧ ∃ n r, l = .text (wordB n) :: r ∧ (n : Int) < 18446744073709551616 ∧ rWord l ok = (n, r, true) := by
  unfold rWord at h ⊢
  simp only [Bool.and_eq_true] at h
  obtain ⟨h1, b, r, h2, h3⟩ := rText_true l ok h.1
  rw [h3] at h ⊢
  simp only at h ⊢
  exact ⟨h1, (readWord b).1, r, by rw [readWord_ok b h.2]; exact h2, readWord_lt b, by rw [h.2]; rfl⟩
theorem hdrOf_hdrI (t : Hdr) (ho : t.ok) (r : List It) : hdrOf ((hdrI t).items ++ r) = t := by
  obtain ⟨p, nn, bb, gg, tx, st, rc⟩ := t
  obtain ⟨o1, o2, o3, o4, o5, o6, o7⟩ := ho
  simp only at o1 o2 o3 o4 o5 o6 o7
  simp [hdrOf, hdrI, It.items, itB, It.bytes, fit32_id _ o1, fit32_id _ o2, fit32_id _ o3, fit32_id _ o4, readWord_wordB _ o5, readWord_wordB _ o6, readWord_wordB _ o7]
theorem rHdr_hdrI (t : Hdr) (ho : t.ok) (r : List It) : rHdr ((hdrI t).items ++ r) true = (t, true) := by
  obtain ⟨p, nn, bb, gg, tx, st, rc⟩ := t
  obtain ⟨o1, o2, o3, o4, o5, o6, o7⟩ := ho
  simp only at o1 o2 o3 o4 o5 o6 o7
  simp [rHdr, hdrI, It.items, rDig, rWord, rText, fit32_id _ o1, fit32_id _ o2, fit32_id _ o3, fit32_id _ o4, readWord_wordB _ o5, readWord_wordB _ o6, readWord_wordB _ o7, o1, o2, o3, o4]
theorem rHdr_true (l : List It) (h : (rHdr l true).2 = true) : ∃ t : Hdr, ∃ r, t.ok ∧ l = (hdrI t).items ++ r := by
  unfold rHdr at h
  simp only at h
  obtain ⟨h6, rc, q7, e7, l7, -⟩ := rDig_true _ _ h
  obtain ⟨h5, st, q6, e6, l6, r6⟩ := rDig_true _ _ h6
  obtain ⟨h4, tx, q5, e5, l5, r5⟩ := rDig_true _ _ h5
  obtain ⟨h3, gg, q4, e4, l4, r4⟩ := rWord_true _ _ h4
  obtain ⟨h2, bb, q3, e3, l3, r3⟩ := rWord_true _ _ h3
  obtain ⟨h1, nn, q2, e2, l2, r2⟩ := rWord_true _ _ h2
  obtain ⟨-, p, q1, e1, l1, r1⟩ := rDig_true _ _ h1
  rw [r6] at e7; rw [r5] at e6; rw [r4] at e5; rw [r3] at e4; rw [r2] at e3; rw [r1] at e2
  simp only at e2 e3 e4 e5 e6 e7
  refine ⟨⟨p, nn, bb, gg, tx, st, rc⟩, q7, ⟨l1, l5, l6, l7, l2, l3, l4⟩, ?_⟩
  rw [e1, e2, e3, e4, e5, e6, e7]
  simp [hdrI, It.items]
theorem hdrDecode_eq (bs : List UInt8) : hdrDecode bs = refHdrDecode bs := by
  unfold hdrDecode refHdrDecode
  by_cases h : (rOpen bs 7).2 = true ∧ (rHdr (rOpen bs 7).1 true).2 = true
  · rw [if_pos h]
    obtain ⟨h1, h2⟩ := h
    obtain ⟨t, r, ho, hl⟩ := rHdr_true _ h2
    rw [hl, rHdr_hdrI t ho r]
    simp only [rOpen, Bool.and_eq_true, decide_eq_true_eq] at h1 hl
    obtain ⟨⟨h3, h4⟩, h5⟩ := h1
    have hr : r = [] := by
      rw [hl] at h5
      simp [hdrI, It.items] at h5
      exact h5
    subst hr
    have hx : (rdWhole bs).2 = hdrI t := by
      cases hx : (rdWhole bs).2 with
      | text b => rw [hx] at h4; cases h4
      | list l => rw [hx] at hl; simp only [It.items, List.append_nil] at hl; rw [hl]; rfl
    have hw : rdWhole bs = (0, hdrI t) := by rw [← h3, ← hx]
    have hs := (rdWhole_sound bs _ hw).1
    have he : hdrOf (rdWhole bs).2.items = t := by rw [hl]; exact hdrOf_hdrI t ho []
    rw [if_pos ⟨h3, h5, by rw [he, hdrBytes_eq t ho]; exact hs.symm⟩, he]
  · rw [if_neg h, if_neg]
    rintro ⟨h1, h2, h3⟩
    apply h
    have ho := hdrOf_ok (rdWhole bs).2.items
    obtain ⟨t, ht⟩ : ∃ t, t = hdrOf (rdWhole bs).2.items := ⟨_, rfl⟩
    rw [← ht] at ho h3
    rw [hdrBytes_eq t ho] at h3
    have hb := rdWhole_back _ (hdr_fits t ho)
    rw [h3] at hb
    have e : rHdr (hdrI t).items true = (t, true) := by have := rHdr_hdrI t ho []; rwa [List.append_nil] at this
    constructor
    · simp [rOpen, hb, hdrI, It.isList, It.items]
    · simp only [rOpen, hb, e]
theorem hdrDecode_back (h : Hdr) (ho : h.ok) : hdrDecode (hdrBytes h) = (h, 0) := by
  have hb := rdWhole_back _ (hdr_fits h ho)
  rw [← hdrBytes_eq h ho] at hb
  have e : rHdr (hdrI h).items true = (h, true) := by have := rHdr_hdrI h ho []; rwa [List.append_nil] at this
  unfold hdrDecode
  have e2 : rOpen (hdrBytes h) 7 = ((hdrI h).items, true) := by simp [rOpen, hb, hdrI, It.isList, It.items]
  rw [e2]
  simp only [e, and_self, if_true]
theorem hdrDecode_sound (bs : List UInt8) (h : Hdr) (hd : hdrDecode bs = (h, 0)) : hdrBytes h = bs := by
  rw [hdrDecode_eq] at hd
  unfold refHdrDecode at hd
  split at hd
  · rename_i x
    simp only [Prod.mk.injEq, and_true] at hd
    rw [← hd]; exact x.2.2
  · simp at hd
end Go.Pg
namespace Go.Pg
open Go.RowKit
/-- a block -/
structure Blk where
  p : List UInt8
  nn : Nat
  bb : Nat
  T : List (List UInt8)
structure Blk.ok (b : Blk) : Prop where
  p : b.p.length = 32
  nn : (b.nn : Int) < 18446744073709551616
  bb : (b.bb : Int) < 18446744073709551616
def Blk.item (b : Blk) : It := blkI b.p b.nn b.bb b.T
def Blk.enc (b : Blk) : List UInt8 × Nat := blkEncode b.p b.nn b.bb b.T
def blk0 : Blk := ⟨List.replicate 32 0, 0, 0, []⟩
theorem blk0_ok : blk0.ok := ⟨rfl, by decide, by decide⟩
def rBlk (l : List It) : (List UInt8 × Nat × Nat) × Bool :=
  let r1 := rDig l true
  let r2 := rWord r1.2.1 r1.2.2
  let r3 := rWord r2.2.1 r2.2.2
  ((r1.1, r2.1, r3.1), r3.2.2)
def blkDecode (bs : List UInt8) : Blk × Nat :=
  if (rOpen bs 4).2 = true ∧ ((rOpen bs 4).1.getD 3 (.text [])).isList = true ∧ (rBlk (rOpen bs 4).1).2 = true ∧ flat ((rOpen bs 4).1.getD 3 (.text [])).items = true then
    (⟨(rBlk (rOpen bs 4).1).1.1, (rBlk (rOpen bs 4).1).1.2.1, (rBlk (rOpen bs 4).1).1.2.2, ((rOpen bs 4).1.getD 3 (.text [])).items.map It.bytes⟩, 0)
  else (blk0, 190)
def blkOf (l : List It) : Blk := ⟨fit32 (itB l 0), (readWord (itB l 1)).1, (readWord (itB l 2)).1, (l.getD 3 (.text [])).items.map It.bytes⟩
def refBlkDecode (bs : List UInt8) : Blk × Nat :=
  if (rdWhole bs).1 = 0 ∧ (rdWhole bs).2.items.length = 4 ∧ (blkOf (rdWhole bs).2.items).enc = (bs, 0) then (blkOf (rdWhole bs).2.items, 0) else (blk0, 190)
theorem blkOf_ok (l : List It) : (blkOf l).ok := ⟨fit32_length _, readWord_lt _, readWord_lt _⟩
theorem rBlk_item (b : Blk) (ho : b.ok) : rBlk b.item.items = ((b.p, b.nn, b.bb), true) := by
  obtain ⟨p, nn, bb, T⟩ := b
  obtain ⟨o1, o2, o3⟩ := ho
  simp only at o1 o2 o3
  simp [rBlk, Blk.item, blkI, It.items, rDig, rWord, rText, fit32_id _ o1, readWord_wordB _ o2, readWord_wordB _ o3, o1]
theorem textsI_items (T : List (List UInt8)) : (textsI T).items = T.map .text := rfl
theorem bytes_of_texts (T : List (List UInt8)) : (T.map It.text).map It.bytes = T := by
  rw [List.map_map]
  conv => rhs; rw [← List.map_id T]
  exact List.map_congr_left fun y _ => rfl
theorem blkOf_item (b : Blk) (ho : b.ok) : blkOf b.item.items = b := by
  obtain ⟨p, nn, bb, T⟩ := b
  obtain ⟨o1, o2, o3⟩ := ho
  simp only at o1 o2 o3
  have hT := bytes_of_texts T
  simp only [blkOf, Blk.item, blkI, It.items, itB, List.getD_cons_zero, List.getD_cons_succ, It.bytes, fit32_id _ o1, readWord_wordB _ o2, readWord_wordB _ o3, textsI, hT]
theorem flat_texts (T : List (List UInt8)) : flat (T.map It.text) = true := by
  unfold flat; rw [List.all_eq_true]; intro x hx
  simp only [List.mem_map] at hx
  obtain ⟨y, -, rfl⟩ := hx
  rfl
theorem rBlk_true (l : List It) (h : (rBlk l).2 = true) (hl : l.length = 4) (h3 : (l.getD 3 (.text [])).isList = true) (hf : flat (l.getD 3 (.text [])).items = true) :
    ∃ b : Blk, b.ok ∧ l = b.item.items := by
  unfold rBlk at h
  simp only at h
  obtain ⟨k2, bb, q3, e3, l3, r3⟩ := rWord_true _ _ h
  obtain ⟨k1, nn, q2, e2, l2, r2⟩ := rWord_true _ _ k2
  obtain ⟨-, p, q1, e1, l1, r1⟩ := rDig_true _ _ k1
  rw [r2] at e3; rw [r1] at e2
  simp only at e2 e3
  rw [e2, e3] at e1
  subst e1
  match q3, hl, h3, hf with
  | [.list its], _, _, hf =>
    simp only [List.getD_cons_succ, List.getD_cons_zero, It.items] at hf
    have ht := texts_of_flat its hf
    refine ⟨⟨p, nn, bb, its.map It.bytes⟩, ⟨l1, l2, l3⟩, ?_⟩
    simp only [Blk.item, blkI, It.items, textsI, ht]
  | [.text t], _, h3, _ => simp [It.isList] at h3
  | [], hl, _, _ => simp at hl
  | _ :: _ :: _, hl, _, _ => simp at hl
theorem blk_enc_of (b : Blk) (bs : List UInt8) (h : It.fits 8 b.item) (hb : bs = b.item.enc) : b.enc = (bs, 0) := by
  have he := encode_ok _ h
  unfold Blk.enc blkEncode
  unfold Blk.item at he hb
  rw [he, if_pos rfl, hb]
theorem blk_of_enc (b : Blk) (bs : List UInt8) (h : b.enc = (bs, 0)) : It.fits 8 b.item ∧ bs = b.item.enc := by
  unfold Blk.enc blkEncode at h
  split at h
  · rename_i h0
    have hf := encode_fits _ h0
    have he := encode_ok _ hf
    rw [he] at h
    simp only [Prod.mk.injEq, and_true] at h
    exact ⟨hf, h.symm⟩
  · simp at h
theorem blkDecode_of (b : Blk) (ho : b.ok) (bs : List UInt8) (h : rdWhole bs = (0, b.item)) : blkDecode bs = (b, 0) := by
  have e1 : rOpen bs 4 = (b.item.items, true) := by simp [rOpen, h, Blk.item, blkI, It.isList, It.items]
  have e2 : b.item.items.getD 3 (.text []) = textsI b.T := rfl
  unfold blkDecode
  rw [e1]
  simp only [rBlk_item b ho, e2]
  rw [if_pos ⟨trivial, rfl, trivial, by rw [textsI_items]; exact flat_texts _⟩, textsI_items, bytes_of_texts]
theorem blkDecode_eq (bs : List UInt8) : blkDecode bs = refBlkDecode bs := by
  by_cases h : (rdWhole bs).1 = 0 ∧ (rdWhole bs).2.items.length = 4 ∧ (blkOf (rdWhole bs).2.items).enc = (bs, 0)
  · unfold refBlkDecode
    rw [if_pos h]
    obtain ⟨-, -, h3⟩ := h
    obtain ⟨g1, g2⟩ := blk_of_enc _ _ h3
    refine blkDecode_of _ (blkOf_ok _) bs ?_
    have := rdWhole_back _ g1
    rw [← g2] at this
    exact this
  · unfold refBlkDecode
    rw [if_neg h]
    unfold blkDecode
    rw [if_neg]
    rintro ⟨h1, h2, h3, h4⟩
    apply h
    simp only [rOpen, Bool.and_eq_true, decide_eq_true_eq] at h1
    obtain ⟨⟨g1, g2⟩, g3⟩ := h1
    obtain ⟨b, ho, hl⟩ := rBlk_true _ h3 g3 h2 h4
    simp only [rOpen] at hl
    have hx : (rdWhole bs).2 = b.item := by
      cases hx : (rdWhole bs).2 with
      | text t => rw [hx] at g2; cases g2
      | list l => rw [hx] at hl; simp only [It.items] at hl; rw [hl]; rfl
    have hs := rdWhole_sound bs b.item (by rw [← g1, ← hx])
    refine ⟨g1, g3, ?_⟩
    rw [hx, blkOf_item b ho]
    exact blk_enc_of b bs hs.2 hs.1
theorem blkDecode_ok (bs : List UInt8) : (blkDecode bs).1.ok := by
  rw [blkDecode_eq]; unfold refBlkDecode
  split
  · exact blkOf_ok _
  · exact blk0_ok
theorem blkDecode_back (b : Blk) (ho : b.ok) (bs : List UInt8) (h : b.enc = (bs, 0)) : blkDecode bs = (b, 0) := by
  obtain ⟨g1, g2⟩ := blk_of_enc _ _ h
  refine blkDecode_of b ho bs ?_
  rw [g2]; exact rdWhole_back _ g1
theorem blkDecode_sound (bs : List UInt8) (b : Blk) (h : blkDecode bs = (b, 0)) : b.enc = (bs, 0) := by
  rw [blkDecode_eq] at h
  unfold refBlkDecode at h
  split at h
  · rename_i x
    simp only [Prod.mk.injEq, and_true] at h
    rw [← h]; exact x.2.2
  · simp at h
end Go.Pg
namespace Go.Pg
open Go.RowKit
/-- what has been read of a list of texts, and what is left -/
structure TxData (L rem : List It) (ok : Bool) (T : List (List UInt8)) : Prop where
  good : ok = true → L = T.map .text ++ rem
  bad : ok = false → flat L = false ∧ rem ≠ []
  sum : T.length + (rem.length + ok.toNat) = L.length + 1
theorem TxData.start (L : List It) : TxData L L true [] := ⟨fun _ => rfl, (fun h => by cases h), by simp⟩
theorem TxData.next {L rem : List It} {T : List (List UInt8)} (h : TxData L rem true T) (hr : rem ≠ []) :
    TxData L (rText rem true).2.1 (rText rem true).2.2 (T ++ [(rText rem true).1]) := by
  have hg := h.good rfl
  have hs := h.sum
  match rem, hr with
  | .text b :: r, _ =>
    simp only [rText]
    refine ⟨fun _ => by rw [hg]; simp, fun x => (by cases x), ?_⟩
    simp at hs ⊢; omega
  | .list x :: r, _ =>
    simp only [rText]
    refine ⟨fun x => (by cases x), fun _ => ⟨?_, by simp⟩, ?_⟩
    · rw [hg]; simp [flat, It.isList]
    · simp at hs ⊢; omega
theorem TxData.all {L : List It} {ok : Bool} {T : List (List UInt8)} (h : TxData L [] ok T) : ok = true ∧ flat L = true ∧ L.map It.bytes = T := by
  cases ok with
  | false => exact absurd rfl (h.bad rfl).2
  | true =>
    have hg := h.good rfl
    rw [List.append_nil] at hg
    refine ⟨rfl, by rw [hg]; exact flat_texts T, by rw [hg]; exact bytes_of_texts T⟩
theorem rOpen_len (bs : List UInt8) (many : Nat) (h : (rOpen bs many).2 = true) : (rOpen bs many).1.length = many := by
  simp only [rOpen, Bool.and_eq_true, decide_eq_true_eq] at h ⊢
  exact h.2
theorem whole_le_mem (l : List It) (x : It) (h : x ∈ l) : x.whole ≤ It.wholes l := by
  induction l with
  | nil => cases h
  | cons y r ih =>
    simp only [It.wholes]
    rcases List.mem_cons.1 h with rfl | h
    · omega
    · have := ih h; omega
theorem items_le_whole (x : It) : x.items.length ≤ x.whole := by
  have h1 := It.length_le_wholes x.items
  have h2 := It.body_le_whole x
  have h3 := It.body_eq x
  omega
theorem rOpen_small (bs : List UInt8) (many : Nat) (h : (rOpen bs many).2 = true) (x : It) (hx : x ∈ (rOpen bs many).1) : x.items.length ≤ 16777215 := by
  simp only [rOpen, Bool.and_eq_true, decide_eq_true_eq] at h hx
  obtain ⟨⟨g1, -⟩, -⟩ := h
  have h1 := read_items_small bs g1
  have h2 := items_le_whole x
  have h3 := whole_le_mem _ _ hx
  omega
theorem blkCells_size (p : List UInt8) (n b : Nat) (v : Value) (hp : p.length = 32) : (blkCells p n b v).size = 35 := by
  simp [blkCells, cellsL_length, hp]
theorem blkCells_set (p : List UInt8) (n b : Nat) (v v' : Value) (hp : p.length = 32) : (blkCells p n b v).setIfInBounds 34 v' = blkCells p n b v' := by
  have hl : (cellsL p).length = 32 := by rw [cellsL_length, hp]
  unfold blkCells
  rw [List.setIfInBounds_toArray]
  congr 1
  rw [List.set_append_right _ _ (by omega), hl]
  rfl
theorem blkCells_one (p : List UInt8) (n b : Nat) (a : Option Addr) (m c : Nat) : (blkCells p n b (.slice a m c)).all (·.oneCell') = true := by
  apply Array.all_eq_true_iff_forall_mem.2
  intro u hu
  simp only [blkCells, cellsL, List.mem_toArray, List.mem_append, List.mem_map, List.mem_cons, List.not_mem_nil, or_false] at hu
  rcases hu with ⟨x, -, rfl⟩ | rfl | rfl | rfl <;> rfl
section
variable {P : Program}
/-- the laws of whole rows, their facts on the frame asked behind the operation's shape -/
theorem wpL_store_row {ops : Array Oper} {rest : List Oper} {o : Oper} {a : Act} {w : World} {Q : Exit → Act → World → Prop} (ty : TypeId) (x y : Operand) (g : Nat) (cells : Array Value) (t : TypeId) (old : Array Value)
    (hc : o.guard = none ∧ o.op = .store ty x y ∧ a.eval x = .pointer (some ⟨g, 0, none⟩) ∧ a.eval y = .agg cells)
    (hf : w.heap[g]? = some (.cells old t (0, 0)) ∧ (P.info? ty).map (·.size) = some cells.size ∧ old.size = cells.size ∧ cells.all (·.oneCell') = true)
    (h : wpList P ops Q rest (a.put o.dst undef) (w.setRow g cells)) : wpList P ops Q (o :: rest) a w :=
  wpList_store_row hc.1 ty x y hc.2.1 g cells hc.2.2.1 hc.2.2.2 t old hf.1 hf.2.1 hf.2.2.1 hf.2.2.2 h
theorem wpL_load_row {ops : Array Oper} {rest : List Oper} {o : Oper} {a : Act} {w : World} {Q : Exit → Act → World → Prop} (ty : TypeId) (x : Operand) (g : Nat) (cs : Array Value) (t : TypeId) (d : TypeDesc)
    (hc : o.guard = none ∧ o.op = .load ty x ∧ a.eval x = .pointer (some ⟨g, 0, none⟩))
    (hf : w.heap[g]? = some (.cells cs t (0, 0)) ∧ P.underlying ty = some d ∧ (match d with | .struct _ | .array _ _ => true | _ => false) = true ∧ (P.info? ty).map (·.size) = some cs.size)
    (h : wpList P ops Q rest (a.put o.dst (.agg cs)) w) : wpList P ops Q (o :: rest) a w :=
  wpList_load_row hc.1 ty x hc.2.1 g hc.2.2 t cs (0, 0) d hf.1 hf.2.1 (by have := hf.2.2.1; cases d <;> exact this) hf.2.2.2 h
theorem wpL_build_to {ops : Array Oper} {rest : List Oper} {o : Oper} {a : Act} {w : World} {Q : Exit → Act → World → Prop} (t : TypeId) (parts : Array (Nat × Operand)) (vs : List (Nat × Value)) (cells : Array Value)
    (hc : o.guard = none ∧ o.op = .build t parts ∧ (parts.map fun (i, x) => (i, a.eval x)).toList = vs) (hb : P.built t vs = some cells)
    (h : wpList P ops Q rest (a.put o.dst (.agg cells)) w) : wpList P ops Q (o :: rest) a w :=
  wpList_build_to hc.1 t parts hc.2.1 vs hc.2.2 cells hb h
end
theorem rBlk_ok (l : List It) : (rBlk l).1.1.length = 32 ∧ ((rBlk l).1.2.1 : Int) < 18446744073709551616 ∧ ((rBlk l).1.2.2 : Int) < 18446744073709551616 :=
  ⟨fit32_length _, readWord_lt _, readWord_lt _⟩
end Go.Pg
namespace Go.Proofs.Ytndkkgkcbbmnpaa
open Go.RowKit Go.Pg
theorem builtBlk (parts : List (Nat × Value)) : Try.prog.built 40 parts = Instr.fill (#[(0, 32), (32, 1), (33, 1), (34, 1)][·]?) (blkCells (List.replicate 32 0) 0 0 (.slice none 0 0)) parts := by kernel_rfl
theorem builtBlkOf (p : List UInt8) (nn bb : Nat) (hp : p.length = 32) : Try.prog.built 40 [(0, .agg (cellsOf p)), (1, .int .u64 nn), (2, .int .u64 bb)] = some (blkCells p nn bb (.slice none 0 0)) := by
  have l0 : (cellsL p).length = 32 := by rw [cellsL_length, hp]
  have z0 : (cellsL (List.replicate 32 0)).length = 32 := by rw [cellsL_length]; simp
  rw [builtBlk]
  obtain ⟨Z, hZ⟩ : ∃ Z, Z = cellsL (List.replicate 32 0) := ⟨_, rfl⟩
  have hz : blkCells (List.replicate 32 0) 0 0 (.slice none 0 0) = (Z ++ [Value.int .u64 0] ++ [Value.int .u64 0] ++ [Value.slice none 0 0]).toArray := by rw [hZ]; rfl
  have hh : blkCells p nn bb (.slice none 0 0) = (cellsL p ++ [Value.int .u64 (nn : Int)] ++ [Value.int .u64 (bb : Int)] ++ [Value.slice none 0 0]).toArray := by unfold blkCells; simp
  rw [← hZ] at z0
  rw [hz, hh]
  obtain ⟨A, hA⟩ : ∃ A, A = cellsL p := ⟨_, rfl⟩
  have eA : cellsOf p = A.toArray := by rw [hA]; rfl
  rw [eA, ← hA]
  rw [← hA] at l0
  have s1 := fill_one (#[(0, 32), (32, 1), (33, 1), (34, 1)][·]?) 0 0 A [] Z ([Value.int .u64 0] ++ [Value.int .u64 0] ++ [Value.slice none 0 0]) [(1, .int .u64 nn), (2, .int .u64 bb)] (by rw [l0]; rfl) rfl (by omega)
  have s2 := fill_int (#[(0, 32), (32, 1), (33, 1), (34, 1)][·]?) 1 32 .u64 nn (.int .u64 0) A ([Value.int .u64 0] ++ [Value.slice none 0 0]) [(2, .int .u64 bb)] rfl l0
  have s3 := fill_int (#[(0, 32), (32, 1), (33, 1), (34, 1)][·]?) 2 33 .u64 bb (.int .u64 0) (A ++ [Value.int .u64 (nn : Int)]) [Value.slice none 0 0] [] rfl (by simp [l0])
  simp only [List.nil_append, List.append_assoc] at s1 s2 s3 ⊢
  rw [s1, s2, s3]
  rfl
theorem underlyingBlk : ∃ fs, Try.prog.underlying 40 = some (.struct fs) := ⟨_, Try.underlying40⟩
theorem infoBlk : (Try.prog.info? 40).map (·.size) = some 35 := by kernel_rfl

/-- a block is told, or an empty one and a fault -/
def BlkD (w : World) (r : Blk × Nat) (e : Ending) (w' : World) : Prop :=
  ∃ a n c, e = .returned (.tuple #[.agg (blkCells r.1.p r.1.nn r.1.bb (.slice a n c)), .int .i64 (r.2 : Int)]) ∧ RowsAt (fresh w) w' (.slice a n c) r.1.T ∧ Below w.heap.size w w'

/-- the transactions are being read -/
structure TxSt (G : Nat → Prop) (w : World) (ZR : Array Value) (N rb tb bx : Nat) (x3 : Value) (k3 : Bool) (p : List UInt8) (nn bb : Nat) (L : List It) (wr : World) (rem : List It) (ok : Bool) (T : List (List UInt8)) (v : Value) : Prop where
  bel : Below w.heap.size w wr
  zero : wr.heap[w.heap.size]? = some (.cells ZR 40 (0, 0))
  rd : wr.heap[rb]? = some (.cells #[x3, .bool k3] 78 (0, 0))
  tx : RdrAt G wr 7 tb (rem, ok)
  box : wr.heap[bx]? = some (.cells (blkCells p nn bb v) 40 (0, 0))
  own : OwnList rowR G N wr 25 1 v T
  data : TxData L rem ok T
  foot : ∀ b, G b → w.heap.size < b ∧ b < N ∧ b ≠ tb ∧ b ≠ bx ∧ b ≠ rb
  place : w.heap.size < rb ∧ w.heap.size < tb ∧ w.heap.size < bx ∧ rb < N ∧ tb < N ∧ bx < N ∧ rb ≠ tb ∧ bx ≠ rb ∧ bx ≠ tb
  len : p.length = 32
  size : N ≤ wr.heap.size
theorem TxSt.push {G : Nat → Prop} {w : World} {ZR : Array Value} {N rb tb bx : Nat} {x3 : Value} {k3 : Bool} {p : List UInt8} {nn bb : Nat} {L : List It} {wr : World} {rem : List It} {T : List (List UInt8)} {v : Value}
    (h : TxSt G w ZR N rb tb bx x3 k3 p nn bb L wr rem true T v) (hr : rem ≠ []) {w5 : World} {a : Option Addr} {n c : Nat}
    (k1 : BytesAt G w5 (.slice a n c) (rText rem true).1) (k2 : RdrAt G w5 7 tb (rText rem true).2) (k3' : Chg (fun k => k = tb) wr.drew w5) :
    ∃ R : List Value → List UInt8 → Prop, (∀ cs x, R cs x → ∀ u ∈ cs, u.oneCell' = true) ∧ OwnAt (w5.alloc (.cells #[.slice a n c] 25)) N 25 1 R v T ∧
      SliceAt (fun _ => True) (w5.alloc (.cells #[.slice a n c] 25)) 1 R (.slice (some ⟨w5.heap.size, 0, none⟩) 1 1) [(rText rem true).1] ∧
      N ≤ w5.heap.size ∧ w5.heap[bx]? = some (.cells (blkCells p nn bb v) 40 (0, 0)) ∧
      ∀ g cap n' W2, OwnAt W2 N 25 1 R (.slice (some ⟨g, 0, none⟩) n' cap) (T ++ [(rText rem true).1]) → (w5.alloc (.cells #[.slice a n c] 25)).grownBy W2 v.ownBlock →
        Moved (w5.alloc (.cells #[.slice a n c] 25)) v (.slice (some ⟨g, 0, none⟩) n' cap) →
        W2.heap[bx]? = some (.cells (blkCells p nn bb v) 40 (0, 0)) ∧
        TxSt G w ZR N rb tb bx x3 k3 p nn bb L (W2.setCell ⟨bx, 34, none⟩ (.slice (some ⟨g, 0, none⟩) n' cap)) (rText rem true).2.1 (rText rem true).2.2 (T ++ [(rText rem true).1]) (.slice (some ⟨g, 0, none⟩) n' cap) := by
  obtain ⟨p1, p2, p3, p4, p5, p6, p7, p8, p9⟩ := h.place
  have hbx := (Array.getElem?_eq_some_iff.1 h.box).1
  have hrb := (Array.getElem?_eq_some_iff.1 h.rd).1
  have hzz := (Array.getElem?_eq_some_iff.1 h.zero).1
  have hsz := k3'.size
  simp only [World.size_drew] at hsz
  have hblk : ∀ k, k < wr.heap.size → k ≠ tb → w5.heap[k]? = wr.heap[k]? := fun k hk hn => k3'.block k hk hn
  have hown := h.own.own
  have hsN := h.size
  have htbl : tb < w5.heap.size := by obtain ⟨_, _, _, _, hk⟩ := k2; exact (Array.getElem?_eq_some_iff.1 hk).1
  have ho5 : OwnList rowR G N w5 25 1 v T := h.own.carry carriedRow hsz (fun b hb hlt => hblk b hlt (h.foot b hb).2.2.1) (fun g hg => hblk g (hown g hg).2 (by have := (hown g hg).1; omega))
  have hbox5 := (hblk bx hbx p9).trans h.box
  have hb5 : Below w.heap.size w w5 := (Below.drew h.bel).trans (k3'.toBelowAt (by simp only [World.size_drew]; omega) (fun k hk e => by omega))
  obtain ⟨R, g1, g2, g3, g4⟩ := ho5.push carriedRow (H := G) (cs := [.slice a n c]) (x := (rText rem true).1) ⟨_, rfl, k1⟩ rfl (by decide) (fun b _ hb => ⟨hb, fun e => by have := (hown b e).1; have := (h.foot b hb).2.1; omega⟩) 25
  refine ⟨R, g1, g2, g3, by omega, hbox5, fun g cap n' W2 ho hg hm => ?_⟩
  have hOn := g4 _ W2 ho hg hm
  have hnew := hOn.own
  have hsg := hg.size
  simp only [World.size_alloc] at hsg
  have hW2 : ∀ k, k < w5.heap.size → k < N → W2.heap[k]? = w5.heap[k]? := fun k hk hN => by
    rw [hg.block k (by simp; omega) (fun e => by have := (hown k e.symm).1; omega)]
    exact Below.heap_alloc _ _ _ hk
  have hset : ∀ k, k < w5.heap.size → k < N → k ≠ bx → (W2.setCell ⟨bx, 34, none⟩ (.slice (some ⟨g, 0, none⟩) n' cap)).heap[k]? = w5.heap[k]? := fun k hk hN hn => by
    rw [Below.heap_setCell _ _ _ _ hn]; exact hW2 k hk hN
  have hboxW2 := (hW2 bx (by omega) p6).trans hbox5
  have hbW2 : Below w.heap.size w W2 := (Below.alloc hb5 hb5.size _).grown hg (by simp; omega) (fun k hk => by have := (hown k hk).1; omega)
  refine ⟨hboxW2, ⟨hbW2.setCell (by show w.heap.size ≤ bx; omega) _, ?_, ?_, ?_, ?_, ?_, h.data.next hr, h.foot, h.place, h.len, by simp [World.setCell]; omega⟩⟩
  · rw [hset _ (by omega) (by omega) (by omega), hblk _ hzz (by omega)]; exact h.zero
  · rw [hset _ (by omega) (by omega) (by omega), hblk _ hrb p7]; exact h.rd
  · exact k2.carry (fun b hb hlt => hset b hlt (h.foot b hb).2.1 (h.foot b hb).2.2.2.1) (hset _ htbl p5 (by omega))
  · have := blk_set (i := 34) (v := .slice (some ⟨g, 0, none⟩) n' cap) hboxW2
    rw [blkCells_set _ _ _ _ _ h.len] at this
    exact this
  · exact hOn.carry carriedRow (by simp) (fun b hb hlt => Below.heap_setCell _ _ _ _ (h.foot b hb).2.2.2.1) (fun g' hg' => Below.heap_setCell _ _ _ _ (by have := (hnew g' hg').1; show g' ≠ bx; omega))
end Go.Proofs.Ytndkkgkcbbmnpaa
namespace Go.Proofs.Ytndkkgkcbbmnpaa
open Go.Shelf
def saSort_ren : Go.Shelf.Ren := ⟨fun | 6 => 87 | 10 => 102 | 11 => 103 | 12 => 104 | 13 => 105 | 14 => 106 | 24 => 124 | 25 => 125 | 26 => 126 | 27 => 127 | 28 => 128 | 29 => 129 | 30 => 130 | 31 => 131 | 32 => 132 | 33 => 133 | 34 => 134 | 35 => 135 | 36 => 136 | 37 => 137 | 38 => 138 | 39 => 139 | n => n, fun | 20 => 20 | 26 => 111 | 35 => 130 | 0 => 0 | 37 => 132 | 3 => 3 | 41 => 136 | 44 => 139 | 49 => 150 | 51 => 38 | 4 => 4 | 54 => 154 | 53 => 153 | 58 => 144 | 5 => 5 | 9 => 9 | 60 => 159 | 64 => 162 | 66 => 164 | 67 => 165 | 17 => 17 | 32 => 127 | 33 => 128 | 82 => 180 | 12 => 12 | 75 => 173 | 76 => 174 | 77 => 175 | 78 => 176 | 79 => 177 | 80 => 178 | n => n, fun | n => n⟩
theorem saSort : Go.Proofs.LaysGg.n6 Try.prog saSort_ren := {
  mixed := by kernel_rfl
  f6 := Try.func87.trans (congrArg some (by kernel_rfl))
  f10 := Try.func102.trans (congrArg some (by kernel_rfl))
  f11 := Try.func103.trans (congrArg some (by kernel_rfl))
  f12 := Try.func104.trans (congrArg some (by kernel_rfl))
  f13 := Try.func105.trans (congrArg some (by kernel_rfl))
  f14 := Try.func106.trans (congrArg some (by kernel_rfl))
  f24 := Try.func124.trans (congrArg some (by kernel_rfl))
  f25 := Try.func125.trans (congrArg some (by kernel_rfl))
  f26 := Try.func126.trans (congrArg some (by kernel_rfl))
  f27 := Try.func127.trans (congrArg some (by kernel_rfl))
  f28 := Try.func128.trans (congrArg some (by kernel_rfl))
  f29 := Try.func129.trans (congrArg some (by kernel_rfl))
  f30 := Try.func130.trans (congrArg some (by kernel_rfl))
  f31 := Try.func131.trans (congrArg some (by kernel_rfl))
  f32 := Try.func132.trans (congrArg some (by kernel_rfl))
  f33 := Try.func133.trans (congrArg some (by kernel_rfl))
  f34 := Try.func134.trans (congrArg some (by kernel_rfl))
  f35 := Try.func135.trans (congrArg some (by kernel_rfl))
  f36 := Try.func136.trans (congrArg some (by kernel_rfl))
  f37 := Try.func137.trans (congrArg some (by kernel_rfl))
  f38 := Try.func138.trans (congrArg some (by kernel_rfl))
  f39 := Try.func139.trans (congrArg some (by kernel_rfl))
  t0 := Try.underlying0
  a0 := Try.isAgg0
  z0 := Try.sizeOf0
  v0 := Try.zeroValue0
  i0 := by kernel_rfl
  t3 := Try.underlying3
  a3 := Try.isAgg3
  z3 := Try.sizeOf3
  v3 := Try.zeroValue3
  i3 := by kernel_rfl
  t4 := Try.underlying4
  a4 := Try.isAgg4
  z4 := Try.sizeOf4
  v4 := Try.zeroValue4
  i4 := by kernel_rfl
  t5 := Try.underlying5
  a5 := Try.isAgg5
  z5 := Try.sizeOf5
  v5 := Try.zeroValue5
  i5 := by kernel_rfl
  t9 := Try.underlying9
  a9 := Try.isAgg9
  z9 := Try.sizeOf9
  v9 := Try.zeroValue9
  i9 := by kernel_rfl
  t12 := Try.underlying12
  a12 := Try.isAgg12
  z12 := Try.sizeOf12
  v12 := Try.zeroValue12
  i12 := by kernel_rfl
  t17 := Try.underlying17
  a17 := Try.isAgg17
  z17 := Try.sizeOf17
  v17 := Try.zeroValue17
  i17 := by kernel_rfl
  t20 := Try.underlying20
  a20 := Try.isAgg20
  z20 := Try.sizeOf20
  v20 := Try.zeroValue20
  i20 := by kernel_rfl
  t26 := Try.underlying111
  a26 := Try.isAgg111
  z26 := Try.sizeOf111
  v26 := Try.zeroValue111
  i26 := by kernel_rfl
  t32 := Try.underlying127
  a32 := Try.isAgg127
  z32 := Try.sizeOf127
  v32 := Try.zeroValue127
  i32 := by kernel_rfl
  t33 := Try.underlying128
  a33 := Try.isAgg128
  z33 := Try.sizeOf128
  v33 := Try.zeroValue128
  i33 := by kernel_rfl
  t35 := Try.underlying130
  a35 := Try.isAgg130
  z35 := Try.sizeOf130
  v35 := Try.zeroValue130
  i35 := by kernel_rfl
  t37 := Try.underlying132
  a37 := Try.isAgg132
  z37 := Try.sizeOf132
  v37 := Try.zeroValue132
  i37 := by kernel_rfl
  t41 := Try.underlying136
  a41 := Try.isAgg136
  z41 := Try.sizeOf136
  v41 := Try.zeroValue136
  i41 := by kernel_rfl
  t44 := Try.underlying139
  a44 := Try.isAgg139
  z44 := Try.sizeOf139
  v44 := Try.zeroValue139
  i44 := by kernel_rfl
  t49 := Try.underlying150
  a49 := Try.isAgg150
  z49 := Try.sizeOf150
  v49 := Try.zeroValue150
  i49 := by kernel_rfl
  t51 := Try.underlying38
  a51 := Try.isAgg38
  z51 := Try.sizeOf38
  v51 := Try.zeroValue38
  i51 := by kernel_rfl
  t53 := Try.underlying153
  a53 := Try.isAgg153
  z53 := Try.sizeOf153
  v53 := Try.zeroValue153
  i53 := by kernel_rfl
  t54 := Try.underlying154
  a54 := Try.isAgg154
  z54 := Try.sizeOf154
  v54 := Try.zeroValue154
  i54 := by kernel_rfl
  t58 := Try.underlying144
  a58 := Try.isAgg144
  z58 := Try.sizeOf144
  v58 := Try.zeroValue144
  i58 := by kernel_rfl
  t60 := Try.underlying159
  a60 := Try.isAgg159
  z60 := Try.sizeOf159
  v60 := Try.zeroValue159
  i60 := by kernel_rfl
  t64 := Try.underlying162
  a64 := Try.isAgg162
  z64 := Try.sizeOf162
  v64 := Try.zeroValue162
  i64 := by kernel_rfl
  t66 := Try.underlying164
  a66 := Try.isAgg164
  z66 := Try.sizeOf164
  v66 := Try.zeroValue164
  i66 := by kernel_rfl
  t67 := Try.underlying165
  a67 := Try.isAgg165
  z67 := Try.sizeOf165
  v67 := Try.zeroValue165
  i67 := by kernel_rfl
  t75 := Try.underlying173
  a75 := Try.isAgg173
  z75 := Try.sizeOf173
  v75 := Try.zeroValue173
  i75 := by kernel_rfl
  t76 := Try.underlying174
  a76 := Try.isAgg174
  z76 := Try.sizeOf174
  v76 := Try.zeroValue174
  i76 := by kernel_rfl
  t77 := Try.underlying175
  a77 := Try.isAgg175
  z77 := Try.sizeOf175
  v77 := Try.zeroValue175
  i77 := by kernel_rfl
  t78 := Try.underlying176
  a78 := Try.isAgg176
  z78 := Try.sizeOf176
  v78 := Try.zeroValue176
  i78 := by kernel_rfl
  t79 := Try.underlying177
  a79 := Try.isAgg177
  z79 := Try.sizeOf177
  v79 := Try.zeroValue177
  i79 := by kernel_rfl
  t80 := Try.underlying178
  a80 := Try.isAgg178
  z80 := Try.sizeOf178
  v80 := Try.zeroValue178
  i80 := by kernel_rfl
  t82 := Try.underlying180
  a82 := Try.isAgg180
  z82 := Try.sizeOf180
  v82 := Try.zeroValue180
  i82 := by kernel_rfl }
end Go.Proofs.Ytndkkgkcbbmnpaa
namespace Go.Pg
open Go.RowKit
theorem lt_cmp : ∀ x y : List UInt8, decide (Lib.compareBytes x y < 0) = decide (x < y)
  | [], [] => by simp [Lib.compareBytes]
  | [], _ :: _ => by simp [Lib.compareBytes]
  | _ :: _, [] => by simp [Lib.compareBytes]
  | a :: r, b :: q => by
    have ih := lt_cmp r q
    simp only [Lib.compareBytes, List.cons_lt_cons_iff]
    by_cases h1 : a < b
    · simp [h1]
    · by_cases h2 : b < a
      · have h3 : a ≠ b := fun e => by subst e; exact h1 h2
        simp [h1, h2, h3]
      · have h3 : a = b := by
          have h4 : a.toNat = b.toNat := by
            have g1 : ¬ a.toNat < b.toNat := fun h => h1 (UInt8.lt_iff_toNat_lt.2 h)
            have g2 : ¬ b.toNat < a.toNat := fun h => h2 (UInt8.lt_iff_toNat_lt.2 h)
            omega
          exact UInt8.toNat_inj.1 h4
        subst h3
        simp only [h1, if_false, false_or, true_and]
        exact ih
end Go.Pg
namespace Go.Proofs.Ytndkkgkcbbmnpaa
open Go.RowKit Go.Pg Go.Shelf Go.Lib Go.Sort

set_option maxRecDepth 100000 in
set_option maxHeartbeats 2000000 in
theorem less_any (F : Nat → Prop) (blk n c Bs : Nat) (W : World) (V : Nat → Value) (G : Nat → List UInt8) (hs : W.cell? ⟨Bs, 0, none⟩ = some (.slice (some ⟨blk, 0, none⟩) n c))
    (hc : ∀ t, t < n → W.cell? ⟨blk, 0 + t, none⟩ = some (V t) ∧ BytesAt F W (V t) (G t)) (i j : Nat) (hi : i < n) (hj : j < n) :
    Calls Try.prog 88 #[.int .i64 i, .int .i64 j, .pointer (some ⟨Bs, 0, none⟩)] W fun e w' => e = .returned (.bool (decide (G i < G j))) ∧ ∃ q, w' = W.drewN q := by
  obtain ⟨ci, ti⟩ := hc i hi
  obtain ⟨cj, tj⟩ := hc j hj
  rw [Nat.zero_add] at ci cj
  obtain ⟨x, hx⟩ : ∃ x, x = G i := ⟨_, rfl⟩
  obtain ⟨y, hy⟩ : ∃ y, y = G j := ⟨_, rfl⟩
  obtain ⟨u, hu⟩ : ∃ u, u = V i := ⟨_, rfl⟩
  obtain ⟨v, hv⟩ : ∃ v, v = V j := ⟨_, rfl⟩
  rw [← hx, ← hy, ← lt_cmp]
  rw [← hu] at ci
  rw [← hv] at cj
  rw [← hu, ← hx] at ti
  rw [← hv, ← hy] at tj
  obtain ⟨q, hq⟩ : ∃ q, q = Lib.compareBytes x y := ⟨_, rfl⟩
  rw [← hq]
  have hi' : (i : Int) < (n : Int) := by omega
  have hj' : (j : Int) < (n : Int) := by omega
  have hi0 : (0 : Int) ≤ (i : Int) := by omega
  have hj0 : (0 : Int) ≤ (j : Int) := by omega
  have HQ := Lib.hid hq
  clear hc hx hy hu hv hq
  go_enter Try.func88, Try.ntmps88
  go_wp2
  go_quiet (((go_at_call 68; exact Calls.quiet_of_same ((compare_any F F _ u v x y (ti.draws _) (tj.draws _)).mono fun _ _ ⟨p, q⟩ => ⟨p, q.symm⟩))))
  rw [← HQ.out]
  go_wp2
  go_ret
  exact ⟨rfl, nq, rfl⟩
end Go.Proofs.Ytndkkgkcbbmnpaa
namespace Go.Pg
open Go.RowKit
/-- what a call has written: one row of its caller's; and it may have drawn -/
theorem heap_sortedN {w : World} {g n : Nat} {os : Array Obj} {cur : Array Value} {e : TypeId} {fr : Nat × Nat} (enc : Nat → Value) (d : Array Nat) (hb : w.heap[g]? = some (.cells cur e fr)) :
    (Sort.grow (Sort.putRow enc (Sort.ahead w n) g 0 d) os).heap[g]? = some (.cells (Sort.putCells enc 0 d cur) e fr) := by
  have hg : g < w.heap.size := (Array.getElem?_eq_some_iff.1 hb).1
  rw [Sort.heap_grow_old _ _ (by simpa using hg)]
  simp [Sort.putRow, Sort.mapBlock, Sort.ahead, Array.getElem?_modify, hb, Sort.onCells]
theorem heap_sortedO {w : World} {g n : Nat} {os : Array Obj} (enc : Nat → Value) (d : Array Nat) (k : Nat) (hk : k < w.heap.size) (hne : k ≠ g) :
    (Sort.grow (Sort.putRow enc (Sort.ahead w n) g 0 d) os).heap[k]? = w.heap[k]? := by
  rw [Sort.heap_grow_old _ _ (by simpa using hk)]
  have : g ≠ k := fun e => hne e.symm
  simp [Sort.putRow, Sort.mapBlock, Sort.ahead, Array.getElem?_modify, this]
theorem take_putCellsN (enc : Nat → Value) (cur : Array Value) (d : Array Nat) (h : d.size ≤ cur.size) : (Sort.putCells enc 0 d cur).toList.take d.size = d.toList.map enc := by
  apply List.ext_getElem?
  intro j
  by_cases hj : j < d.size
  · rw [List.getElem?_take_of_lt hj, Array.getElem?_toList]
    simp [Sort.putCells, hj, show j < cur.size by omega]
  · rw [List.getElem?_take_eq_none (by omega), List.getElem?_eq_none (by simp; omega)]
end Go.Pg
namespace Go.Proofs.Ytndkkgkcbbmnpaa
open Go.RowKit Go.Pg

noncomputable def slT : TypeInfo := (Try.prog.info? 22).get (by kernel_rfl)
noncomputable def slE : TypeInfo := (Try.prog.info? 25).get (by kernel_rfl)
theorem slKind (w : World) : (Extern.Rtype.kind 25).run Try.prog w = .ok 23 w := by kernel_rfl

/-- a slice of the call's own, sorted -/
def Sorted (G : Nat → Prop) (N : Nat) (w : World) (g n c : Nat) (ss : List (List UInt8)) (e : Ending) (w' : World) : Prop :=
  e = .returned (.tuple #[]) ∧ ∃ ts : List (List UInt8), ts.Perm ss ∧ ts.Pairwise (fun x y => ¬ y < x) ∧ OwnList rowR G N w' 25 1 (.slice (some ⟨g, 0, none⟩) n c) ts ∧ Chg (fun k => k = g) w w'

set_option maxRecDepth 100000 in
set_option maxHeartbeats 4000000 in
theorem sort_any (G : Nat → Prop) (N : Nat) (w : World) (g n c Bx : Nat) (ss : List (List UInt8)) (hb : w.heap[Bx]? = some (.cells #[.slice (some ⟨g, 0, none⟩) n c] 22 (0, 0))) (hne : Bx ≠ g)
    (ho : OwnList rowR G N w 25 1 (.slice (some ⟨g, 0, none⟩) n c) ss) (hss : ss.length ≤ 1099511627776) :
    Calls Try.prog 87 #[.iface 22 (.slice (some ⟨g, 0, none⟩) n c), .func (.func 88) #[] #[.pointer (some ⟨Bx, 0, none⟩)]] w (Sorted G N w g n c ss) := by
  obtain ⟨F, h1, h2, xs, ⟨hxl, hown⟩, hrows⟩ := ho
  have hF : ¬ F g := h2 g rfl
  rcases hown with ⟨hnil, -⟩ | ⟨g', cap, cur, hv, hN, hg, hnc, hcm, hcs, htake⟩
  · cases hnil
  simp only [Value.slice.injEq, Option.some.injEq, Addr.mk.injEq, and_true] at hv
  obtain ⟨rfl, rfl, rfl⟩ := hv
  rw [Nat.mul_one] at hxl hcs htake
  obtain ⟨n, hn⟩ : ∃ n, n = ss.length := ⟨_, rfl⟩
  rw [← hn] at hxl hnc htake hb ⊢
  have hglt := (Array.getElem?_eq_some_iff.1 hg).1
  have hblt := (Array.getElem?_eq_some_iff.1 hb).1
  obtain ⟨enc, henc⟩ : ∃ f : Nat → Value, f = fun i => xs.getD i (.slice none 0 0) := ⟨_, rfl⟩
  obtain ⟨Gc, hGc⟩ : ∃ f : Nat → List UInt8, f = fun i => ss.getD i [] := ⟨_, rfl⟩
  have hread : ∀ i, BytesAt F w (enc i) (Gc i) := fun i => by
    rw [henc, hGc]
    dsimp only
    by_cases hi : i < n
    · obtain ⟨cs, k1, ⟨u, rfl, k2⟩, k3⟩ := hrows.2 i ss[i] (by simp)
      have := k3 0 u rfl
      rw [Nat.mul_one, Nat.add_zero] at this
      rw [List.getD_eq_getElem?_getD, this, List.getD_eq_getElem?_getD, List.getElem?_eq_getElem (by omega)]
      exact k2
    · rw [List.getD_eq_getElem?_getD, List.getElem?_eq_none (by omega), List.getD_eq_getElem?_getD, List.getElem?_eq_none (by omega)]
      exact BytesAt.nil _ _
  have hone : ∀ i, (enc i).oneCell' = true := fun i => by
    obtain ⟨a, c, hv, -⟩ := SliceAt.len (hread i)
    rw [hv]; rfl
  have hrd : ∀ (W : World), (∀ k, k < w.heap.size → k ≠ g → W.heap[k]? = w.heap[k]?) → ∀ i, BytesAt F W (enc i) (Gc i) := fun W hW i => BytesAt.carry (hread i) (fun _ _ x => x) (fun b hb hlt => hW b hlt (fun e => hF (e ▸ hb)))
  by_cases h2n : 2 ≤ n
  · obtain ⟨d, hd⟩ : ∃ d : Array Nat, d = Array.range n := ⟨_, rfl⟩
    have hds : d.size = n := by rw [hd]; simp
    have hdg : ∀ j, j < n → d[j]! = j := fun j hj => by rw [hd, getElem!_pos _ j (by simpa using hj)]; simp
    have hH : Sort.Holds enc w g 0 d := fun j hj => by
      rw [hds] at hj
      refine ⟨?_, by simp [World.frozen?, hg]⟩
      rw [hdg j hj, cell_of_row _ _ _ _ _ _ hg, Nat.zero_add]
      have e1 : (cur.toList.take n)[j]? = xs[j]? := by rw [htake]
      rw [List.getElem?_take_of_lt hj, Array.getElem?_toList] at e1
      rw [e1, henc]
      dsimp only
      rw [List.getD_eq_getElem?_getD, List.getElem?_eq_getElem (by omega)]
      rfl
    have hless : LessReads Try.prog 88 #[.pointer (some ⟨Bx, 0, none⟩)] enc (fun i j => decide (Gc i < Gc j)) g 0 d.size w := by
      intro m os dk hs i j hi hj
      have e : sortWorld enc w g 0 m dk os = Sort.grow (Sort.putRow enc (Sort.ahead w m) g 0 dk) os := rfl
      have hall : ∀ k, k < w.heap.size → k ≠ g → (sortWorld enc w g 0 m dk os).heap[k]? = w.heap[k]? := fun k hk hn => by rw [e]; exact heap_sortedO enc dk k hk hn
      refine less_any F g n c Bx _ (fun t => enc dk[t]!) (fun t => Gc dk[t]!) ?_ (fun t ht => ⟨?_, hrd _ hall _⟩) i j (by omega) (by omega)
      · rw [cell_of_row _ _ _ _ _ _ ((hall Bx hblt hne).trans hb)]; rfl
      · rw [e, cell_of_row _ _ _ _ _ _ (heap_sortedN enc dk hg), Nat.zero_add]
        have htc : t < cur.size := by omega
        have hts : t < dk.size := by omega
        simp [Sort.putCells, htc, hts]
    have hO : Sort.SWO fun i j => decide (Gc i < Gc j) := ⟨fun x => Sort.swo_ltStr.irrefl (Gc x), fun x y z => Sort.swo_ltStr.trans (Gc x) (Gc y) (Gc z), fun x y z => Sort.swo_ltStr.ntrans (Gc x) (Gc y) (Gc z)⟩
    have hK : Lib.swapperK d.size slE 23 = 9 := by
      have a : slE.hasPointers = true := by kernel_rfl
      have b : slE.bytes = 24 := by kernel_rfl
      have c0 : (d.size == 0) = false := by rw [hds]; simp; omega
      have c1 : (d.size == 1) = false := by rw [hds]; simp; omega
      simp [Lib.swapperK, a, b, c0, c1]
    have hS := Any.sort_Slice_sorted saSort 22 25 slT slE (by kernel_rfl) (by kernel_rfl) (by kernel_rfl) (by kernel_rfl) 23 slKind (by kernel_rfl) (fun _ => by kernel_rfl) enc hone (fun i j => decide (Gc i < Gc j)) hO 88 _
      (enters_of Try.func88 (by kernel_rfl) rfl) g 0 c d (by omega) (by omega) 123 (by rw [hK]; kernel_rfl) false
      (fun args W => run_callFunc_extern Try.func123 (by kernel_rfl) (by kernel_rfl) (by kernel_rfl) (e := Extern.ReflectliteSwapper.swap false) (by kernel_rfl) args W) w hless hH hglt
    rw [hds] at hS
    change Calls Try.prog 87 _ _ _ at hS
    refine hS.mono ?_
    rintro e w' ⟨rfl, d', nd, os, hP, hSo, rfl⟩
    obtain ⟨hsz, -, hperm⟩ := hP
    have e1 : d'.extract 0 n = d' := by rw [show n = d'.size by omega]; exact Array.extract_size
    have e2 : d.extract 0 n = d := by rw [← hds]; exact Array.extract_size
    rw [e1, e2] at hperm
    have hmap : d.toList.map Gc = ss := by
      rw [hd, Array.toList_range]
      apply List.ext_getElem?
      intro j
      rw [List.getElem?_map, hGc]
      by_cases hj : j < n
      · rw [List.getElem?_range hj, List.getElem?_eq_getElem (by omega)]
        simp only [Option.map_some]
        rw [List.getD_eq_getElem?_getD, List.getElem?_eq_getElem (by omega)]; rfl
      · rw [List.getElem?_eq_none (by simp; omega), List.getElem?_eq_none (by omega)]; rfl
    have hall : ∀ k, k < w.heap.size → k ≠ g → (Sort.grow (Sort.putRow enc (Sort.ahead w nd) g 0 d') os).heap[k]? = w.heap[k]? := fun k hk hn => heap_sortedO enc d' k hk hn
    have hgs := heap_sortedN (n := nd) (os := os) enc d' hg
    refine ⟨rfl, d'.toList.map Gc, ?_, ?_, ⟨F, fun b hb => ⟨(h1 b hb).1, by have := (h1 b hb).2; simp; omega⟩, h2, d'.toList.map enc, ⟨by simp, .inr ⟨g, c, _, by simp [hsz, hds], hN, hgs, by simp; omega, hcm, by simp [Sort.putCells, hcs], ?_⟩⟩, ?_⟩, ?_⟩
    · have := hperm.map Gc
      rw [hmap] at this
      exact this
    · rw [List.pairwise_map, List.pairwise_iff_getElem]
      intro i j hi hj hij
      have := hSo i j (Nat.zero_le _) hij (by simp at hj; omega)
      simp only [Array.length_toList] at hi hj
      rw [getElem!_pos d' i hi, getElem!_pos d' j hj] at this
      simpa using this
    · rw [Nat.mul_one, List.length_map, Array.length_toList]
      exact take_putCellsN enc cur d' (by omega)
    · refine ⟨by simp, fun i y hi => ?_⟩
      rw [List.getElem?_map] at hi
      cases hq : d'.toList[i]? with
      | none => rw [hq] at hi; cases hi
      | some k =>
        rw [hq] at hi
        simp only [Option.map_some, Option.some.injEq] at hi
        subst hi
        refine ⟨[enc k], rfl, ⟨enc k, rfl, hrd _ hall k⟩, fun j u hu => ?_⟩
        match j, hu with
        | 0, hu =>
          simp only [List.getElem?_cons_zero, Option.some.injEq] at hu
          subst hu
          rw [Nat.mul_one, Nat.add_zero, List.getElem?_map, hq]; rfl
    · exact ⟨rfl, rfl, rfl, by simp, fun k hk hn => hall k hk hn⟩
  · have hK : Lib.swapperK n slE 23 = n + 1 := by
      rcases Nat.eq_zero_or_pos n with h | h
      · subst h; simp [Lib.swapperK]
      · obtain rfl : n = 1 := by omega
        simp [Lib.swapperK]
    have hS := Any.sort_Slice_tiny saSort 22 25 slT slE (by kernel_rfl) (by kernel_rfl) (by kernel_rfl) (by kernel_rfl) 23 slKind (some ⟨g, 0, none⟩) n c (by omega) (115 + n) (by
      rw [hK]
      rcases Nat.eq_zero_or_pos n with h | h
      · subst h; kernel_rfl
      · obtain rfl : n = 1 := by omega
        kernel_rfl) (.func 88) #[] #[.pointer (some ⟨Bx, 0, none⟩)] w
    change Calls Try.prog 87 _ _ _ at hS
    refine hS.mono ?_
    rintro e w' ⟨rfl, os, rfl⟩
    have hall : ∀ k, k < w.heap.size → (Sort.grow w os).heap[k]? = w.heap[k]? := fun k hk => Sort.heap_grow_old _ _ hk
    refine ⟨rfl, ss, List.Perm.refl _, ?_, ⟨F, fun b hb => ⟨(h1 b hb).1, by have := (h1 b hb).2; simp; omega⟩, h2, xs, ⟨by simpa [← hn] using hxl, .inr ⟨g, c, cur, by rw [hn], hN, (hall g hglt).trans hg, by omega, hcm, by simpa using hcs, by rw [Nat.mul_one, ← hn]; exact htake⟩⟩, ?_⟩, ⟨rfl, rfl, rfl, by simp, fun k hk _ => hall k hk⟩⟩
    · match ss, hn with
      | [], _ => exact List.Pairwise.nil
      | [x], _ => simp
      | x :: y :: r, hn => simp at hn; omega
    · exact hrows.mono fun cs x _ hx => by
        obtain ⟨u, rfl, k2⟩ := hx
        exact ⟨u, rfl, BytesAt.carry k2 (fun _ _ x => x) (fun b _ hlt => hall b hlt)⟩
end Go.Proofs.Ytndkkgkcbbmnpaa
namespace Go.Proofs.Ytndkkgkcbbmnpaa
open Go.RowKit Go.Pg
open Go.Maps (Keyed)

theorem strKeyed : Keyed Try.prog 9 := Maps.string_keyed Try.underlying9
theorem strKey (x : List UInt8) (hx : x.length ≤ maxLen) : keyOf Try.prog 9 (.string ⟨x.toArray⟩) = some (.string x) := by
  have := Go.WideMaps.keyOf_string_mk (P := Try.prog) Try.underlying9 (s := ⟨x.toArray⟩) (by show x.toArray.size ≤ maxLen; simpa using hx)
  simpa using this
/-- block b is a set of strings -/
def StrMap (w : World) (b n : Nat) (l : List (List UInt8)) : Prop := ∃ D : DataW Unit, w.ownsMap Try.prog 9 (plainElem Try.prog 3) b n D ∧ ∀ x, Maps.has D (.string x) = decide (x ∈ l)
theorem StrMap.made (w : World) : StrMap (w.alloc (.map #[] 0)) w.heap.size 0 [] := ⟨.map [], World.ownsMap_made _ _ _ _, fun x => by simp [Maps.has]⟩
section
variable {ops : Array Oper} {rest : List Oper} {o : Oper} {a : Act} {Q : Exit → Act → World → Prop} {w : World}
theorem wpL_put_str (m x v : Operand) (b n : Nat) (l : List (List UInt8)) (s : List UInt8)
    (hc : o.guard = none ∧ o.op = Op.mapUpdate 109 m x v ∧ a.eval m = .map (some b) ∧ a.eval x = .string ⟨s.toArray⟩ ∧ a.eval v = .int .i64 1) (h : StrMap w b n l ∧ s.length ≤ maxLen ∧ n < maxLen)
    (hK : ∀ w', StrMap w' b (n + 1) (l ++ [s]) → w.grownBy w' (some b) → wpList Try.prog ops Q rest (a.put o.dst undef) w') : wpList Try.prog ops Q (o :: rest) a w := by
  have hkl := strKey s h.2.1
  obtain ⟨D, h1, h2⟩ := h.1
  have hm := h1.isMap
  refine wpList_mapUpdate_own w hc.1 m x v 109 hc.2.1 9 3 strKeyed Try.underlying109 _ b n D hc.2.2.1 h1 h.2.2 _ _ (.string s) hc.2.2.2.1 hc.2.2.2.2 hkl (.lit (.int .i64 1)) [] (plainElem_int Try.underlying3 (by decide)) fun w' g1 g2 => hK w' ⟨_, g1, fun y => ?_⟩ g2
  by_cases he : y = s
  · subst he
    rw [Maps.has_put_same hm (strKeyed.key hkl)]; simp
  · rw [Maps.has_put_other (fun e => he (by simpa using e)), h2 y]; simp [he]
/-- []byte(s) -/
theorem wpL_bytes_of (x : Operand) (s : List UInt8) (hc : o.guard = none ∧ o.op = .convert 9 25 x ∧ a.eval x = .string ⟨s.toArray⟩) (hs : s.length ≤ maxLen)
    (hK : ∀ c w1, Below w.heap.size w w1 → BytesAt (fun b => w.heap.size ≤ b) w1 (.slice (some ⟨w.heap.size, 0, none⟩) s.length c) s → wpList Try.prog ops Q rest (a.put o.dst (.slice (some ⟨w.heap.size, 0, none⟩) s.length c)) w1) :
    wpList Try.prog ops Q (o :: rest) a w := by
  have hrun := run_bytes_of_string (P := Try.prog) w 9 25 5 ⟨s.toArray⟩ Try.underlying9 Try.underlying25 Try.underlying5
  have hsz : (⟨s.toArray⟩ : ByteArray).size = s.length := by show s.toArray.size = _; simp
  rw [hsz] at hrun
  obtain ⟨cap, hcap⟩ : ∃ cap, cap = grownCap w s.length 0 5 := ⟨_, rfl⟩
  have h1 : s.length ≤ cap := by rw [hcap]; exact grownCap_ge _ _ _ _
  have h2 : cap ≤ maxLen := by rw [hcap]; exact grownCap_le_maxLen _ _ _ _ hs
  rw [← hcap] at hrun
  obtain ⟨C, hC⟩ : ∃ C, C = bytesRow ⟨s.toArray⟩ cap := ⟨_, rfl⟩
  have hCs : C.size = cap := by rw [hC]; simp [bytesRow, hsz]; omega
  rw [← hC, hCs] at hrun
  have hnew : (w.drew.alloc (.cells C 5 (cap, cap + 1))).heap[w.heap.size]? = some (.cells C 5 (cap, cap + 1)) := by
    show (w.heap.push _)[w.heap.size]? = _; simp
  have hb : Below w.heap.size w (w.drew.alloc (.cells C 5 (cap, cap + 1))) := by
    have := Bel.alloc (Bel.drew (Bel.refl w)) (.cells C 5 (cap, cap + 1))
    exact this
  refine wpList_plain hc.1 fun K' hK' => ?_
  unfold Oper.wp
  simp only [execOp, hc.2.1, hc.2.2, Sem.run_bind, hrun, Result.andThen_ok, Sem.run_pure]
  refine hK' _ _ (hK cap _ hb ⟨some ⟨w.heap.size, 0, none⟩, cap, rfl, h1, h2, (fun e => by cases e), fun _ => ⟨_, _, rfl, Nat.le_refl _, fun i y hi => ⟨[.int .u8 (y.toNat : Int)], rfl, rfl, fun j u hu => ?_⟩⟩, fun b o j ha hj => ?_⟩)
  · match j, hu with
    | 0, hu =>
      simp only [List.getElem?_cons_zero, Option.some.injEq] at hu
      subst hu
      rw [cell_of_row _ _ _ _ _ _ hnew, hC]
      obtain ⟨hi1, hi2⟩ := List.getElem?_eq_some_iff.1 hi
      subst hi2
      rw [bytesRow, Nat.zero_add, Nat.mul_one, Nat.add_zero, Array.getElem?_append_left (by simp; omega)]
      simp [hi1]
  · simp only [Option.some.injEq, Addr.mk.injEq, and_true] at ha
    obtain ⟨rfl, rfl⟩ := ha
    simp only [World.frozen?, hnew]
    simp
    omega
end
set_option maxRecDepth 100000 in
theorem sortNil_any (w : World) (lb : Array Value) :
    Calls Try.prog 87 #[.iface 22 (.slice none 0 0), .func (.func 88) #[] lb] w fun e w' => e = .returned (.tuple #[]) ∧ Below w.heap.size w w' := by
  have hS := Any.sort_Slice_tiny saSort 22 25 slT slE (by kernel_rfl) (by kernel_rfl) (by kernel_rfl) (by kernel_rfl) 23 slKind none 0 0 (by omega) 115 (by
    rw [show Lib.swapperK 0 slE 23 = 1 from by simp [Lib.swapperK]]
    kernel_rfl) (.func 88) #[] lb w
  change Calls Try.prog 87 _ _ _ at hS
  refine hS.mono ?_
  rintro e w' ⟨rfl, os, rfl⟩
  exact ⟨rfl, rfl, rfl, rfl, by simp, fun k hk => Sort.heap_grow_old _ _ hk⟩
end Go.Proofs.Ytndkkgkcbbmnpaa
