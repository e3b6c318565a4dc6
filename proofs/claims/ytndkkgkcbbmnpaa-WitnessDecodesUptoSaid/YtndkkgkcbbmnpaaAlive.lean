/-
  Contract of pergolalaw21.alive.
-/
import Derived.Test.YtndkkgkcbbmnpaaWitF
import Derived.Test.YtndkkgkcbbmnpaaSame
import Derived.Test.YtndkkgkcbbmnpaaRefA
namespace Go.Pg
theorem witEncode_nil : witEncode [] [] = ([0xc2, 0xc0, 0xc0], 0) := by
  simp [witEncode, rising, It.encode, witI, textsI, It.look, It.looks, It.body, It.wholes, It.whole, sz, It.enc, It.encs, headB]
theorem witDecode_nil : witDecode [0xc2, 0xc0, 0xc0] = ([], [], 0) := witDecode_back _ _ _ witEncode_nil
end Go.Pg
namespace Go.Proofs.Ytndkkgkcbbmnpaa
open Go.RowKit Go.Pg

set_option maxRecDepth 100000 in
set_option maxHeartbeats 1000000 in
theorem alive_any (w : World) : Calls Try.prog 15 #[] w fun e w' => e = .returned (.bool true) ∧ Below w.heap.size w w' := by
  have hw0 : (witI [] []).whole ≤ 70368744177664 := by simp [witI, textsI, It.whole, It.wholes, sz]
  go_enter Try.func15, Try.ntmps15
  go_wp2_with fail
  refine (wencode_any (fun _ => True) w none none 0 0 0 0 [] [] (SliceAt.nil _ _ _ _) (SliceAt.nil _ _ _ _) (by simp) (by simp) (by simp) (by simp) hw0).mono ?_
  rintro e w1 ⟨v1, he, ho1, hb1⟩
  rw [witEncode_nil] at he ho1
  subst he
  obtain ⟨a1, c1, rfl, -, -, -⟩ := ho1.len
  have hat := ho1.at (F := fun _ => True) (fun _ _ _ _ => trivial) (by decide)
  have HAT := Lib.hid hat
  have HB1 := Lib.hid hb1
  clear ho1 hb1 hat hw0
  go_wp2_with fail
  have hbytes : BytesAt (fun _ => True) (w1.alloc (.cells #[.int .u8 194, .int .u8 192, .int .u8 192] 5)) (.slice (some ⟨w1.heap.size, 0, none⟩) 3 3) [0xc2, 0xc0, 0xc0] :=
    (OwnAt.lit w1 5 #[.int .u8 194, .int .u8 192, .int .u8 192] [0xc2, 0xc0, 0xc0] (by simp) (by decide)).at (fun _ _ _ _ => trivial) (by decide)
  refine (wdecode_any (fun _ => True) _ _ 3 3 [0xc2, 0xc0, 0xc0] hbytes (by omega)).mono ?_
  rintro e w2 ⟨a2, n2, c2, a3, n3, c3, he, g1, g2, hb2⟩
  rw [witDecode_nil] at he g1 g2
  subst he
  have hb12 := Bel.call (Bel.alloc HB1.out _) hb2
  have hat2 : BytesAt (fun _ => True) (w2.alloc (.cells #[.slice a2 n2 c2, .slice a3 n3 c3] 24)) (.slice a1 3 c1) [0xc2, 0xc0, 0xc0] :=
    BytesAt.below (BytesAt.below (BytesAt.below HAT.out (Bel.alloc (Bel.refl w1) _)) hb2) (Bel.alloc (Bel.refl w2) _)
  have s1 := run_string_at (P := Try.prog) hat2 25 5 9 Try.underlying25 Try.underlying5 Try.underlying9
  have HG1 := Lib.hid (RowsAt.below g1 (Bel.alloc (Bel.refl w2) (.cells #[.slice a2 n2 c2, .slice a3 n3 c3] 24)))
  have HG2 := Lib.hid (RowsAt.below g2 (Bel.alloc (Bel.refl w2) (.cells #[.slice a2 n2 c2, .slice a3 n3 c3] 24)))
  have HB12 := Lib.hid hb12
  clear hbytes hb2 g1 g2 hb12 hat2
  simp only [List.length_cons, List.length_nil, Nat.zero_add, Nat.reduceAdd] at s1 ⊢
  go_wp2_with fail
  refine (same_any _ (fun _ => True) _ _ _ _ _ _ _ _ _ _ _ _ _ [] [] [] [] HG1.out HG2.out (SliceAt.nil _ _ _ _) (SliceAt.nil _ _ _ _) (by simp) (by simp)).mono ?_
  rintro e w3 ⟨rfl, hb3⟩
  have HB3 := Lib.hid hb3
  clear hb3 s1
  simp only [and_self, decide_true]
  go_wp2_with fail
  go_ret
  exact ⟨rfl, Bel.call (Bel.alloc HB12.out _) HB3.out⟩
end Go.Proofs.Ytndkkgkcbbmnpaa
