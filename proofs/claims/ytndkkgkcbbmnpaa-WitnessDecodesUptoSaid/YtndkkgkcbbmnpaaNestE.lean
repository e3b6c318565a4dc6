/-
  Contract of nest.Encode.
-/
import Derived.Test.YtndkkgkcbbmnpaaNestD
namespace Go.Pg
/-- nest's encoding, or what is amiss -/
def It.encode (x : It) : List UInt8 × Nat :=
  if (x.look 0 0).2 ≠ 0 then ([], (x.look 0 0).2) else if 16777215 < x.body then ([], 20) else (x.enc, 0)
end Go.Pg
namespace Go.Proofs.Ytndkkgkcbbmnpaa
open Go.RowKit Go.Pg

theorem look_step {d : Nat} (h : LookC d) : LookC (d + 1) := by
  intro F w lb x l v1 v2 deep wt hit hk hF hd hw
  obtain ⟨u1, u2, h1, h2, h3⟩ := hit
  simp only [List.cons.injEq, Value.bool.injEq, and_true] at h1
  obtain ⟨rfl, rfl, rfl⟩ := h1
  obtain ⟨a, c, rfl, -, -, -⟩ := SliceAt.len h2
  cases x with
  | text b =>
    obtain ⟨a2, c2, rfl, -, -, -⟩ := SliceAt.len h3
    exact look_text F w lb b a a2 c c2 deep wt hk hd hw
  | list l =>
    obtain ⟨a2, c2, rfl, -, -, -⟩ := SliceAt.len h3
    exact look_list h F w lb l a a2 c _ c2 deep wt h3 hk hF hd hw
theorem look_any (d : Nat) : LookC d := by
  induction d with
  | zero => intro F w lb x l v1 v2 deep wt h; exact h.elim
  | succ d ih => exact look_step ih

/-- bytes in new memory, and an error's number -/
def Encd (w : World) (r : List UInt8 × Nat) (e : Ending) (w' : World) : Prop :=
  ∃ v', e = .returned (.tuple #[v', .int .i64 r.2]) ∧ OwnAt w' w.heap.size 5 1 byteR v' r.1 ∧ Below w.heap.size w w'

set_option maxRecDepth 100000 in
set_option maxHeartbeats 1000000 in
theorem encode_any (F : Nat → Prop) (w : World) (d : Nat) (x : It) (l : Bool) (v1 v2 : Value) (h : ItemAt F w d [.bool l, v1, v2] x) (hw : x.whole ≤ 70368744177664) :
    Calls Try.prog 41 #[.agg #[.bool l, v1, v2]] w (Encd w x.encode) := by
  obtain ⟨hl, a1, n1, c1, a2, n2, c2, rfl, rfl, -, -⟩ := ItemAt.form h
  have HL := Lib.hid hl
  clear hl
  have h' : ItemAt (fun b => F b ∧ b < w.heap.size) w d [.bool l, .slice a1 n1 c1, .slice a2 n2 c2] x := h.carry (fun b hb hF => ⟨hF, hb⟩) (fun _ _ _ => rfl)
  clear h
  have hbw := It.body_le_whole x
  obtain ⟨W0, hW0⟩ : ∃ W0, W0 = (w.alloc (.cells #[.bool l, .slice a1 n1 c1, .slice a2 n2 c2] 65)).alloc (.cells #[.int .i64 0, .int .i64 0] 93) := ⟨_, rfl⟩
  have hbel0 : Below w.heap.size w W0 := by rw [hW0]; exact Bel.alloc (Bel.alloc (Bel.refl w) _) _
  have hk0 : W0.heap[w.heap.size + 1]? = some (.cells #[.int .i64 0, .int .i64 0] 93 (0, 0)) := by
    rw [hW0]
    have := heap_alloc_new (w.alloc (.cells #[.bool l, .slice a1 n1 c1, .slice a2 n2 c2] 65)) (.cells #[.int .i64 0, .int .i64 0] 93)
    simpa using this
  have hbx0 : W0.heap[w.heap.size]? = some (.cells #[.bool l, .slice a1 n1 c1, .slice a2 n2 c2] 65 (0, 0)) := by
    rw [hW0, Below.heap_alloc _ _ _ (by simp)]; exact heap_alloc_new w _
  have hs0 : W0.heap.size = w.heap.size + 2 := by rw [hW0]; simp
  have HW0 := Lib.hid hW0
  have HK0 := Lib.hid hk0
  have HBX := Lib.hid hbx0
  have HS0 := Lib.hid hs0
  clear hk0 hbx0 hs0 hW0
  go_enter Try.func41, Try.ntmps41
  go_wp2_with fail
  rw [← HW0.out]
  refine (look_any d (fun b => F b ∧ b < w.heap.size) _ (w.heap.size + 1) x _ _ _ 0 0 ?_ HK0.out (by omega) (by omega) (by omega)).mono ?_
  · exact h'.below hbel0
  rintro e w1 ⟨rfl, hat, hch⟩
  have hs1 := hch.size
  have hs0 := HS0.out
  have hbx1 : w1.heap[w.heap.size]? = some (.cells #[.bool l, .slice a1 n1 c1, .slice a2 n2 c2] 65 (0, 0)) := by
    rw [hch.block _ (by omega) (by omega)]; exact HBX.out
  have hbel1 : Below w.heap.size w w1 := hbel0.trans (hch.toBelowAt (by omega) (fun k hk => by omega))
  obtain ⟨m, e0, hr⟩ : ∃ m e0, x.look 0 0 = (m, e0) := ⟨_, _, rfl⟩
  rw [hr] at hat
  have HR := Lib.hid hr
  clear hr hch hs1 hs0 hbel0
  obtain ⟨b0, b1, b2⟩ := cells3 hbx1
  obtain ⟨p0, p1⟩ := cells2 hat
  have HB1 := Lib.hid hbel1
  have HX1 := Lib.hid hbx1
  clear hbel1 hbx1 hat
  by_cases he : e0 = 0
  · subst he
    go_wp2_with fail
    refine (body_any d (fun b => F b ∧ b < w.heap.size) _ x _ _ _ (h'.carry (fun _ _ x => x) (fun b hb _ => (HB1.out).block b hb.2)) (by omega)).mono ?_
    rintro e w2 ⟨rfl, hb2⟩
    obtain ⟨n, hn⟩ : ∃ n, n = x.body := ⟨_, rfl⟩
    rw [← hn] at hbw ⊢
    have HN := Lib.hid hn
    clear hn
    by_cases hbig : 16777215 < n
    · go_wp2
      go_ret2
      exact ⟨.slice none 0 0, by unfold It.encode; rw [HR.out, ← HN.out]; simp [hbig], by unfold It.encode; rw [HR.out, ← HN.out]; simp [hbig]; exact OwnAt.nil _ _ _ _ _, Bel.call HB1.out hb2⟩
    · have hbx2 : w2.heap[w.heap.size]? = some (.cells #[.bool l, .slice a1 n1 c1, .slice a2 n2 c2] 65 (0, 0)) := by
        rw [hb2.block _ (Array.getElem?_eq_some_iff.1 HX1.out).1]; exact HX1.out
      obtain ⟨g0, g1, g2⟩ := cells3 hbx2
      have HB2 := Lib.hid (Bel.call HB1.out hb2)
      have hsz2 := (HB2.out).size
      clear hb2 hbx2
      go_wp2_with fail
      refine (write_any d (fun b => F b ∧ b < w.heap.size) w2 w.heap.size x _ _ _ (.slice none 0 0) [] hsz2 (fun b hb => hb.2) (h'.carry (fun _ _ x => x) (fun b hb _ => (HB2.out).block b hb.2)) (OwnAt.nil _ _ _ _ _) (by simpa using hw)).mono ?_
      rintro e w3 ⟨v', rfl, ho, hg, hm⟩
      go_wp2
      go_ret2
      refine ⟨v', by unfold It.encode; rw [HR.out, ← HN.out]; simp [hbig], by unfold It.encode; rw [HR.out, ← HN.out]; simp [hbig]; simpa using ho, (HB2.out).grown hg hsz2 (fun k hk => by simp [Value.ownBlock] at hk)⟩
  · have he' : ((e0 : Int) == 0) = false := by simp; omega
    have he2 : ((e0 : Int) != 0) = true := by simp; omega
    go_wp2
    go_region
    go_wp2
    go_ret2
    exact ⟨.slice none 0 0, by unfold It.encode; rw [HR.out]; simp [he], by unfold It.encode; rw [HR.out]; simp [he]; exact OwnAt.nil _ _ _ _ _, (HB1.out).drew⟩

end Go.Proofs.Ytndkkgkcbbmnpaa
