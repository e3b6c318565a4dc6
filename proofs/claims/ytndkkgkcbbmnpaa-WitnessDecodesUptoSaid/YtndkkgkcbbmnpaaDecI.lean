/-
  Contract of pergolaref02.copied; pieces of bytes.
-/
import Derived.Test.YtndkkgkcbbmnpaaDecH
import Derived.Test.YtndkkgkcbbmnpaaRefA
import Derived.Test.YtndkkgkcbbmnpaaPlain
namespace Go.Pg
open Go.RowKit
/-- the bytes from one place up to another -/
def seg (B : List UInt8) (p e : Nat) : List UInt8 := (B.take e).drop p
theorem seg_nil (B : List UInt8) (p e : Nat) (h : e ≤ p) : seg B p e = [] := by
  unfold seg; apply List.drop_of_length_le; rw [List.length_take]; omega
theorem seg_len (B : List UInt8) (p e : Nat) (h : e ≤ B.length) : (seg B p e).length = e - p := by
  unfold seg; rw [List.length_drop, List.length_take]; omega
theorem seg_drop (B : List UInt8) (p e k : Nat) : (seg B p e).drop k = seg B (p + k) e := by
  unfold seg; rw [List.drop_drop]
theorem seg_take (B : List UInt8) (p e k : Nat) (h : p + k ≤ e) : (seg B p e).take k = seg B p (p + k) := by
  unfold seg
  rw [List.take_drop, List.take_take, Nat.min_eq_left h]
theorem seg_get (B : List UInt8) (p e i : Nat) (h : p + i < e) : (seg B p e)[i]? = B[p + i]? := by
  unfold seg
  rw [List.getElem?_drop, List.getElem?_take, if_pos h]
theorem seg_cons (B : List UInt8) (p e : Nat) (h : p < e) (he : e ≤ B.length) : seg B p e = B[p]'(by omega) :: seg B (p + 1) e := by
  unfold seg
  rw [List.drop_eq_getElem_cons (by rw [List.length_take]; omega), List.getElem_take]
theorem seg_getD (B : List UInt8) (p e : Nat) (h : p < e) (he : e ≤ B.length) : seg B p e = B.getD p 0 :: seg B (p + 1) e := by
  rw [seg_cons B p e h he, List.getD_eq_getElem?_getD, List.getElem?_eq_getElem (by omega)]; rfl
theorem BytesAt.cellD {F : Nat → Prop} {w : World} {b o n c : Nat} {bs : List UInt8} (h : BytesAt F w (.slice (some ⟨b, o, none⟩) n c) bs) (i : Nat) (hi : i < bs.length) : w.cell? ⟨b, o + i, none⟩ = some (.int .u8 ((bs.getD i 0).toNat : Int)) := by
  rw [BytesAt.cell h i hi, List.getD_eq_getElem?_getD, List.getElem?_eq_getElem hi]; rfl
theorem seg_all (B : List UInt8) : seg B 0 B.length = B := by unfold seg; simp
theorem addr_map_add (b o k : Nat) : (some (⟨b, o, none⟩ : Addr)).map (·.add k) = some ⟨b, o + k, none⟩ := by
  simp only [Option.map_some, Option.some.injEq]
  unfold Addr.add; split <;> simp_all
/-- b[lo:hi] -/
theorem BytesAt.seg {F : Nat → Prop} {w : World} {a a2 : Option Addr} {n c : Nat} {bs : List UInt8} (h : BytesAt F w (.slice a n c) bs) (lo hi : Nat) (hl : lo ≤ hi) (hk : hi ≤ n) (ha2 : (if c = lo then a else a.map (·.add lo)) = a2) :
    BytesAt F w (.slice a2 (hi - lo) (c - lo)) (seg bs lo hi) :=
  BytesAt.since (BytesAt.upto h hi hk) lo hl ha2
theorem BytesAt.n {F : Nat → Prop} {w : World} {a : Option Addr} {n c : Nat} {bs : List UInt8} (h : BytesAt F w (.slice a n c) bs) : n = bs.length ∧ n ≤ c ∧ c ≤ maxLen := by
  obtain ⟨a', c', hv, h1, h2, -⟩ := h
  simp only [Value.slice.injEq] at hv
  obtain ⟨-, rfl, rfl⟩ := hv
  exact ⟨rfl, h1, h2⟩
end Go.Pg
namespace Go.Proofs.Ytndkkgkcbbmnpaa
open Go.RowKit Go.Pg

set_option maxRecDepth 100000 in
set_option maxHeartbeats 400000 in
theorem copied_any (F : Nat → Prop) (w : World) (v : Value) (bs : List UInt8) (h : BytesAt F w v bs) (hlen : bs.length ≤ 70368744177664) :
    Calls Try.prog 111 #[v] w (Fresh w 5 1 byteR bs) := by
  obtain ⟨i0, hi, hz0, hz1, hz2⟩ := info_parts infoU8
  have hle : (([] : List UInt8).length + bs.length) * 1 ≤ 140737488355328 := by simp; omega
  go_enter Try.func111, Try.ntmps111
  go_wp2_with (at_builtin; refine wpList_append_at rfl (.tmp 4) (.tmp 5) 25 rfl w.heap.size 5 i0 (.int .u8 0) 1 1 underlying25 hi hz0 hz1 hz2 rfl (by decide) (by decide) byteR.one (.slice none 0 0) [] rfl (OwnAt.nil _ _ _ _ _) _ bs F rfl h hle (Nat.le_refl _) ?_; intro v' w2 ho hg hm)
  have HO := Lib.hid ho
  have HG := Lib.hid hg
  clear ho hg hm
  go_wp2
  go_ret
  exact ⟨v', rfl, by simpa using HO.out, (Below.refl _ _).grown HG.out (Nat.le_refl _) (fun k hk => by simp [Value.ownBlock] at hk)⟩
end Go.Proofs.Ytndkkgkcbbmnpaa
