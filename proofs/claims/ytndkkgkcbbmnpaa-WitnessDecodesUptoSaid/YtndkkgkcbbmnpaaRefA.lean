/-
  Contracts of pergolaref02.head, body, Bytes.
-/
import Derived.Test.YtndkkgkcbbmnpaaNestC
namespace Go.Pg
open Go.RowKit
/-- bytes that have just been laid -/
theorem OwnAt.lit (w : World) (e : TypeId) (cs : Array Value) (bs : List UInt8) (h : cs.toList = bs.map fun x => .int .u8 (x.toNat : Int)) (hl : bs.length ≤ maxLen) :
    OwnAt (w.alloc (.cells cs e)) w.heap.size e 1 byteR (.slice (some ⟨w.heap.size, 0, none⟩) bs.length bs.length) bs := by
  refine ⟨cs.toList, World.ownsRow_lit w cs bs.length (Nat.le_refl _) hl (by rw [← Array.length_toList, h]; simp), by rw [h]; simp, fun i x hx => ?_⟩
  refine ⟨[.int .u8 (x.toNat : Int)], rfl, rfl, fun j u hu => ?_⟩
  match j, hu with
  | 0, hu =>
    simp at hu; subst hu
    rw [h]; simp [hx]
theorem toNat_ofNat_lt (n : Nat) (h : n < 256) : (((UInt8.ofNat n).toNat : Nat) : Int) = (n : Int) := by
  rw [UInt8.toNat_ofNat', Nat.mod_eq_of_lt (by omega)]
theorem headB_1 (base n : Nat) (h : n ≤ 55) : headB base n = [UInt8.ofNat (base + n)] := by unfold headB; rw [if_pos h]
theorem number_1 (n : Nat) (h0 : 0 < n) (h : n < 256) : number n = 1 := by
  rw [number_pos h0, show n / 256 = 0 by omega, number_zero]
theorem number_2 (n : Nat) (h0 : 256 ≤ n) (h : n < 65536) : number n = 2 := by
  rw [number_pos (by omega), number_1 _ (by omega) (by omega)]
theorem number_3 (n : Nat) (h0 : 65536 ≤ n) (h : n < 16777216) : number n = 3 := by
  rw [number_pos (by omega), number_2 _ (by omega) (by omega)]
theorem headB_2 (base n : Nat) (h0 : 55 < n) (h : n < 256) : headB base n = [UInt8.ofNat (base + 56), UInt8.ofNat n] := by
  unfold headB; rw [if_neg (by omega), number_1 n (by omega) h]
  simp only [beBytes, List.nil_append]
  rw [show n % 256 = n by omega]
theorem headB_3 (base n : Nat) (h0 : 256 ≤ n) (h : n < 65536) : headB base n = [UInt8.ofNat (base + 57), UInt8.ofNat (n / 256), UInt8.ofNat (n % 256)] := by
  unfold headB; rw [if_neg (by omega), number_2 n (by omega) h]
  simp only [beBytes, List.nil_append, List.cons_append]
  rw [show n / 256 % 256 = n / 256 by omega]
theorem headB_4 (base n : Nat) (h0 : 65536 ≤ n) (h : n < 16777216) : headB base n = [UInt8.ofNat (base + 58), UInt8.ofNat (n / 65536), UInt8.ofNat (n / 256 % 256), UInt8.ofNat (n % 256)] := by
  unfold headB; rw [if_neg (by omega), number_3 n (by omega) h]
  simp only [beBytes, List.nil_append, List.cons_append]
  rw [show n / 256 / 256 = n / 65536 by omega, show n / 65536 % 256 = n / 65536 by omega]
end Go.Pg
namespace Go.Proofs.Ytndkkgkcbbmnpaa
open Go.RowKit Go.Pg

set_option maxRecDepth 100000 in
set_option maxHeartbeats 1000000 in
theorem head_any (base n : Nat) (w : World) (hb : base ≤ 192) (hn : n < 16777216) :
    Calls Try.prog 93 #[.int .i64 base, .int .i64 n] w (Fresh w 5 1 byteR (headB base n)) := by
  by_cases h1 : n ≤ 55
  · have e := headB_1 base n h1
    rw [e]
    go_enter Try.func93, Try.ntmps93
    go_wp2
    go_ret
    exact ⟨_, rfl, OwnAt.lit w _ _ [UInt8.ofNat (base + n)] (by simp only [List.map_cons, List.map_nil]; rw [toNat_ofNat_lt _ (by omega)]; rfl) (show 1 ≤ maxLen by decide), Bel.alloc (Bel.refl w) _⟩
  · by_cases h2 : n < 256
    · have e := headB_2 base n (by omega) h2
      rw [e]
      go_enter Try.func93, Try.ntmps93
      go_wp2
      go_ret
      exact ⟨_, rfl, OwnAt.lit w _ _ [UInt8.ofNat (base + 56), UInt8.ofNat n] (by simp only [List.map_cons, List.map_nil]; rw [toNat_ofNat_lt _ (by omega), toNat_ofNat_lt _ (by omega)]; rfl) (show 2 ≤ maxLen by decide), Bel.alloc (Bel.refl w) _⟩
    · by_cases h3 : n < 65536
      · have e := headB_3 base n (by omega) h3
        have HE := Lib.hid e
        have H2 := Lib.hid h2
        have H3 := Lib.hid h3
        have HN := Lib.hid hn
        have z1 : ¬ (n : Int) ≤ 55 := by omega
        have z2 : ¬ (n : Int) < 256 := by omega
        have z3 : (0 : Int) ≤ n := by omega
        have z4 : (n : Int) < 65536 := by omega
        clear h1 h2 h3 hn e
        go_enter Try.func93, Try.ntmps93
        go_wp2
        go_ret
        have h2 := H2.out
        have h3 := H3.out
        have hn := HN.out
        have hq := OwnAt.lit w 5 #[.int .u8 ((base : Int) + 57), .int .u8 ((n : Int) / 256), .int .u8 ((n : Int) % 256)] [UInt8.ofNat (base + 57), UInt8.ofNat (n / 256), UInt8.ofNat (n % 256)] (by simp only [List.map_cons, List.map_nil]; rw [toNat_ofNat_lt _ (by omega), toNat_ofNat_lt _ (by omega), toNat_ofNat_lt _ (by omega)]; rfl) (show 3 ≤ maxLen by decide)
        rw [HE.out]
        exact ⟨.slice (some ⟨w.heap.size, 0, none⟩) 3 3, rfl, hq, Bel.alloc (Bel.refl w) _⟩
      · have e := headB_4 base n (by omega) hn
        have HE := Lib.hid e
        have H2 := Lib.hid h2
        have H3 := Lib.hid h3
        have HN := Lib.hid hn
        have z1 : ¬ (n : Int) ≤ 55 := by omega
        have z2 : ¬ (n : Int) < 256 := by omega
        have z3 : ¬ (n : Int) < 65536 := by omega
        have z4 : (n : Int) < 16777216 := by omega
        clear h1 h2 h3 hn e
        go_enter Try.func93, Try.ntmps93
        go_wp2
        go_ret
        have h2 := H2.out
        have h3 := H3.out
        have hn := HN.out
        have hq := OwnAt.lit w 5 #[.int .u8 ((base : Int) + 58), .int .u8 ((n : Int) / 65536), .int .u8 ((n : Int) / 256 % 256), .int .u8 ((n : Int) % 256)] [UInt8.ofNat (base + 58), UInt8.ofNat (n / 65536), UInt8.ofNat (n / 256 % 256), UInt8.ofNat (n % 256)] (by simp only [List.map_cons, List.map_nil]; rw [toNat_ofNat_lt _ (by omega), toNat_ofNat_lt _ (by omega), toNat_ofNat_lt _ (by omega), toNat_ofNat_lt _ (by omega)]; rfl) (show 4 ≤ maxLen by decide)
        rw [HE.out]
        exact ⟨.slice (some ⟨w.heap.size, 0, none⟩) 4 4, rfl, hq, Bel.alloc (Bel.refl w) _⟩

end Go.Proofs.Ytndkkgkcbbmnpaa
