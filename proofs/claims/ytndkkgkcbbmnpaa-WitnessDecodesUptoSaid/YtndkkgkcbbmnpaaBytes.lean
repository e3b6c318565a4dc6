/-
  Contracts of bytes.Compare, witness.rises, pergolaref01.Ahead, pergolaref21.rises; []byte read as a string.
-/
import Derived.Test.YtndkkgkcbbmnpaaItem
import Derived.Test.YtndkkgkcbbmnpaaProg
import Derived.Lib.BytesEntry
import Derived.Lib.Bytealg
import Derived.Laws.BytesArg
namespace Go.Pg
open Go.RowKit
theorem BytesAt.draws {F : Nat → Prop} {w : World} {v : Value} {bs : List UInt8} (h : BytesAt F w v bs) (n : Nat) : BytesAt F (w.drewN n) v bs :=
  h.carry (fun _ _ x => x) (fun _ _ _ => rfl)
theorem run_bytesOf_at {P : Program} {F : Nat → Prop} {w : World} {a : Option Addr} {n c : Nat} {bs : List UInt8} (h : BytesAt F w (.slice a n c) bs) :
    (Extern.Bytes.bytesOf (.slice a n c)).run P w = .ok ⟨bs.toArray⟩ w := by
  rcases SliceAt.split h with ⟨rfl, rfl⟩ | ⟨b, o, rfl, hn, hp, hF⟩
  · cases a <;> simp [Extern.Bytes.bytesOf, Extern.Bytes.loadBytes] <;> rfl
  · have h1 := Lib.run_loadBytesX (P := P) w (bs.map fun x => (x.toNat : Int)) ⟨b, o, none⟩ .empty (fun j x hj => by
      obtain ⟨hj', rfl⟩ := List.getElem?_eq_some_iff.1 hj
      have e : (⟨b, o, none⟩ : Addr).add j = ⟨b, o + j, none⟩ := by unfold Addr.add; split <;> simp_all
      rw [e, BytesAt.cell h j (by simpa using hj')]
      simp)
    simp only [List.length_map, ← hn] at h1
    simp only [Extern.Bytes.bytesOf, h1]
    congr 2
    have e2 : Lib.bytesOf (bs.map fun x => (x.toNat : Int)) = bs := by
      simp [Lib.bytesOf, List.map_map, Function.comp_def]
    rw [e2]
    show (#[] : Array UInt8) ++ bs.toArray = bs.toArray
    simp
theorem run_compare_at {P : Program} {F G : Nat → Prop} {w : World} {a a' : Option Addr} {n n' c c' : Nat} {bs ds : List UInt8} (h : BytesAt F w (.slice a n c) bs) (k : BytesAt G w (.slice a' n' c') ds) :
    (Extern.BytealgCompare.compare #[.slice a n c, .slice a' n' c']).run P w = .ok (.int .i64 (Lib.compareBytes bs ds)) w := by
  change Sem.run P (do pure (goInt (Extern.BytealgCompare.cmp (← Extern.Bytes.bytesOf (.slice a n c)) (← Extern.Bytes.bytesOf (.slice a' n' c'))))) w = _
  simp only [Sem.run_bind, run_bytesOf_at h, run_bytesOf_at k, Sem.run_pure, Result.andThen]
  rw [Lib.cmp_eq]
  rfl
/-- string(b) -/
theorem run_string_at {P : Program} {F : Nat → Prop} {w : World} {a : Option Addr} {n c : Nat} {bs : List UInt8} (h : BytesAt F w (.slice a n c) bs) (src e dst : TypeId) (hs : P.underlying src = some (.slice e)) (he : P.underlying e = some (.int .u8)) (hd : P.underlying dst = some .string) :
    (convert src dst (.slice a n c)).run P w = .ok (.string ⟨bs.toArray⟩) w := by
  have hnil : (⟨#[]⟩ : ByteArray) = ByteArray.empty := rfl
  rcases SliceAt.split h with ⟨rfl, rfl⟩ | ⟨b, o, rfl, hn, hp, hF⟩
  · cases a with
    | none => rw [run_convert_bytes_nil w src e hs he 0 c dst hd]; rfl
    | some ad =>
      rw [run_convert_bytes_string w src dst e _ 0 c hs he hd]
      rw [run_bytesToString w ad 0 c [] (by simp [loadCells, loadCellsFrom])]
      rfl
  · rw [run_convert_bytes_arg w src e hs he b o n c (bs.map fun x => (x.toNat : Int)) (by simp [hn]) (fun i hi => by
      rw [BytesAt.cell h i (by omega)]
      simp [List.getElem?_eq_getElem (show i < bs.length by omega)]) dst hd]
    congr 2
    unfold strOfNums
    simp [List.map_map, Function.comp_def]
/-- each ahead of the next one -/
def rising : List (List UInt8) → Bool
  | [] => true
  | [_] => true
  | a :: b :: r => decide (Lib.compareBytes a b < 0) && rising (b :: r)
theorem rising_step (l : List (List UInt8)) (k : Nat) (h0 : 1 ≤ k) (h : k < l.length) : rising (l.drop (k - 1)) = (decide (Lib.compareBytes (l[k - 1]'(by omega)) l[k] < 0) && rising (l.drop k)) := by
  have e1 : l.drop (k - 1) = (l[k - 1]'(by omega)) :: l.drop k := by
    have := List.drop_eq_getElem_cons (l := l) (i := k - 1) (by omega)
    rwa [show k - 1 + 1 = k by omega] at this
  have e2 : l.drop k = l[k] :: l.drop (k + 1) := List.drop_eq_getElem_cons h
  rw [e1, e2]; rfl
theorem rising_end (l : List (List UInt8)) (k : Nat) (h : l.length ≤ k) : rising (l.drop (k - 1)) = true := by
  have hl : (l.drop (k - 1)).length ≤ 1 := by rw [List.length_drop]; omega
  match l.drop (k - 1), hl with
  | [], _ => rfl
  | [_], _ => rfl
end Go.Pg
namespace Go.Proofs.Ytndkkgkcbbmnpaa
open Go.RowKit Go.Pg

set_option maxHeartbeats 400000 in
set_option maxRecDepth 100000 in
theorem compare_any (F G : Nat → Prop) (w : World) (u v : Value) (bs ds : List UInt8) (h : BytesAt F w u bs) (k : BytesAt G w v ds) :
    Calls Try.prog 68 #[u, v] w fun e w' => e = .returned (.int .i64 (Lib.compareBytes bs ds)) ∧ w = w' := by
  obtain ⟨a, c, rfl, -, -, -⟩ := SliceAt.len h
  obtain ⟨a', c', rfl, -, -, -⟩ := SliceAt.len k
  go_enter Try.func68, Try.ntmps68
  go_wp2
  rw [run_callFunc_extern Try.func89 (by kernel_rfl) (by kernel_rfl) (by kernel_rfl) (e := Extern.BytealgCompare.compare) (by kernel_rfl), run_compare_at h k]
  simp only [Result.andThen]
  rw [Oper.upon_value]
  go_wp2
  go_ret
  exact ⟨rfl, rfl⟩

set_option maxRecDepth 100000 in
set_option maxHeartbeats 1000000 in
theorem rises_any (F : Nat → Prop) (w : World) (v : Value) (l : List (List UInt8)) (h : RowsAt F w v l) (hl : l.length ≤ 1152921504606846976) :
    Calls Try.prog 40 #[v] w fun e w' => e = .returned (.bool (rising l)) ∧ Below w.heap.size w w' := by
  obtain ⟨a, c, rfl, -, -, -⟩ := SliceAt.len h
  obtain ⟨n, hn⟩ : ∃ n, n = l.length := ⟨_, rfl⟩
  rw [← hn] at h hl ⊢
  have HN := Lib.hid hn
  clear hn
  go_enter Try.func40, Try.ntmps40
  go_wp2
  go_loopw [3] (fun i wr => ∃ k : Nat, 1 ≤ k ∧ k ≤ n + 1 ∧ i = .int .i64 k ∧ Hid (rising l = rising (l.drop (k - 1))) ∧ Hid (Below w.heap.size w wr)) (fun i _ => n + 1 - (intOf i).toNat)
  case atStart => exact ⟨1, Nat.le_refl _, by omega, rfl, rfl, Bel.refl w⟩
  case round =>
    obtain ⟨k, h1, hk, rfl, HR, HB⟩ := hrel
    have hN := HN.out
    by_cases hlt : k < n
    · rcases SliceAt.split h with ⟨_, h0⟩ | ⟨b, o, rfl, -, -, -⟩
      · omega
      have h' := RowsAt.below h HB.out
      obtain ⟨u1, c1, t1⟩ := RowsAt.cell h' (k - 1) (by omega)
      obtain ⟨u2, c2, t2⟩ := RowsAt.cell h' k (by omega)
      obtain ⟨x1, hx1⟩ : ∃ x, x = l[k - 1]'(by omega) := ⟨_, rfl⟩
      obtain ⟨x2, hx2⟩ : ∃ x, x = l[k]'(by omega) := ⟨_, rfl⟩
      have hst := rising_step l k h1 (by omega)
      rw [← hx1, ← hx2] at hst
      rw [← hx1] at t1
      rw [← hx2] at t2
      have HS := Lib.hid (HR.out.trans hst)
      clear hst hx1 hx2 h' hN HR
      have hadd : ((k : Int) - 1).toNat = k - 1 := by omega
      have hwr1 : IntKind.i64.wrap ((k : Int) - 1) = (k : Int) - 1 := IntWalk.i64_in _ (by omega)
      have z1 : (1 : Int) ≤ (k : Int) := by omega
      have z2 : (0 : Int) ≤ (k : Int) - 1 := by omega
      have z3 : (k : Int) - 1 < (n : Int) := by omega
      have z4 : (k : Int) < (n : Int) := by omega
      go_wp2
      go_quiet (((go_at_call 68; exact Calls.quiet_of_same ((compare_any F F _ u1 u2 x1 x2 (t1.draws _) (t2.draws _)).mono fun _ _ ⟨p, q⟩ => ⟨p, q.symm⟩))))
      have HBd : ∀ m, Below w.heap.size w (wr.drewN m) := fun m => ⟨HB.out.os, HB.out.tape, HB.out.output, HB.out.size, HB.out.block⟩
      have HBD := Lib.hid HBd
      obtain ⟨q, hq⟩ : ∃ q, q = Lib.compareBytes x1 x2 := ⟨_, rfl⟩
      rw [← hq]
      have HQ := Lib.hid hq
      clear hq HBd t1 t2 c1 c2
      by_cases hneg : q < 0
      · go_wp2
        go_roundw
        case rel => exact ⟨k + 1, by omega, by omega, num_eq (by omega), (by show _ = _; rw [HS.out, ← HQ.out]; simp [hneg]), HBD.out _⟩
        case measure => simp [intOf]; omega
      · go_wp2
        go_ret
        exact ⟨ret_bool (by rw [HS.out, ← HQ.out]; simp; intro h; omega), HBD.out _⟩
    · go_wp2
      go_ret
      exact ⟨ret_bool (by rw [HR.out, rising_end l k (by omega)]), HB.out⟩

end Go.Proofs.Ytndkkgkcbbmnpaa
