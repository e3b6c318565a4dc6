/-
  Contracts of bytes.Compare, witness.rises, pergolaref01.Ahead, pergolaref21.rises; []byte read as a string.
  Contract of pergolaref03.Read.
  Contracts of bits.RotateLeft64, pergolaref01.rot, digest.word, pergolaref01.word.
  Contract of (digest.state).mixed.
  append of zeros: append(b, make([]byte, n)...) onto a slice of bytes of the call's own.
  Contracts of digest.begun, New, lay.
-/
import Derived.Test.YtndkkgkcbbmnpaaQgAE
import Derived.Test.YtndkkgkcbbmnpaaProg
import Derived.Lib.BytesEntry
import Derived.Lib.Bytealg
import Derived.Laws.BytesArg
import Derived.WalkMore
namespace Go.Pg
open Go.RowKit
theorem BytesAt.draws {F : Nat → Prop} {w : World} {v : Value} {bs : List UInt8} (h : BytesAt F w v bs) (n : Nat) : BytesAt F (w.drewN n) v bs :=
  h.carry (fun _ _ x => x) (fun _ _ _ => rfl)
theorem run_bytesOf_at {P : Program} {F : Nat → Prop} {w : World} {a : Option Addr} {n c : Nat} {bs : List UInt8} (h : BytesAt F w (.slice a n c) bs) :
    (Extern.Bytes.bytesOf (.slice a n c)).run P w = .ok ⟨bs.toArray⟩ w := by
  rcases SliceAt.split h with ⟨rfl, rfl⟩ | ⟨b, o, rfl, hn, hp, hF⟩
  · cases a <;> simp [Extern.Bytes.bytesOf, Extern.Bytes.loadBytes] <;> rfl
  · have h1 := Lib.run_loadBytesX (P := P) w (bs.map fun x => (x.toNat : Int)) ⟨b, o, none⟩ .empty (fun j x hj => by
      obtain ⟨hj', rfl⟩ := List.getElem?_eq_some_iff.1 hj
      have e : (⟨b, o, none⟩ : Addr).add j = ⟨b, o + j, none⟩ := by unfold Addr.add; split <;> simp_all
      rw [e, BytesAt.cell h j (by simpa using hj')]
      simp)
    simp only [List.length_map, ← hn] at h1
    simp only [Extern.Bytes.bytesOf, h1]
    congr 2
    have e2 : Lib.bytesOf (bs.map fun x => (x.toNat : Int)) = bs := by
      simp [Lib.bytesOf, List.map_map, Function.comp_def]
    rw [e2]
    show (#[] : Array UInt8) ++ bs.toArray = bs.toArray
    simp
theorem run_compare_at {P : Program} {F G : Nat → Prop} {w : World} {a a' : Option Addr} {n n' c c' : Nat} {bs ds : List UInt8} (h : BytesAt F w (.slice a n c) bs) (k : BytesAt G w (.slice a' n' c') ds) :
    (Extern.BytealgCompare.compare #[.slice a n c, .slice a' n' c']).run P w = .ok (.int .i64 (Lib.compareBytes bs ds)) w := by
  change Sem.run P (do pure (goInt (Extern.BytealgCompare.cmp (← Extern.Bytes.bytesOf (.slice a n c)) (← Extern.Bytes.bytesOf (.slice a' n' c'))))) w = _
  simp only [Sem.run_bind, run_bytesOf_at h, run_bytesOf_at k, Sem.run_pure, Result.andThen]
  rw [Lib.cmp_eq]
  rfl
/-- string(b) -/
theorem run_string_at {P : Program} {F : Nat → Prop} {w : World} {a : Option Addr} {n c : Nat} {bs : List UInt8} (h : BytesAt F w (.slice a n c) bs) (src e dst : TypeId) (hs : P.underlying src = some (.slice e)) (he : P.underlying e = some (.int .u8)) (hd : P.underlying dst = some .string) :
    (convert src dst (.slice a n c)).run P w = .ok (.string ⟨bs.toArray⟩) w := by
  have hnil : (⟨#[]⟩ : ByteArray) = ByteArray.empty := rfl
  rcases SliceAt.split h with ⟨rfl, rfl⟩ | ⟨b, o, rfl, hn, hp, hF⟩
  · cases a with
    | none => rw [run_convert_bytes_nil w src e hs he 0 c dst hd]; rfl
    | some ad =>
      rw [run_convert_bytes_string w src dst e _ 0 c hs he hd]
      rw [run_bytesToString w ad 0 c [] (by simp [loadCells, loadCellsFrom])]
      rfl
  · rw [run_convert_bytes_arg w src e hs he b o n c (bs.map fun x => (x.toNat : Int)) (by simp [hn]) (fun i hi => by
      rw [BytesAt.cell h i (by omega)]
      simp [List.getElem?_eq_getElem (show i < bs.length by omega)]) dst hd]
    congr 2
    unfold strOfNums
    simp [List.map_map, Function.comp_def]
/-- each ahead of the next one -/
def rising : List (List UInt8) → Bool
  | [] => true
  | [_] => true
  | a :: b :: r => decide (Lib.compareBytes a b < 0) && rising (b :: r)
theorem rising_step (l : List (List UInt8)) (k : Nat) (h0 : 1 ≤ k) (h : k < l.length) : rising (l.drop (k - 1)) = (decide (Lib.compareBytes (l[k - 1]'(by omega)) l[k] < 0) && rising (l.drop k)) := by
  have e1 : l.drop (k - 1) = (l[k - 1]'(by omega)) :: l.drop k := by
    have := List.drop_eq_getElem_cons (l := l) (i := k - 1) (by omega)
    rwa [show k - 1 + 1 = k by omega] at this
  have e2 : l.drop k = l[k] :: l.drop (k + 1) := List.drop_eq_getElem_cons h
  rw [e1, e2]; rfl
theorem rising_end (l : List (List UInt8)) (k : Nat) (h : l.length ≤ k) : rising (l.drop (k - 1)) = true := by
  have hl : (l.drop (k - 1)).length ≤ 1 := by rw [List.length_drop]; omega
  match l.drop (k - 1), hl with
  | [], _ => rfl
  | [_], _ => rfl
end Go.Pg
namespace Go.Proofs.Ytndkkgkcbbmnpaa
open Go.RowKit Go.Pg

set_option maxHeartbeats 400000 in
set_option maxRecDepth 100000 in
theorem compare_any (F G : Nat → Prop) (w : World) (u v : Value) (bs ds : List UInt8) (h : BytesAt F w u bs) (k : BytesAt G w v ds) :
    Calls Try.prog 68 #[u, v] w fun e w' => e = .returned (.int .i64 (Lib.compareBytes bs ds)) ∧ w = w' := by
  obtain ⟨a, c, rfl, -, -, -⟩ := SliceAt.len h
  obtain ⟨a', c', rfl, -, -, -⟩ := SliceAt.len k
  go_enter Try.func68, Try.ntmps68
  go_wp2
  rw [run_callFunc_extern Try.func89 (by kernel_rfl) (by kernel_rfl) (by kernel_rfl) (e := Extern.BytealgCompare.compare) (by kernel_rfl), run_compare_at h k]
  simp only [Result.andThen]
  rw [Oper.upon_value]
  go_wp2
  go_ret
  exact ⟨rfl, rfl⟩

set_option maxRecDepth 100000 in
set_option maxHeartbeats 1000000 in
theorem rises_any (F : Nat → Prop) (w : World) (v : Value) (l : List (List UInt8)) (h : RowsAt F w v l) (hl : l.length ≤ 1152921504606846976) :
    Calls Try.prog 40 #[v] w fun e w' => e = .returned (.bool (rising l)) ∧ Below w.heap.size w w' := by
  obtain ⟨a, c, rfl, -, -, -⟩ := SliceAt.len h
  obtain ⟨n, hn⟩ : ∃ n, n = l.length := ⟨_, rfl⟩
  rw [← hn] at h hl ⊢
  have HN := Lib.hid hn
  clear hn
  go_enter Try.func40, Try.ntmps40
  go_wp2
  go_loopw [3] (fun i wr => ∃ k : Nat, 1 ≤ k ∧ k ≤ n + 1 ∧ i = .int .i64 k ∧ Hid (rising l = rising (l.drop (k - 1))) ∧ Hid (Below w.heap.size w wr)) (fun i _ => n + 1 - (intOf i).toNat)
  case atStart => exact ⟨1, Nat.le_refl _, by omega, rfl, rfl, Bel.refl w⟩
  case round =>
    obtain ⟨k, h1, hk, rfl, HR, HB⟩ := hrel
    have hN := HN.out
    by_cases hlt : k < n
    · rcases SliceAt.split h with ⟨_, h0⟩ | ⟨b, o, rfl, -, -, -⟩
      · omega
      have h' := RowsAt.below h HB.out
      obtain ⟨u1, c1, t1⟩ := RowsAt.cell h' (k - 1) (by omega)
      obtain ⟨u2, c2, t2⟩ := RowsAt.cell h' k (by omega)
      obtain ⟨x1, hx1⟩ : ∃ x, x = l[k - 1]'(by omega) := ⟨_, rfl⟩
      obtain ⟨x2, hx2⟩ : ∃ x, x = l[k]'(by omega) := ⟨_, rfl⟩
      have hst := rising_step l k h1 (by omega)
      rw [← hx1, ← hx2] at hst
      rw [← hx1] at t1
      rw [← hx2] at t2
      have HS := Lib.hid (HR.out.trans hst)
      clear hst hx1 hx2 h' hN HR
      have hadd : ((k : Int) - 1).toNat = k - 1 := by omega
      have hwr1 : IntKind.i64.wrap ((k : Int) - 1) = (k : Int) - 1 := IntWalk.i64_in _ (by omega)
      have z1 : (1 : Int) ≤ (k : Int) := by omega
      have z2 : (0 : Int) ≤ (k : Int) - 1 := by omega
      have z3 : (k : Int) - 1 < (n : Int) := by omega
      have z4 : (k : Int) < (n : Int) := by omega
      go_wp2
      go_quiet (((go_at_call 68; exact Calls.quiet_of_same ((compare_any F F _ u1 u2 x1 x2 (t1.draws _) (t2.draws _)).mono fun _ _ ⟨p, q⟩ => ⟨p, q.symm⟩))))
      have HBd : ∀ m, Below w.heap.size w (wr.drewN m) := fun m => ⟨HB.out.os, HB.out.tape, HB.out.output, HB.out.size, HB.out.block⟩
      have HBD := Lib.hid HBd
      obtain ⟨q, hq⟩ : ∃ q, q = Lib.compareBytes x1 x2 := ⟨_, rfl⟩
      rw [← hq]
      have HQ := Lib.hid hq
      clear hq HBd t1 t2 c1 c2
      by_cases hneg : q < 0
      · go_wp2
        go_roundw
        case rel => exact ⟨k + 1, by omega, by omega, num_eq (by omega), (by show _ = _; rw [HS.out, ← HQ.out]; simp [hneg]), HBD.out _⟩
        case measure => simp [intOf]; omega
      · go_wp2
        go_ret
        exact ⟨ret_bool (by rw [HS.out, ← HQ.out]; simp; intro h; omega), HBD.out _⟩
    · go_wp2
      go_ret
      exact ⟨ret_bool (by rw [HR.out, rising_end l k (by omega)]), HB.out⟩

end Go.Proofs.Ytndkkgkcbbmnpaa
namespace Go.Pg
open Go.RowKit
theorem mul_u64 (p : Nat) (x : UInt8) (hp : p < 256 ^ 7) : IntKind.u64.wrap (IntKind.u64.wrap ((p : Int) * 256) + IntKind.u64.wrap (x.toNat : Int)) = ((p * 256 + x.toNat : Nat) : Int) := by
  have hx := x.toNat_lt
  rw [IntWalk.u64_in (x.toNat : Int) (by omega), IntWalk.u64_in ((p : Int) * 256) (by omega), IntWalk.u64_in _ (by omega)]
  omega
theorem beNum_be (k n : Nat) (h : n < 256 ^ k) : beNum (beBytes k n) = n := by
  induction k generalizing n with
  | zero => have : n = 0 := by simpa using h
            subst this; rfl
  | succ k ih =>
    simp only [beBytes]
    rw [beNum_snoc, ih (n / 256) (by rw [Nat.pow_succ] at h; exact Nat.div_lt_of_lt_mul (by omega)), UInt8.toNat_ofNat', Nat.mod_eq_of_lt (Nat.mod_lt _ (by omega))]
    omega
theorem lt_number (n : Nat) : n < 256 ^ number n := by
  induction n using Nat.strongRecOn with
  | _ n ih =>
    by_cases h : n = 0
    · subst h; rw [number_zero]; exact Nat.one_pos
    · rw [number_pos (n := n) (by omega), Nat.pow_succ]
      have := ih (n / 256) (by omega)
      omega
theorem beNum_wordB (n : Nat) : beNum (wordB n) = n := by
  unfold wordB
  exact beNum_be _ _ (lt_number n)
theorem be_beNum (l : List UInt8) : ∀ k, k ≤ l.length → beBytes k (beNum (l.take k)) = l.take k := by
  intro k
  induction k with
  | zero => intro _; simp [beBytes]
  | succ k ih =>
    intro h
    rw [number_snoc l k (by omega)]
    simp only [beBytes]
    have hx := (l[k]).toNat_lt
    rw [show (beNum (l.take k) * 256 + (l[k]).toNat) / 256 = beNum (l.take k) by omega, show (beNum (l.take k) * 256 + (l[k]).toNat) % 256 = (l[k]).toNat by omega, ih (by omega), List.take_succ_eq_append_getElem (by omega)]
    congr 2
    exact UInt8.ofNat_toNat
theorem wordB_beNum (l : List UInt8) : wordB (beNum l) = l.dropWhile (· == 0) := by
  rw [← strip_be l.length (beNum l) (beNum_lt l)]
  have := be_beNum l l.length (Nat.le_refl _)
  rw [List.take_length] at this
  rw [this]
theorem wordB_beNum_iff (l : List UInt8) : wordB (beNum l) = l ↔ l.head? ≠ some 0 := by
  rw [wordB_beNum]
  cases l with
  | nil => simp
  | cons x t =>
    by_cases h : x = 0
    · subst h
      simp only [List.head?_cons, ne_eq, not_true, iff_false]
      intro e
      have := congrArg List.length e
      have h2 := (List.dropWhile_suffix (l := t) (fun x : UInt8 => x == 0)).length_le
      simp at this
      omega
    · have : (x == 0) = false := by simpa using h
      simp [this, h]
theorem beNum_w64 (l : List UInt8) (h : l.length ≤ 8) : (beNum l : Int) < 18446744073709551616 := by
  have h1 := beNum_lt l
  have h2 : 256 ^ l.length ≤ 256 ^ 8 := Nat.pow_le_pow_right (by omega) h
  have h3 : beNum l < 256 ^ 8 := Nat.lt_of_lt_of_le h1 h2
  omega
end Go.Pg
namespace Go.Proofs.Ytndkkgkcbbmnpaa
open Go.RowKit Go.Pg

set_option maxRecDepth 100000 in
set_option maxHeartbeats 1000000 in
theorem rread_any (F : Nat → Prop) (w : World) (a : Option Addr) (n c : Nat) (bs : List UInt8) (h : BytesAt F w (.slice a n c) bs) :
    Calls Try.prog 83 #[.slice a n c] w fun e w' => e = .returned (.tuple #[.int .u64 (readWord bs).1, .bool (readWord bs).2]) ∧ Below w.heap.size w w' := by
  obtain ⟨hn, hnc, hcm⟩ := BytesAt.n h
  by_cases h8 : 8 < n
  · have hr : readWord bs = (0, false) := by unfold readWord; rw [if_pos (.inl (by omega))]
    rw [hr]
    have hn8 : (8 : Int) < (n : Int) := by omega
    clear hr hn h h8 hnc hcm
    go_enter Try.func83, Try.ntmps83
    go_wp2
    go_ret2
    exact ⟨rfl, Bel.refl _⟩
  · have hn8 : (n : Int) ≤ 8 := by omega
    unfold maxLen at hcm
    have H := Lib.hid h
    have HN := Lib.hid hn
    clear h hn h8
    go_enter Try.func83, Try.ntmps83
    go_wp2
    go_loop [4, 5] (fun s i => ∃ k : Nat, k ≤ n ∧ i = .int .i64 k ∧ s = .int .u64 (beNum (bs.take k))) (fun _ i => n - (intOf i).toNat)
    case atStart => exact ⟨0, by omega, rfl, rfl⟩
    case round =>
      obtain ⟨k, hk, rfl, rfl⟩ := hrel
      by_cases hlt : k < n
      · rcases SliceAt.split H.out with ⟨_, h0⟩ | ⟨b, o, rfl, -, -, -⟩
        · omega
        have hc := BytesAt.cell H.out k (by have := HN.out; omega)
        obtain ⟨p, hp⟩ : ∃ p, p = beNum (bs.take k) := ⟨_, rfl⟩
        obtain ⟨x, hx⟩ : ∃ x, x = bs[k]'(by have := HN.out; omega) := ⟨_, rfl⟩
        rw [← hx] at hc
        rw [← hp]
        have HP := Lib.hid hp
        have HX := Lib.hid hx
        have hk0 : (0 : Int) ≤ (k : Int) := by omega
        have hk1 : (k : Int) < (n : Int) := by omega
        clear hp hx
        go_wp2
        go_round
        case rel => exact ⟨k + 1, by omega, num_eq (by omega), num_eq (by rw [number_snoc bs k (by have := HN.out; omega), ← HP.out, ← HX.out]; exact mul_u64 p x (by rw [HP.out]; exact beNum_small bs k (by omega)))⟩
        case measure => simp [intOf]; omega
      · obtain rfl : n = k := by omega
        rw [List.take_of_length_le (by have := HN.out; omega)]
        obtain ⟨p, hp⟩ : ∃ p, p = beNum bs := ⟨_, rfl⟩
        have hpb := beNum_w64 bs (by have := HN.out; omega)
        rw [← hp] at hpb ⊢
        have HP := Lib.hid hp
        have hs : ∀ w' : World, Below w.heap.size w w' → (convert 25 9 (.slice a n c)).run Try.prog w' = .ok (.string ⟨bs.toArray⟩) w' := fun w' hb => run_string_at (P := Try.prog) (BytesAt.below H.out hb) 25 5 9 Try.underlying25 Try.underlying5 Try.underlying9
        obtain ⟨L, hL⟩ : ∃ L, L = wordB p := ⟨_, rfl⟩
        have hcall : ∀ w1 : World, Calls Try.prog 81 #[.int .u64 p] w1 (Fresh w1 5 1 byteR L) := fun w1 => by rw [hL]; exact r3bytes_any p w1 hpb
        have HL := Lib.hid hL
        have HC := Lib.hid hcall
        clear hp hpb hL hcall
        go_wp2_with fail
        have hs0 := hs w.drew (Bel.drew (Bel.refl _))
        have HS := Lib.hid hs
        clear hs
        go_region_with (first
            | (go_at_call 81; refine (HC.out _).mono ?_; rintro e w1 ⟨v1, rfl, ho, hb1⟩; obtain ⟨a1, c1, rfl, -, -, -⟩ := ho.len; have hs1 := run_string_at (P := Try.prog) (ho.at (F := fun _ => True) (fun _ _ _ _ => trivial) (by decide)) 25 5 9 Try.underlying25 Try.underlying5 Try.underlying9; have hs2 := HS.out w1 (Bel.call (Bel.drew (Bel.refl _)) hb1)))
        all_goals
          have hlen8 : ¬ 8 < bs.length := by have := HN.out; omega
          have HBX := Lib.hid (Bel.call (Bel.drew (Bel.refl w)) hb1)
          have H8 := Lib.hid hlen8
          clear hs0 hs1 hs2 hb1 ho hlen8 hcm hnc hlt hk
          go_wp2
          · have hne : ¬ L = bs := by
              have h : (!L == bs) = true := by assumption
              simpa using h
            have hr : readWord bs = (0, false) := by
              unfold readWord; rw [if_pos]
              rw [HL.out, HP.out, wordB_beNum_iff] at hne
              exact .inr (Classical.not_not.1 hne)
            go_ret2
            exact ⟨by rw [hr]; rfl, HBX.out⟩
          · have hne : L = bs := by
              have h : (!L == bs) = false := by assumption
              simpa using h
            have hr : readWord bs = (p, true) := by
              unfold readWord
              rw [HL.out, HP.out, wordB_beNum_iff] at hne
              rw [if_neg (fun h => h.elim H8.out hne), HP.out]
            go_ret2
            exact ⟨by rw [hr]; rfl, HBX.out⟩
end Go.Proofs.Ytndkkgkcbbmnpaa
namespace Go.Proofs.Ytndkkgkcbbmnpaa
open Go.RowKit Go.Pg

def RotD (w : World) (x : Int) (n : Nat) (e : Ending) (w' : World) : Prop := e = .returned (.int .u64 (rotW x n)) ∧ w = w'
def RotQ (w : World) (x : Int) (n : Nat) (e : Ending) (w' : World) : Prop := e = .returned (.int .u64 (rotW x n)) ∧ ∃ k, w' = w.drewN k
set_option maxRecDepth 100000 in
set_option maxHeartbeats 1000000 in
theorem rotl_32 (x : Int) (w : World) (_h0 : 0 ≤ x) (_h1 : x ≤ 18446744073709551615) : Calls Try.prog 114 #[.int .u64 x, .int .i64 32] w (RotD w x 32) := by
  have hb : bits .and .u64 32 63 = 32 := by rfl
  go_enter Try.func114, Try.ntmps114
  go_wp2
  go_ret
  exact ⟨rfl, rfl⟩
set_option maxRecDepth 100000 in
set_option maxHeartbeats 1000000 in
theorem rrot_32 (x : Int) (w : World) (_h0 : 0 ≤ x) (_h1 : x ≤ 18446744073709551615) : Calls Try.prog 65 #[.int .u64 x, .int .i64 32] w (RotQ w x 32) := by
  go_enter Try.func65, Try.ntmps65
  go_wp2
  go_quiet (fail)
  go_wp2
  go_ret
  exact ⟨rfl, _, rfl⟩
set_option maxRecDepth 100000 in
set_option maxHeartbeats 1000000 in
theorem rotl_24 (x : Int) (w : World) (_h0 : 0 ≤ x) (_h1 : x ≤ 18446744073709551615) : Calls Try.prog 114 #[.int .u64 x, .int .i64 24] w (RotD w x 24) := by
  have hb : bits .and .u64 24 63 = 24 := by rfl
  go_enter Try.func114, Try.ntmps114
  go_wp2
  go_ret
  exact ⟨rfl, rfl⟩
set_option maxRecDepth 100000 in
set_option maxHeartbeats 1000000 in
theorem rrot_24 (x : Int) (w : World) (_h0 : 0 ≤ x) (_h1 : x ≤ 18446744073709551615) : Calls Try.prog 65 #[.int .u64 x, .int .i64 24] w (RotQ w x 24) := by
  go_enter Try.func65, Try.ntmps65
  go_wp2
  go_quiet (fail)
  go_wp2
  go_ret
  exact ⟨rfl, _, rfl⟩
set_option maxRecDepth 100000 in
set_option maxHeartbeats 1000000 in
theorem rotl_16 (x : Int) (w : World) (_h0 : 0 ≤ x) (_h1 : x ≤ 18446744073709551615) : Calls Try.prog 114 #[.int .u64 x, .int .i64 16] w (RotD w x 16) := by
  have hb : bits .and .u64 16 63 = 16 := by rfl
  go_enter Try.func114, Try.ntmps114
  go_wp2
  go_ret
  exact ⟨rfl, rfl⟩
set_option maxRecDepth 100000 in
set_option maxHeartbeats 1000000 in
theorem rrot_16 (x : Int) (w : World) (_h0 : 0 ≤ x) (_h1 : x ≤ 18446744073709551615) : Calls Try.prog 65 #[.int .u64 x, .int .i64 16] w (RotQ w x 16) := by
  go_enter Try.func65, Try.ntmps65
  go_wp2
  go_quiet (fail)
  go_wp2
  go_ret
  exact ⟨rfl, _, rfl⟩
set_option maxRecDepth 100000 in
set_option maxHeartbeats 1000000 in
theorem rotl_63 (x : Int) (w : World) (_h0 : 0 ≤ x) (_h1 : x ≤ 18446744073709551615) : Calls Try.prog 114 #[.int .u64 x, .int .i64 63] w (RotD w x 63) := by
  have hb : bits .and .u64 63 63 = 63 := by rfl
  go_enter Try.func114, Try.ntmps114
  go_wp2
  go_ret
  exact ⟨rfl, rfl⟩
set_option maxRecDepth 100000 in
set_option maxHeartbeats 1000000 in
theorem rrot_63 (x : Int) (w : World) (_h0 : 0 ≤ x) (_h1 : x ≤ 18446744073709551615) : Calls Try.prog 65 #[.int .u64 x, .int .i64 63] w (RotQ w x 63) := by
  go_enter Try.func65, Try.ntmps65
  go_wp2
  go_quiet (fail)
  go_wp2
  go_ret
  exact ⟨rfl, _, rfl⟩

set_option maxRecDepth 100000 in
set_option maxHeartbeats 1000000 in
theorem dword_any (F : Nat → Prop) (w : World) (a : Option Addr) (n c : Nat) (bs : List UInt8) (h : BytesAt F w (.slice a n c) bs) (h8 : 8 ≤ n) :
    Calls Try.prog 113 #[.slice a n c] w fun e w' => e = .returned (.int .u64 (wordAt bs 0)) ∧ w = w' := by
  obtain ⟨hn, hnc, hcm⟩ := BytesAt.n h
  unfold maxLen at hcm
  rcases SliceAt.split h with ⟨rfl, h0⟩ | ⟨b, o, rfl, -, -, -⟩
  · simp at hn; omega
  have HN := Lib.hid hn
  have H := Lib.hid h
  have h8c : 8 ≤ c := by omega
  clear h hn
  go_enter Try.func113, Try.ntmps113
  go_wp2
  go_loop [3, 9] (fun s i => ∃ k : Nat, k ≤ 8 ∧ i = .int .i64 k ∧ s = .int .u64 (beNum (bs.take k))) (fun _ i => 8 - (intOf i).toNat)
  case atStart => exact ⟨0, by omega, rfl, rfl⟩
  case round =>
    obtain ⟨k, hk, rfl, rfl⟩ := hrel
    by_cases hlt : k < 8
    · have hc := BytesAt.cell H.out k (by have := HN.out; omega)
      obtain ⟨p, hp⟩ : ∃ p, p = beNum (bs.take k) := ⟨_, rfl⟩
      obtain ⟨x, hx⟩ : ∃ x, x = bs[k]'(by have := HN.out; omega) := ⟨_, rfl⟩
      rw [← hx] at hc
      rw [← hp]
      have HP := Lib.hid hp
      have HX := Lib.hid hx
      have hk0 : (0 : Int) ≤ (k : Int) := by omega
      have hk1 : (k : Int) < 8 := by omega
      clear hp hx
      go_wp2
      go_round
      case rel => exact ⟨k + 1, by omega, num_eq (by omega), num_eq (by rw [number_snoc bs k (by have := HN.out; omega), ← HP.out, ← HX.out]; exact or_u64 p x (by rw [HP.out]; exact beNum_small bs k (by omega)))⟩
      case measure => simp [intOf]; omega
    · obtain rfl : k = 8 := by omega
      go_wp2
      go_ret
      exact ⟨rfl, rfl⟩

set_option maxRecDepth 100000 in
set_option maxHeartbeats 1000000 in
theorem rword_any (F : Nat → Prop) (w : World) (a : Option Addr) (n c : Nat) (bs : List UInt8) (h : BytesAt F w (.slice a n c) bs) (at_ : Nat) (ai : Int) (hai : ai = at_) (h8 : at_ + 8 ≤ n) :
    Calls Try.prog 64 #[.slice a n c, .int .i64 ai] w fun e w' => e = .returned (.int .u64 (wordAt bs at_)) ∧ w = w' := by
  subst hai
  obtain ⟨hn, hnc, hcm⟩ := BytesAt.n h
  unfold maxLen at hcm
  rcases SliceAt.split h with ⟨rfl, h0⟩ | ⟨b, o, rfl, -, -, -⟩
  · simp at hn; omega
  have HN := Lib.hid hn
  have H := Lib.hid h
  clear h hn
  go_enter Try.func64, Try.ntmps64
  go_wp2
  go_loop [5, 6] (fun s i => ∃ k : Nat, k ≤ 8 ∧ i = .int .i64 k ∧ s = .int .u64 (beNum ((bs.drop at_).take k))) (fun _ i => 8 - (intOf i).toNat)
  case atStart => exact ⟨0, by omega, rfl, rfl⟩
  case round =>
    obtain ⟨k, hk, rfl, rfl⟩ := hrel
    by_cases hlt : k < 8
    · have hc := BytesAt.cell H.out (at_ + k) (by have := HN.out; omega)
      obtain ⟨p, hp⟩ : ∃ p, p = beNum ((bs.drop at_).take k) := ⟨_, rfl⟩
      obtain ⟨x, hx⟩ : ∃ x, x = bs[at_ + k]'(by have := HN.out; omega) := ⟨_, rfl⟩
      rw [← hx] at hc
      rw [← hp]
      have HP := Lib.hid hp
      have HX := Lib.hid hx
      have hk0 : (0 : Int) ≤ (k : Int) := by omega
      have hk1 : (at_ : Int) + (k : Int) < (n : Int) := by omega
      clear hp hx
      go_wp2
      go_round
      case rel => exact ⟨k + 1, by omega, num_eq (by omega), num_eq (by rw [number_snoc (bs.drop at_) k (by rw [List.length_drop]; have := HN.out; omega), ← HP.out, List.getElem_drop, ← HX.out]; exact mul_u64 p x (by rw [HP.out]; exact beNum_small _ k (by omega)))⟩
      case measure => simp [intOf]; omega
    · obtain rfl : k = 8 := by omega
      go_wp2
      go_ret
      exact ⟨rfl, rfl⟩
end Go.Proofs.Ytndkkgkcbbmnpaa
namespace Go.Pg
open Go.RowKit
theorem bits_u64_range (op : BinOp) (a b : Int) : 0 ≤ bits op .u64 a b ∧ bits op .u64 a b ≤ 18446744073709551615 := by
  have h : ∀ n : Int, 0 ≤ IntKind.u64.wrap n ∧ IntKind.u64.wrap n ≤ 18446744073709551615 := fun n => by
    rw [IntKind.wrap_u64]; omega
  unfold bits
  exact h _
theorem wrap_u64_range (n : Int) : 0 ≤ IntKind.u64.wrap n ∧ IntKind.u64.wrap n ≤ 18446744073709551615 := by
  rw [IntKind.wrap_u64]; omega
/-- four words lie in a block -/
def St4 (w : World) (b : Nat) (t : TypeId) (s : S4) : Prop := w.heap[b]? = some (.cells s.cells t (0, 0))
theorem St4.cell {w : World} {b : Nat} {t : TypeId} {s : S4} (h : St4 w b t s) (k : Nat) (hk : k < 4) : w.cell? ⟨b, k, none⟩ = some (.int .u64 (s.get k)) := by
  rw [cell_of_row _ _ _ _ _ _ h]; exact s.cells_get k hk
theorem St4.free {w : World} {b : Nat} {t : TypeId} {s : S4} (h : St4 w b t s) (k : Nat) : w.frozen? ⟨b, k, none⟩ = false := frozen_of_row w b k _ _ h
theorem St4.set {w : World} {b : Nat} {t : TypeId} {s : S4} (h : St4 w b t s) (k : Nat) (hk : k < 4) (v : Int) : St4 (w.setCell ⟨b, k, none⟩ (.int .u64 v)) b t (s.set k v) := by
  unfold St4; rw [blk_setCell h, s.cells_set k hk]
theorem St4.far {w : World} {b b' o : Nat} {t : TypeId} {s : S4} (h : St4 w b t s) (hb : b ≠ b') (v : Value) : St4 (w.setCell ⟨b', o, none⟩ v) b t s := by
  unfold St4; rw [Below.heap_setCell _ _ _ _ hb]; exact h
theorem St4.below {w w' : World} {b : Nat} {t : TypeId} {s : S4} (h : St4 w b t s) (hb : w'.heap[b]? = w.heap[b]?) : St4 w' b t s := hb.trans h
theorem St4.new (w : World) (t : TypeId) (s : S4) {b : Nat} (h : b = w.heap.size) : St4 (w.alloc (.cells s.cells t)) b t s := by subst h; exact heap_alloc_new w _
theorem St4.lt {w : World} {b : Nat} {t : TypeId} {s : S4} (h : St4 w b t s) : b < w.heap.size := (Array.getElem?_eq_some_iff.1 h).1
theorem St4.alloc {w : World} {b : Nat} {t : TypeId} {s : S4} (h : St4 w b t s) (o : Obj) : St4 (w.alloc o) b t s := (Below.heap_alloc _ _ _ h.lt).trans h
theorem St4.drew {w : World} {b : Nat} {t : TypeId} {s : S4} (h : St4 w b t s) : St4 w.drew b t s := h
theorem S4.part_succ_get (t s : S4) (k : Nat) (h : k < 4) : (S4.part (k + 1) t s).get k = t.get k := by
  rcases k with _ | _ | _ | _ | k
  all_goals first | rfl | omega
theorem add_at' (b o k : Nat) : (⟨b, o, none⟩ : Addr).add k = ⟨b, o + k, none⟩ := by unfold Addr.add; split <;> simp_all
theorem wordsOf_get (l : List UInt8) (k : Nat) (h : k < 4) : (wordsOf l).get k = wordAt (l.drop (8 * k)) 0 := by
  have e : wordAt (l.drop (8 * k)) 0 = wordAt l (8 * k) := by unfold wordAt; rw [List.drop_zero]
  rw [e]
  rcases k with _ | _ | _ | _ | k
  all_goals first | rfl | omega
end Go.Pg
namespace Go.Proofs.Ytndkkgkcbbmnpaa
open Go.RowKit Go.Pg

def MixD (w : World) (r : S4) (e : Ending) (w' : World) : Prop := e = .returned (.agg r.cells) ∧ Below w.heap.size w w'
/-- how far the call is: its words x, those of the beginning p, those of the text m -/
structure MixSt (w wr : World) (x p m : S4) : Prop where
  bel : Below w.heap.size w wr
  lt : w.heap.size + 1 + 1 + 1 < wr.heap.size
  sx : St4 wr w.heap.size 121 x
  sr : St4 wr (w.heap.size + 1) 121 ⟨0, 0, 0, 0⟩
  sp : St4 wr (w.heap.size + 1 + 1) 121 p
  sm : St4 wr (w.heap.size + 1 + 1 + 1) 120 m
theorem MixSt.drew {w wr : World} {x p m : S4} (h : MixSt w wr x p m) : MixSt w wr.drew x p m := ⟨h.bel.drew, h.lt, h.sx, h.sr, h.sp, h.sm⟩
theorem MixSt.setx {w wr : World} {x p m : S4} (h : MixSt w wr x p m) (k : Nat) (hk : k < 4) (v : Int) : MixSt w (wr.setCell ⟨w.heap.size, k, none⟩ (.int .u64 v)) (x.set k v) p m :=
  ⟨h.bel.setCell (Nat.le_refl _) _, by simpa using h.lt, h.sx.set k hk v, h.sr.far (by omega) _, h.sp.far (by omega) _, h.sm.far (by omega) _⟩
theorem MixSt.setm {w wr : World} {x p m : S4} (h : MixSt w wr x p m) (k : Nat) (hk : k < 4) (v : Int) : MixSt w (wr.setCell ⟨w.heap.size + 1 + 1 + 1, k, none⟩ (.int .u64 v)) x p (m.set k v) :=
  ⟨h.bel.setCell (by show w.heap.size ≤ w.heap.size + 1 + 1 + 1; omega) _, by simpa using h.lt, h.sx.far (by omega) _, h.sr.far (by omega) _, h.sp.far (by omega) _, h.sm.set k hk v⟩
theorem MixSt.cells {w wr : World} {xa xb xc xd : Int} {p m : S4} (h : MixSt w wr ⟨xa, xb, xc, xd⟩ p m) :
    (wr.cell? ⟨w.heap.size, 0, none⟩ = some (.int .u64 xa) ∧ wr.cell? ⟨w.heap.size, 1, none⟩ = some (.int .u64 xb) ∧ wr.cell? ⟨w.heap.size, 2, none⟩ = some (.int .u64 xc) ∧ wr.cell? ⟨w.heap.size, 3, none⟩ = some (.int .u64 xd)) ∧
      wr.frozen? ⟨w.heap.size, 0, none⟩ = false ∧ wr.frozen? ⟨w.heap.size, 1, none⟩ = false ∧ wr.frozen? ⟨w.heap.size, 2, none⟩ = false ∧ wr.frozen? ⟨w.heap.size, 3, none⟩ = false :=
  ⟨⟨h.sx.cell 0 (by omega), h.sx.cell 1 (by omega), h.sx.cell 2 (by omega), h.sx.cell 3 (by omega)⟩, h.sx.free 0, h.sx.free 1, h.sx.free 2, h.sx.free 3⟩
set_option maxRecDepth 100000 in
set_option maxHeartbeats 4000000 in
theorem mixed_any (F : Nat → Prop) (w : World) (s : S4) (a : Option Addr) (n c : Nat) (bs : List UInt8) (h : BytesAt F w (.slice a n c) bs) (h32 : 32 ≤ n) :
    Calls Try.prog 100 #[.agg s.cells, .slice a n c] w (MixD w (mixedS s (wordsOf bs))) := by
  obtain ⟨hn, hnc, hcm⟩ := BytesAt.n h
  unfold maxLen at hcm
  rcases SliceAt.split h with ⟨rfl, h0⟩ | ⟨b, o, rfl, -, -, -⟩
  · simp at hn; omega
  obtain ⟨m, hm⟩ : ∃ m, m = wordsOf bs := ⟨_, rfl⟩
  rw [← hm]
  have hmw : ∀ k, k < 4 → m.get k = wordAt (bs.drop (8 * k)) 0 := fun k hk => by rw [hm]; exact wordsOf_get bs k hk
  have HM := Lib.hid hmw
  have HN := Lib.hid hn
  have H := Lib.hid h
  obtain ⟨p, hp⟩ : ∃ p, p = s := ⟨_, rfl⟩
  obtain ⟨sa, sb, sc, sd⟩ := s
  obtain ⟨R, hR⟩ : ∃ R, R = mixedS ⟨sa, sb, sc, sd⟩ m := ⟨_, rfl⟩
  rw [← hR]
  rw [← hp] at hR
  simp only [S4.cells]
  have HR := Lib.hid hR
  have HP := Lib.hid hp
  clear h hn hm hmw hR hp
  go_enter Try.func100, Try.ntmps100
  go_wp2
  go_step3
  go_wp2
  go_loopw [12] (fun i wr => ∃ k : Nat, k ≤ 4 ∧ i = .int .i64 k ∧ Hid (MixSt w wr (S4.part k (S4.xor p m) p) p (S4.part k m ⟨0, 0, 0, 0⟩))) (fun i _ => 4 - (intOf i).toNat)
  case atStart =>
    refine ⟨0, by omega, rfl, ?_⟩
    rw [S4.part_zero, S4.part_zero, HP.out]
    exact ⟨Bel.alloc (Bel.alloc (Bel.alloc (Bel.alloc (Bel.refl w) _) _) _) _, by simp, (((St4.new w _ ⟨sa, sb, sc, sd⟩ rfl).alloc _).alloc _).alloc _, ((St4.new _ _ ⟨0, 0, 0, 0⟩ (by simp)).alloc _).alloc _, (St4.new _ _ ⟨sa, sb, sc, sd⟩ (by simp)).alloc _, St4.new _ _ ⟨0, 0, 0, 0⟩ (by simp)⟩
  case round =>
    obtain ⟨k, hk, rfl, HS⟩ := hrel
    by_cases hlt : k < 4
    · have g1 := HS.out.sx.cell k hlt
      have g2 := HS.out.sx.free k
      have g3 := HS.out.sm.cell k hlt
      have g4 := HS.out.sm.free k
      have hs := BytesAt.since (BytesAt.below H.out HS.out.bel) (8 * k) (by omega) (a2 := some ⟨b, o + 8 * k, none⟩) (by rw [if_neg (by omega)]; simp only [Option.map_some, add_at'])
      have hmk := HM.out k hlt
      have HSL := Lib.hid hs
      have HMK := Lib.hid hmk
      have hk0 : (0 : Int) ≤ (k : Int) := by omega
      have hk1 : (k : Int) < 4 := by omega
      have hkc : ((8 * k : Nat) : Int) ≤ (c : Int) := by omega
      have hkn : ((8 * k : Nat) : Int) ≤ (n : Int) := by omega
      clear hs hmk
      go_wp2_with fail
      refine (dword_any _ _ _ _ _ _ HSL.out (by omega)).mono ?_
      rintro e w' ⟨rfl, rfl⟩
      rw [← HMK.out]
      go_wp2_with fail
      obtain ⟨W, hW⟩ : ∃ W, W = wr.setCell ⟨w.heap.size + 1 + 1 + 1, k, none⟩ (.int .u64 (m.get k)) := ⟨_, rfl⟩
      rw [← hW]
      have HW : Hid (MixSt w W (S4.part k (S4.xor p m) p) p (S4.part (k + 1) m ⟨0, 0, 0, 0⟩)) := by
        rw [hW, ← S4.part_set m ⟨0, 0, 0, 0⟩ k hlt]
        exact HS.out.setm k hlt _
      clear hW HS g1 g2 g3 g4
      have g1 := HW.out.sx.cell k hlt
      have g2 := HW.out.sx.free k
      have g3 := HW.out.sm.cell k hlt
      rw [S4.part_get _ _ _ hlt] at g1
      rw [S4.part_succ_get m ⟨0, 0, 0, 0⟩ k hlt] at g3
      go_region
      have HN1 : Hid (MixSt w ((W.setCell ⟨w.heap.size, k, none⟩ (.int .u64 (bits .xor .u64 (p.get k) (m.get k)))).drew) (S4.part (k + 1) (S4.xor p m) p) p (S4.part (k + 1) m ⟨0, 0, 0, 0⟩)) := by
        rw [← S4.part_set _ p k hlt, S4.xor_get _ _ k hlt]
        exact (HW.out.setx k hlt _).drew
      clear HW g1 g2 g3
      go_wp2
      go_roundw
      case rel => exact ⟨k + 1, by omega, num_eq (by omega), HN1⟩
      case measure => simp [intOf]; omega
    · obtain rfl : k = 4 := by omega
      have hH := HS.out
      rw [S4.part_four, S4.part_four] at hH
      have HH := Lib.hid hH
      clear HS hlt hH
      go_wp2
      go_step3
      go_wp2
      rw [show ((4 : Nat) : Int) = 4 from rfl]
      go_loopw [8, 9] (fun kv rv W => ∃ r : Nat, r < 8 ∧ rv = .int .i64 r ∧ kv = .int .u64 (kay r) ∧ Hid (MixSt w W (rounds m (S4.xor p m) r) p m)) (fun _ rv _ => 8 - (intOf rv).toNat)
      case atStart => exact ⟨0, by omega, rfl, by rw [kay_zero], HH⟩
      case round =>
        obtain ⟨r, hr, rfl, rfl, HX⟩ := hrel
        obtain ⟨X, hX⟩ : ∃ X, X = rounds m (S4.xor p m) r := ⟨_, rfl⟩
        rw [← hX] at HX
        have HXE := Lib.hid hX
        clear hX
        obtain ⟨xa, xb, xc, xd⟩ := X
        obtain ⟨q0, q1, q2, q3⟩ : wr.cell? ⟨w.heap.size, 0, none⟩ = some (.int .u64 xa) ∧ wr.cell? ⟨w.heap.size, 1, none⟩ = some (.int .u64 xb) ∧ wr.cell? ⟨w.heap.size, 2, none⟩ = some (.int .u64 xc) ∧ wr.cell? ⟨w.heap.size, 3, none⟩ = some (.int .u64 xd) :=
          ⟨HX.out.sx.cell 0 (by omega), HX.out.sx.cell 1 (by omega), HX.out.sx.cell 2 (by omega), HX.out.sx.cell 3 (by omega)⟩
        have f0 := HX.out.sx.free 0
        have f1 := HX.out.sx.free 1
        have f2 := HX.out.sx.free 2
        have f3 := HX.out.sx.free 3
        have gm := HX.out.sm.cell (r % 4) (Nat.mod_lt _ (by omega))
        obtain ⟨y, hy⟩ : ∃ y, y = m.get (r % 4) := ⟨_, rfl⟩
        rw [← hy] at gm
        have HY := Lib.hid hy
        obtain ⟨ky, hky⟩ : ∃ ky, ky = kay r := ⟨_, rfl⟩
        rw [← hky]
        have HK := Lib.hid hky
        have hr0 : (0 : Int) ≤ (r : Int) := by omega
        have hr1 : (r : Int) < 8 := by omega
        clear hy hky
        go_wp2
        go_region
        obtain ⟨a1, ha1⟩ : ∃ v, v = IntKind.u64.wrap (xa + IntKind.u64.wrap (IntKind.u64.wrap (xb + y) + ky)) := ⟨_, rfl⟩
        rw [← ha1]
        have Ha1 := Lib.hid ha1
        clear ha1
        obtain ⟨W0, hW0⟩ : ∃ v, v = (wr.setCell ⟨w.heap.size, 0, none⟩ (.int .u64 a1)).drew := ⟨_, rfl⟩
        rw [← hW0]
        have HX0 : Hid (MixSt w W0 ⟨a1, xb, xc, xd⟩ p m) := by rw [hW0]; exact (HX.out.setx 0 (by omega) a1).drew
        clear hW0 q0 q1 q2 q3 f0 f1 f2 f3
        obtain ⟨⟨q0, q1, q2, q3⟩, f0, f1, f2, f3⟩ := HX0.out.cells
        clear gm
        go_wp2_with fail
        refine (rotl_32 _ _ (bits_u64_range _ _ _).1 (bits_u64_range _ _ _).2).mono ?_
        rintro e w1 ⟨rfl, rfl⟩
        obtain ⟨d1, hd1⟩ : ∃ v, v = rotW (bits .xor .u64 xd a1) 32 := ⟨_, rfl⟩
        rw [← hd1]
        have Hd1 := Lib.hid hd1
        clear hd1
        go_wp2_with fail
        obtain ⟨c1, hc1⟩ : ∃ v, v = IntKind.u64.wrap (xc + d1) := ⟨_, rfl⟩
        rw [← hc1]
        have Hc1 := Lib.hid hc1
        clear hc1
        obtain ⟨W1, hW1⟩ : ∃ v, v = ((W0.setCell ⟨w.heap.size, 3, none⟩ (.int .u64 d1)).setCell ⟨w.heap.size, 2, none⟩ (.int .u64 c1)) := ⟨_, rfl⟩
        rw [← hW1]
        have HX1 : Hid (MixSt w W1 ⟨a1, xb, c1, d1⟩ p m) := by rw [hW1]; exact ((HX0.out.setx 3 (by omega) d1).setx 2 (by omega) c1)
        clear hW1 q0 q1 q2 q3 f0 f1 f2 f3
        obtain ⟨⟨q0, q1, q2, q3⟩, f0, f1, f2, f3⟩ := HX1.out.cells
        refine (rotl_24 _ _ (bits_u64_range _ _ _).1 (bits_u64_range _ _ _).2).mono ?_
        rintro e w1 ⟨rfl, rfl⟩
        obtain ⟨b1, hb1⟩ : ∃ v, v = rotW (bits .xor .u64 xb c1) 24 := ⟨_, rfl⟩
        rw [← hb1]
        have Hb1 := Lib.hid hb1
        clear hb1
        go_wp2_with fail
        obtain ⟨a2, ha2⟩ : ∃ v, v = IntKind.u64.wrap (a1 + b1) := ⟨_, rfl⟩
        rw [← ha2]
        have Ha2 := Lib.hid ha2
        clear ha2
        obtain ⟨W2, hW2⟩ : ∃ v, v = ((W1.setCell ⟨w.heap.size, 1, none⟩ (.int .u64 b1)).setCell ⟨w.heap.size, 0, none⟩ (.int .u64 a2)) := ⟨_, rfl⟩
        rw [← hW2]
        have HX2 : Hid (MixSt w W2 ⟨a2, b1, c1, d1⟩ p m) := by rw [hW2]; exact ((HX1.out.setx 1 (by omega) b1).setx 0 (by omega) a2)
        clear hW2 q0 q1 q2 q3 f0 f1 f2 f3
        obtain ⟨⟨q0, q1, q2, q3⟩, f0, f1, f2, f3⟩ := HX2.out.cells
        refine (rotl_16 _ _ (bits_u64_range _ _ _).1 (bits_u64_range _ _ _).2).mono ?_
        rintro e w1 ⟨rfl, rfl⟩
        obtain ⟨d2, hd2⟩ : ∃ v, v = rotW (bits .xor .u64 d1 a2) 16 := ⟨_, rfl⟩
        rw [← hd2]
        have Hd2 := Lib.hid hd2
        clear hd2
        go_wp2_with fail
        obtain ⟨c2, hc2⟩ : ∃ v, v = IntKind.u64.wrap (c1 + d2) := ⟨_, rfl⟩
        rw [← hc2]
        have Hc2 := Lib.hid hc2
        clear hc2
        obtain ⟨W3, hW3⟩ : ∃ v, v = ((W2.setCell ⟨w.heap.size, 3, none⟩ (.int .u64 d2)).setCell ⟨w.heap.size, 2, none⟩ (.int .u64 c2)) := ⟨_, rfl⟩
        rw [← hW3]
        have HX3 : Hid (MixSt w W3 ⟨a2, b1, c2, d2⟩ p m) := by rw [hW3]; exact ((HX2.out.setx 3 (by omega) d2).setx 2 (by omega) c2)
        clear hW3 q0 q1 q2 q3 f0 f1 f2 f3
        obtain ⟨⟨q0, q1, q2, q3⟩, f0, f1, f2, f3⟩ := HX3.out.cells
        refine (rotl_63 _ _ (bits_u64_range _ _ _).1 (bits_u64_range _ _ _).2).mono ?_
        rintro e w1 ⟨rfl, rfl⟩
        obtain ⟨b2, hb2⟩ : ∃ v, v = rotW (bits .xor .u64 b1 c2) 63 := ⟨_, rfl⟩
        rw [← hb2]
        have Hb2 := Lib.hid hb2
        clear hb2
        have hround : rounds m (S4.xor p m) (r + 1) = ⟨b2, c2, d2, a2⟩ := by
          show round m r (rounds m (S4.xor p m) r) = _
          rw [← HXE.out]
          unfold round addW xorW
          simp only []
          rw [← HY.out, ← HK.out, ← Ha1.out, ← Hd1.out, ← Hc1.out, ← Hb1.out, ← Ha2.out, ← Hd2.out, ← Hc2.out, ← Hb2.out]
        have hks : IntKind.u64.wrap (ky + 11400714819323198485) = kay (r + 1) := by rw [HK.out]; exact kay_step r
        obtain ⟨WE, hWE⟩ : ∃ v, v = ((((W3.setCell ⟨w.heap.size, 1, none⟩ (.int .u64 b2)).setCell ⟨w.heap.size, 0, none⟩ (.int .u64 b2)).setCell ⟨w.heap.size, 1, none⟩ (.int .u64 c2)).setCell ⟨w.heap.size, 2, none⟩ (.int .u64 d2)).setCell ⟨w.heap.size, 3, none⟩ (.int .u64 a2) := ⟨_, rfl⟩
        have hend : MixSt w WE (rounds m (S4.xor p m) (r + 1)) p m := by
          rw [hround, hWE]
          exact ((((HX3.out.setx 1 (by omega) b2).setx 0 (by omega) b2).setx 1 (by omega) c2).setx 2 (by omega) d2).setx 3 (by omega) a2
        have HE := Lib.hid hend
        have HWE := Lib.hid hWE
        have HKS := Lib.hid hks
        clear hround hend hWE hks
        by_cases h7 : r = 7
        · subst h7
          go_wp2
          rw [← HWE.out]
          obtain ⟨Y, hY⟩ : ∃ Y, Y = rounds m (S4.xor p m) 8 := ⟨_, rfl⟩
          have hE2 : MixSt w WE Y p m := by rw [hY]; exact HE.out
          have hRY : R = Y.xor p := by rw [hY]; exact HR.out
          have HE2 := Lib.hid hE2
          have HRY := Lib.hid hRY
          clear hY hE2 hRY q0 q1 q2 q3 f0 f1 f2 f3
          go_loopw [105] (fun i wr => ∃ k : Nat, k ≤ 4 ∧ i = .int .i64 k ∧ Hid (MixSt w wr (S4.part k (S4.xor Y p) Y) p m)) (fun i _ => 4 - (intOf i).toNat)
          case atStart => exact ⟨0, by omega, rfl, by rw [S4.part_zero]; exact HE2.out⟩
          case round =>
            obtain ⟨k, hk, rfl, HS⟩ := hrel
            by_cases hlt : k < 4
            · have g1 := HS.out.sx.cell k hlt
              have g2 := HS.out.sx.free k
              have g3 := HS.out.sp.cell k hlt
              rw [S4.part_get _ _ _ hlt] at g1
              have hk0 : (0 : Int) ≤ (k : Int) := by omega
              have hk1 : (k : Int) < 4 := by omega
              go_wp2
              go_region
              have HN1 : Hid (MixSt w ((wr.setCell ⟨w.heap.size, k, none⟩ (.int .u64 (bits .xor .u64 (Y.get k) (p.get k)))).drew) (S4.part (k + 1) (S4.xor Y p) Y) p m) := by
                rw [← S4.part_set _ Y k hlt, S4.xor_get _ _ k hlt]
                exact (HS.out.setx k hlt _).drew
              clear HS g1 g2 g3
              go_wp2
              go_roundw
              case rel => exact ⟨k + 1, by omega, num_eq (by omega), HN1⟩
              case measure => simp [intOf]; omega
            · obtain rfl : k = 4 := by omega
              have hH := HS.out
              rw [S4.part_four, ← HRY.out] at hH
              clear HS hlt
              obtain ⟨ra, rb, rc, rd⟩ := R
              obtain ⟨⟨q0, q1, q2, q3⟩, -, -, -, -⟩ := hH.cells
              have f0 := hH.sr.free 0
              have f1 := hH.sr.free 1
              have f2 := hH.sr.free 2
              have f3 := hH.sr.free 3
              have c0 := hH.sr.cell 0 (by omega)
              have c1 := hH.sr.cell 1 (by omega)
              have c2 := hH.sr.cell 2 (by omega)
              have c3 := hH.sr.cell 3 (by omega)
              have HH := Lib.hid hH
              clear hH
              go_wp2
              rw [Exit.noGoto_ret]
              obtain ⟨WF, hWF⟩ : ∃ v, v = (((wr.setCell ⟨w.heap.size + 1, 0, none⟩ (.int .u64 ra)).setCell ⟨w.heap.size + 1, 1, none⟩ (.int .u64 rb)).setCell ⟨w.heap.size + 1, 2, none⟩ (.int .u64 rc)).setCell ⟨w.heap.size + 1, 3, none⟩ (.int .u64 rd) := ⟨_, rfl⟩
              have hst : St4 WF (w.heap.size + 1) 121 ⟨ra, rb, rc, rd⟩ := by
                rw [hWF]
                exact (((HH.out.sr.set 0 (by omega) ra).set 1 (by omega) rb).set 2 (by omega) rc).set 3 (by omega) rd
              have hbel : Below w.heap.size w WF := by
                rw [hWF]
                exact (((HH.out.bel.setCell (Nat.le_succ _) _).setCell (Nat.le_succ _) _).setCell (Nat.le_succ _) _).setCell (Nat.le_succ _) _
              rw [← hWF]
              have r0 := hst.cell 0 (by omega)
              have r1 := hst.cell 1 (by omega)
              have r2 := hst.cell 2 (by omega)
              have r3 := hst.cell 3 (by omega)
              simp only [S4.get] at r0 r1 r2 r3
              refine bodyPost_ret (v := .agg #[.int .u64 ra, .int .u64 rb, .int .u64 rc, .int .u64 rd]) (by simp [results, Try.results100, go_sem, r0, r1, r2, r3]) rfl ?_
              exact ⟨rfl, hbel⟩
        · have h7' : (r : Int) < 7 := by omega
          go_wp2
          rw [← HWE.out]
          go_roundw
          case rel => exact ⟨r + 1, by omega, num_eq (by omega), num_eq HKS.out, HE⟩
          case measure => simp [intOf]; omega
end Go.Proofs.Ytndkkgkcbbmnpaa
namespace Go.Pg
open Go.RowKit
section
variable {P : Program}
theorem zeroCells_u8 (m : Nat) : Builtin.zeroCells (Value.int .u8 0).cells m = (List.replicate m (Value.int .u8 0)).toArray := by
  apply Array.ext'
  simp only [Builtin.zeroCells, Value.cells, Array.toList_map, Array.toList_range]
  apply List.ext_getElem (by simp)
  intro i h1 h2
  simp [Nat.mod_one]
theorem run_append_zeros (w : World) (base : Nat) (t ti ty e : TypeId) (i : TypeInfo) (ht : P.underlying t = some (.slice e)) (hti : P.underlying ti = some (.int .i64)) (hi : P.info? e = some i) (hz : i.zero = some (.int .u8 0))
    (hsize : i.size = 1) (hby : i.bytes = 1) (g n cap : Nat) (xs : List Value) (hown : w.ownsRow base e 1 (.slice (some ⟨g, 0, none⟩) n cap) n xs)
    (m : Nat) (h63 : n + m ≤ maxLen) (hbytes : (n + m) * 1 ≤ 140737488355328) (hm0 : 0 < m) (hbase : base ≤ w.heap.size) :
    ∃ v' w', (Builtin.append_ #[t, ti] ty #[.slice (some ⟨g, 0, none⟩) n cap, .int .i64 m]).run P w = .ok v' w' ∧ w'.ownsRow base e 1 v' (n + m) (xs ++ List.replicate m (.int .u8 0)) ∧ w.grownBy w' (some g) ∧
      (∀ b, v'.ownBlock = some b → b = g ∨ w.heap.size ≤ b) := by
  rcases hown.2 with ⟨h, _⟩ | ⟨g', cap', cur, h, hbg, hg, hnc, hcm, hcs, htake⟩
  · simp at h
  · simp only [Value.slice.injEq, Option.some.injEq, Addr.mk.injEq, and_true, true_and] at h
    obtain ⟨rfl, rfl⟩ := h
    have hxl : xs.length = n := by rw [hown.1, Nat.mul_one]
    have hz' : (List.replicate m (Value.int .u8 0)).length = m := by simp
    have hlen : (xs ++ List.replicate m (Value.int .u8 0)).length = (n + m) * 1 := by rw [List.length_append, hz', hxl, Nat.mul_one]
    have hw : IntKind.i64.wrap (m : Int) = (m : Int) := by unfold maxLen at h63; exact IntWalk.i64_in _ (by omega)
    have hneg : ¬ ((m : Int) < 0) := by omega
    have hbig : ¬ (281474976710656 < (m : Int)) := by omega
    have hmz : m ≠ 0 := by omega
    by_cases hroom : n + m ≤ cap
    · have hst := run_storeCells_at P g n e (List.replicate m (Value.int .u8 0)) 0 cur w hg (by rw [hz', hcs]; omega) (by intro v hv; rw [List.mem_replicate] at hv; rw [hv.2]; rfl)
      simp only [Nat.add_zero] at hst
      have hr : (Builtin.append_ #[t, ti] ty #[.slice (some ⟨g, 0, none⟩) n cap, .int .i64 m]).run P w = .ok (.slice (some ⟨g, 0, none⟩) (n + m) cap) (w.setRow g (cur.toList.take n ++ List.replicate m (Value.int .u8 0) ++ cur.toList.drop (n + m)).toArray) := by
        simp [Builtin.append_, run_underlying ht, run_underlying hti, sizeOf, typeInfo, zeroValue, hi, hz, hsize, hby, asInt, asIntOf, hw, hneg, hbig, hmz, hroom, zeroCells_u8, Addr.add_lit, hst]
      refine ⟨_, _, hr, ⟨hlen, .inr ⟨g, cap, _, rfl, hbg, setRow_heap w g cur _ e _ hg, hroom, hcm, ?_, ?_⟩⟩, ⟨rfl, rfl, rfl, by simp, fun k _ hk => setRow_other w g k _ (fun e => hk (by simp [e]))⟩, fun b hb => .inl (by simpa [Value.ownBlock] using hb.symm)⟩
      · simp only [List.size_toArray, List.length_append, List.length_take, List.length_drop, Array.length_toList, hz', hcs]; omega
      · rw [Nat.mul_one] at htake
        rw [htake, Nat.mul_one, ← Nat.mul_one (n + m), ← hlen]
        exact List.take_left
    · have holds : ∀ j u, xs[j]? = some u → w.cell? ((⟨g, 0, none⟩ : Addr).add j) = some u := hown.cells (g := g) rfl
      have hfo := run_firstCells_some (P := P) w.drew 1 n ⟨g, 0, none⟩ n cap xs hown.1 (by simpa using holds)
      have h63' : ¬ (9223372036854775807 < ((n : Int) + (m : Int))) := by unfold maxLen at h63; omega
      have hfit := growslice_fits (need := n + m) (old := cap) (bytes := 1) (by omega) hbytes
      have h48' : ¬ (281474976710656 < Builtin.nextslicecap (n + m) cap) := by omega
      have hr : (Builtin.append_ #[t, ti] ty #[.slice (some ⟨g, 0, none⟩) n cap, .int .i64 m]).run P w = .ok (.slice (some ⟨w.heap.size, 0, none⟩) (n + m) (grownCap w (n + m) cap e))
          (w.drew.alloc (.cells (xs.toArray ++ (List.replicate m (Value.int .u8 0)).toArray ++ Builtin.zeroCells (Value.int .u8 0).cells (grownCap w (n + m) cap e - (n + m))) e)) := by
        simp [Builtin.append_, run_underlying ht, run_underlying hti, sizeOf, typeInfo, zeroValue, hi, hz, hsize, hby, asInt, asIntOf, hw, hneg, hbig, hmz, hroom, h63', h48', Question.forced, hfo, newRow, grownCap, zeroCells_u8]
      have hge := grownCap_ge w (n + m) cap e
      have hcm' := grownCap_le_maxLen w (n + m) cap e h63
      refine ⟨_, _, hr, ⟨hlen, .inr ⟨w.heap.size, _, _, rfl, hbase, heap_alloc_new w.drew _, hge, hcm', ?_, ?_⟩⟩, ⟨rfl, rfl, rfl, by simp, fun k hk _ => Below.heap_alloc w.drew _ k hk⟩, fun b hb => .inr ?_⟩
      · have e1 : grownCap w (n + m) cap e = (n + m) + (grownCap w (n + m) cap e - (n + m)) := by omega
        rw [zeroCells_u8]
        simp only [Array.size_append, List.size_toArray, hxl, hz', List.length_replicate]
        omega
      · have : ((xs.toArray ++ (List.replicate m (Value.int .u8 0)).toArray ++ Builtin.zeroCells (Value.int .u8 0).cells (grownCap w (n + m) cap e - (n + m))) : Array Value).toList = (xs ++ List.replicate m (Value.int .u8 0)) ++ (Builtin.zeroCells (Value.int .u8 0).cells (grownCap w (n + m) cap e - (n + m))).toList := by simp
        rw [this, ← hlen, List.take_left]
      · simp only [Value.ownBlock, Option.some.injEq] at hb
        omega
theorem wpList_append_zeros {w : World} {ops : Array Oper} {rest : List Oper} {o : Oper} {a : Act} {Q : Exit → Act → World → Prop} (hgd : o.guard = none) (s x : Operand) (t ti : TypeId)
    (ho : o.op = .call { callee := .builtin .append, args := #[s, x], argTypes := #[t, ti] })
    (base : Nat) (e : TypeId) (i : TypeInfo) (ht : P.underlying t = some (.slice e)) (hti : P.underlying ti = some (.int .i64)) (hi : P.info? e = some i) (hz : i.zero = some (.int .u8 0))
    (hsize : i.size = 1) (hby : i.bytes = 1) (g n cap : Nat) (l : List UInt8) (hs : a.eval s = .slice (some ⟨g, 0, none⟩) n cap) (hown : OwnAt w base e 1 byteR (.slice (some ⟨g, 0, none⟩) n cap) l)
    (m : Nat) (hx : a.eval x = .int .i64 m) (hbytes : (l.length + m) * 1 ≤ 140737488355328) (hm0 : 0 < m) (hbase : base ≤ w.heap.size)
    (h : ∀ v' w', OwnAt w' base e 1 byteR v' (l ++ List.replicate m 0) → w.grownBy w' (some g) → Moved w (.slice (some ⟨g, 0, none⟩) n cap) v' → wpList P ops Q rest (a.put o.dst v') w') : wpList P ops Q (o :: rest) a w := by
  obtain ⟨xs, h1, h2⟩ := hown
  have hn : n = l.length := by
    rcases h1.2 with ⟨h, _⟩ | ⟨g', cap', cur, h, -⟩
    · simp at h
    · simp only [Value.slice.injEq] at h
      exact h.2.1
  subst hn
  have h63 : l.length + m ≤ maxLen := by unfold maxLen; omega
  obtain ⟨v', w', r1, r2, r3, r4⟩ := run_append_zeros (P := P) w base t ti o.type e i ht hti hi hz hsize hby g l.length cap xs h1 m h63 hbytes hm0 hbase
  refine wpList_plain hgd fun K hK => ?_
  unfold Oper.wp execOp
  simp only [ho, resolve, invoke, builtin, Sem.run_bind, Sem.run_pure, Result.andThen_ok, List.map_toArray, List.map_cons, List.map_nil, hs, hx, r1]
  refine hK _ _ (h v' w' ⟨xs ++ List.replicate m (.int .u8 0), by simpa using r2, h2.append ?_⟩ r3 (fun b hb => (r4 b hb).imp (fun e => by rw [e]; rfl) id))
  refine ⟨by simp, fun i x hx => ?_⟩
  obtain ⟨hi, rfl⟩ := List.getElem?_eq_some_iff.1 hx
  refine ⟨[.int .u8 0], rfl, by simp [byteR], fun j u hu => ?_⟩
  match j, hu with
  | 0, hu => simp at hu hi; subst hu; simp [hi]
end
end Go.Pg
namespace Go.Pg
open Go.RowKit
/-- the first k of some bytes laid over a row's cells from a place on -/
def layAt (cs : Array Value) (o : Nat) (L : List UInt8) (k : Nat) : Array Value := (cs.toList.take o ++ ((L.take k).map fun x => Value.int .u8 (x.toNat : Int)) ++ cs.toList.drop (o + k)).toArray
theorem begunS_get (k : Nat) (h : k < 4) : begunS.get k = kay k := by
  rcases k with _ | _ | _ | _ | k
  all_goals first | (simp only [S4.get, begunS]; done) | omega
theorem layAt_zero (cs : Array Value) (o : Nat) (L : List UInt8) : layAt cs o L 0 = cs := by
  apply Array.ext'; simp [layAt]
theorem layAt_size (cs : Array Value) (o : Nat) (L : List UInt8) (k : Nat) (hk : k ≤ L.length) (h : o + k ≤ cs.size) : (layAt cs o L k).size = cs.size := by
  simp [layAt]; omega
theorem layAt_set (cs : Array Value) (o : Nat) (L : List UInt8) (k : Nat) (hk : k < L.length) (h : o + k < cs.size) : (layAt cs o L k).setIfInBounds (o + k) (.int .u8 ((L[k]).toNat : Int)) = layAt cs o L (k + 1) := by
  apply Array.ext'
  have h1 : (cs.toList.take o ++ ((L.take k).map fun x => Value.int .u8 (x.toNat : Int))).length = o + k := by simp; omega
  simp only [layAt, List.setIfInBounds_toArray]
  rw [List.set_append_right _ _ (by omega), h1, Nat.sub_self, List.drop_eq_getElem_cons (by simpa using h), List.set_cons_zero, List.take_succ_eq_append_getElem hk, List.map_append]
  simp [List.append_assoc, Nat.add_assoc]
theorem layAt_get (cs : Array Value) (o : Nat) (L : List UInt8) (k : Nat) (hk : k ≤ L.length) (h : o + k < cs.size) : ∃ u, (layAt cs o L k)[o + k]? = some u := by
  rw [Array.getElem?_eq_getElem (by rw [layAt_size cs o L k hk (by omega)]; exact h)]; exact ⟨_, rfl⟩
end Go.Pg
namespace Go.Proofs.Ytndkkgkcbbmnpaa
open Go.RowKit Go.Pg

def LayD (w : World) (g : Nat) (cs : Array Value) (e : TypeId) (en : Ending) (w' : World) : Prop := en = .returned (.tuple #[]) ∧ w'.heap[g]? = some (.cells cs e (0, 0)) ∧ Chg (fun k => k = g) w w'
set_option maxRecDepth 100000 in
set_option maxHeartbeats 1000000 in
theorem lay_any (w : World) (g o n c : Nat) (cs : Array Value) (e : TypeId) (hg : w.heap[g]? = some (.cells cs e (0, 0))) (ho : o + 8 ≤ cs.size) (h8 : 8 ≤ n) (hn : n ≤ 9223372036854775807) (x : Nat) (_hx : (x : Int) < 18446744073709551616) :
    Calls Try.prog 101 #[.slice (some ⟨g, o, none⟩) n c, .int .u64 x] w (LayD w g (layAt cs o (beBytes 8 x) 8) e) := by
  have HG := Lib.hid hg
  go_enter Try.func101, Try.ntmps101
  clear hg
  go_wp2
  go_loopw [5] (fun i wr => ∃ k : Nat, k ≤ 8 ∧ i = .int .i64 k ∧ Hid (wr.heap[g]? = some (.cells (layAt cs o (beBytes 8 x) k) e (0, 0)) ∧ Chg (fun k => k = g) w wr)) (fun i _ => 8 - (intOf i).toNat)
  case atStart => exact ⟨0, by omega, rfl, by rw [layAt_zero]; exact HG.out, Chg.refl _ _⟩
  case round =>
    obtain ⟨k, hk, rfl, HB⟩ := hrel
    by_cases hlt : k < 8
    · obtain ⟨u, hu⟩ := layAt_get cs o (beBytes 8 x) k (by rw [beBytes_length]; omega) (by omega)
      have hc := (cell_of_row wr g (o + k) _ _ _ HB.out.1).trans hu
      have hf := frozen_of_row wr g (o + k) _ _ HB.out.1
      have hk0 : (0 : Int) ≤ (k : Int) := by omega
      have hk1 : (k : Int) < 8 := by omega
      have hkn : (k : Int) < (n : Int) := by omega
      clear hu
      go_wp2
      go_roundw
      case rel => exact ⟨k + 1, by omega, num_eq (by omega), by rw [key_cell x k hlt, blk_setCell HB.out.1, layAt_set cs o _ k (by rw [beBytes_length]; exact hlt) (by omega)], HB.out.2.setCell (.inr rfl) _⟩
      case measure => simp [intOf]; omega
    · obtain rfl : k = 8 := by omega
      go_wp2
      go_end0
      exact ⟨rfl, HB.out.1, HB.out.2⟩

set_option maxRecDepth 100000 in
set_option maxHeartbeats 1000000 in
theorem begun_any (w : World) : Calls Try.prog 99 #[] w (MixD w begunS) := by
  go_enter Try.func99, Try.ntmps99
  go_wp2
  go_loopw [2, 4] (fun kv i wr => ∃ k : Nat, k ≤ 4 ∧ i = .int .i64 k ∧ kv = .int .u64 (if k = 0 then 0 else kay (k - 1)) ∧ Hid (Below w.heap.size w wr ∧ St4 wr w.heap.size 121 ⟨0, 0, 0, 0⟩ ∧ St4 wr (w.heap.size + 1) 121 (S4.part k begunS ⟨0, 0, 0, 0⟩))) (fun _ i _ => 4 - (intOf i).toNat)
  case atStart => exact ⟨0, by omega, rfl, rfl, Bel.alloc (Bel.alloc (Bel.refl w) _) _, (St4.new w _ ⟨0, 0, 0, 0⟩ rfl).alloc _, by rw [S4.part_zero]; exact St4.new _ _ ⟨0, 0, 0, 0⟩ (by simp)⟩
  case round =>
    obtain ⟨k, hk, rfl, rfl, HS⟩ := hrel
    by_cases hlt : k < 4
    · have g1 := HS.out.2.2.cell k hlt
      have g2 := HS.out.2.2.free k
      obtain ⟨y, hy⟩ : ∃ y : Int, y = if k = 0 then 0 else kay (k - 1) := ⟨_, rfl⟩
      have hys : IntKind.u64.wrap (y + 11400714819323198485) = kay k := by
        rw [hy]
        split
        · rename_i h; subst h; rw [kay_zero]; rfl
        · rw [kay_step, Nat.sub_add_cancel (by omega)]
      rw [← hy]
      have hk0 : (0 : Int) ≤ (k : Int) := by omega
      have hk1 : (k : Int) < 4 := by omega
      have HYS := Lib.hid hys
      clear hy hys
      go_wp2
      go_roundw
      case rel =>
        refine ⟨k + 1, by omega, num_eq (by omega), ?_, ?_⟩
        · rw [HYS.out, if_neg (by omega), Nat.add_sub_cancel]
        · rw [HYS.out]
          obtain ⟨h1, h2, h3⟩ := HS.out
          refine ⟨h1.setCell (Nat.le_succ _) _, h2.far (by omega) _, ?_⟩
          rw [← S4.part_set _ _ k hlt, begunS_get k hlt]
          exact h3.set k hlt _
      case measure => simp [intOf]; omega
    · obtain rfl : k = 4 := by omega
      obtain ⟨h1, h2, h3⟩ := HS.out
      rw [S4.part_four] at h3
      obtain ⟨⟨q0, q1, q2, q3⟩⟩ : Nonempty (wr.cell? ⟨w.heap.size + 1, 0, none⟩ = some (.int .u64 (kay 0)) ∧ wr.cell? ⟨w.heap.size + 1, 1, none⟩ = some (.int .u64 (kay 1)) ∧ wr.cell? ⟨w.heap.size + 1, 2, none⟩ = some (.int .u64 (kay 2)) ∧ wr.cell? ⟨w.heap.size + 1, 3, none⟩ = some (.int .u64 (kay 3))) :=
        ⟨h3.cell 0 (by omega), h3.cell 1 (by omega), h3.cell 2 (by omega), h3.cell 3 (by omega)⟩
      have c0 := h2.cell 0 (by omega)
      have c1 := h2.cell 1 (by omega)
      have c2 := h2.cell 2 (by omega)
      have c3 := h2.cell 3 (by omega)
      have f0 := h2.free 0
      have f1 := h2.free 1
      have f2 := h2.free 2
      have f3 := h2.free 3
      have HH := Lib.hid HS.out
      clear h1 h2 h3 HS
      obtain ⟨k0, hk0⟩ : ∃ v, v = kay 0 := ⟨_, rfl⟩
      obtain ⟨k1, hk1⟩ : ∃ v, v = kay 1 := ⟨_, rfl⟩
      obtain ⟨k2, hk2⟩ : ∃ v, v = kay 2 := ⟨_, rfl⟩
      obtain ⟨k3, hk3⟩ : ∃ v, v = kay 3 := ⟨_, rfl⟩
      rw [← hk0] at q0
      rw [← hk1] at q1
      rw [← hk2] at q2
      rw [← hk3] at q3
      have HB : Hid (begunS = ⟨k0, k1, k2, k3⟩) := Lib.hid (by rw [hk0, hk1, hk2, hk3]; rfl)
      clear hk0 hk1 hk2 hk3
      go_wp2
      obtain ⟨WF, hWF⟩ : ∃ v, v = (((wr.setCell ⟨w.heap.size, 0, none⟩ (.int .u64 k0)).setCell ⟨w.heap.size, 1, none⟩ (.int .u64 k1)).setCell ⟨w.heap.size, 2, none⟩ (.int .u64 k2)).setCell ⟨w.heap.size, 3, none⟩ (.int .u64 k3) := ⟨_, rfl⟩
      have hst : St4 WF w.heap.size 121 ⟨k0, k1, k2, k3⟩ := by
        rw [hWF]
        exact (((HH.out.2.1.set 0 (by omega) k0).set 1 (by omega) k1).set 2 (by omega) k2).set 3 (by omega) k3
      have hbel : Below w.heap.size w WF := by
        rw [hWF]
        exact (((HH.out.1.setCell (Nat.le_refl _) _).setCell (Nat.le_refl _) _).setCell (Nat.le_refl _) _).setCell (Nat.le_refl _) _
      rw [← hWF]
      have r0 := hst.cell 0 (by omega)
      have r1 := hst.cell 1 (by omega)
      have r2 := hst.cell 2 (by omega)
      have r3 := hst.cell 3 (by omega)
      simp only [S4.get] at r0 r1 r2 r3
      refine bodyPost_ret (v := .agg #[.int .u64 k0, .int .u64 k1, .int .u64 k2, .int .u64 k3]) (by simp [results, Try.results99, go_sem, r0, r1, r2, r3]) rfl ?_
      exact ⟨by rw [HB.out]; rfl, hbel⟩
end Go.Proofs.Ytndkkgkcbbmnpaa
