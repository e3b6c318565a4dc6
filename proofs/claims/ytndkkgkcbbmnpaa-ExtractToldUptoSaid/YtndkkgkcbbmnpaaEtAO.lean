/-
  Contract of block.Encode.
  Contract of pergolaref19.Encode.
-/
import Derived.Test.YtndkkgkcbbmnpaaEtAN
import Derived.Deep.MidRow
namespace Go.Pg
open Go.RowKit
/-- the list of cells of bytes -/
def cellsL (l : List UInt8) : List Value := l.map fun x => Value.int .u8 (x.toNat : Int)
theorem cellsOf_toList (l : List UInt8) : (cellsOf l).toList = cellsL l := by simp [cellsOf, cellsL]
theorem cellsL_toArray (l : List UInt8) : (cellsL l).toArray = cellsOf l := rfl
theorem cellsL_length (l : List UInt8) : (cellsL l).length = l.length := by simp [cellsL]
theorem cellsL_one (l : List UInt8) : ∀ v ∈ cellsL l, v.oneCell' = true := by
  intro v hv
  simp only [cellsL, List.mem_map] at hv
  obtain ⟨x, -, rfl⟩ := hv
  rfl
/-- a block as an item -/
def blkI (p : List UInt8) (n b : Nat) (T : List (List UInt8)) : It := .list [.text p, .text (wordB n), .text (wordB b), textsI T]
/-- a block's bytes, and the error's number -/
def blkEncode (p : List UInt8) (n b : Nat) (T : List (List UInt8)) : List UInt8 × Nat :=
  if (blkI p n b T).encode.2 = 0 then ((blkI p n b T).encode.1, 0) else ([], 190)
/-- the cells of a block -/
def blkCells (p : List UInt8) (n b : Nat) (v : Value) : Array Value := (cellsL p ++ [.int .u64 (n : Int), .int .u64 (b : Int), v]).toArray
theorem range_at {w : World} {g : Nat} {t : TypeId} (pre l post : List Value) (h : w.heap[g]? = some (.cells (pre ++ l ++ post).toArray t (0, 0))) : w.rangeAt g pre.length l := by
  intro j v hv
  rw [cell_of_row _ _ _ _ _ _ h]
  have hj := (List.getElem?_eq_some_iff.1 hv).1
  rw [List.getElem?_toArray, List.append_assoc, List.getElem?_append_right (by omega), Nat.add_sub_cancel_left, List.getElem?_append_left hj]
  exact hv
theorem cell_at {w : World} {g : Nat} {t : TypeId} (pre : List Value) (v : Value) (post : List Value) (h : w.heap[g]? = some (.cells (pre ++ v :: post).toArray t (0, 0))) : w.cell? ⟨g, pre.length, none⟩ = some v := by
  rw [cell_of_row _ _ _ _ _ _ h, List.getElem?_toArray, List.getElem?_append_right (Nat.le_refl _), Nat.sub_self]
  rfl
theorem blk_facts {w : World} {g : Nat} {t : TypeId} {p : List UInt8} {n b : Nat} {v : Value} (hp : p.length = 32) (h : w.heap[g]? = some (.cells (blkCells p n b v) t (0, 0))) :
    w.rangeAt g 0 (cellsL p) ∧ w.cell? ⟨g, 32, none⟩ = some (.int .u64 n) ∧ w.cell? ⟨g, 33, none⟩ = some (.int .u64 b) ∧ w.cell? ⟨g, 34, none⟩ = some v := by
  have hl : (cellsL p).length = 32 := by rw [cellsL_length, hp]
  unfold blkCells at h
  refine ⟨?_, ?_, ?_, ?_⟩
  · exact range_at [] (cellsL p) _ (by simpa using h)
  · have := cell_at (cellsL p) _ _ h; rwa [hl] at this
  · have := cell_at (cellsL p ++ [.int .u64 (n : Int)]) (.int .u64 (b : Int)) [v] (by simpa using h); simpa [hl] using this
  · have := cell_at (cellsL p ++ [.int .u64 (n : Int), .int .u64 (b : Int)]) v [] (by simpa using h); simpa [hl] using this
end Go.Pg
namespace Go.Proofs.Ytndkkgkcbbmnpaa
open Go.RowKit Go.Pg

/-- four items in a new row -/
theorem quadI {F : Nat → Prop} {w : World} {p0 p1 p2 : Value} {q1 q2 : Value} {x0 x1 x2 x3 : It} (h0 : ItemAt F w 2 [.bool false, p0, .slice none 0 0] x0) (h1 : ItemAt F w 2 [.bool false, p1, .slice none 0 0] x1) (h2 : ItemAt F w 2 [.bool false, p2, .slice none 0 0] x2) (h3 : ItemAt F w 2 [.bool true, q1, q2] x3) (hF : F w.heap.size) (t : TypeId) :
    ItemsAt F (w.alloc (.cells #[.bool false, p0, .slice none 0 0, .bool false, p1, .slice none 0 0, .bool false, p2, .slice none 0 0, .bool true, q1, q2] t)) 2 (.slice (some ⟨w.heap.size, 0, none⟩) 4 4) [x0, x1, x2, x3] :=
  rows_alloc (l := [x0, x1, x2, x3]) (carriedItem 2) ((((Rows.one h0 rfl).append (Rows.one h1 rfl)).append (Rows.one h2 rfl)).append (Rows.one h3 rfl)) (show 4 ≤ maxLen by decide) (fun _ _ x => x) hF t

/-- the four items of a block, behind the calls that made them -/
theorem blkItems {B : Nat} {wr w3 w4 w5 w6 : World} {p0 p1 p2 q1 q2 : Value} {p b4 b5 : List UInt8} {LT : List It} (hsw : B < wr.heap.size) (_hb3 : Below wr.drew.heap.size wr.drew w3) (hb4 : Below w3.heap.size w3 w4) (hb5 : Below w4.heap.size w4 w5) (hb6 : Below w5.heap.size w5 w6)
    (hB3 : Below wr.heap.size wr w3) (hB4 : Below wr.heap.size wr w4) (hB5 : Below wr.heap.size wr w5) (hB6 : Below wr.heap.size wr w6)
    (hit3 : ItemAt (fresh wr.drew) w3 1 [.bool false, p0, .slice none 0 0] (.text p)) (hit4 : ItemAt (fresh w3) w4 1 [.bool false, p1, .slice none 0 0] (.text b4)) (hit5 : ItemAt (fresh w4) w5 1 [.bool false, p2, .slice none 0 0] (.text b5))
    (hit6 : ItemAt (fun b => (B < b ∧ b < wr.heap.size) ∨ w5.heap.size ≤ b) w6 2 [.bool true, q1, q2] (.list LT)) (t : TypeId) :
    ItemsAt (fun b => B < b) (w6.alloc (.cells #[.bool false, p0, .slice none 0 0, .bool false, p1, .slice none 0 0, .bool false, p2, .slice none 0 0, .bool true, q1, q2] t)) 2 (.slice (some ⟨w6.heap.size, 0, none⟩) 4 4) [.text p, .text b4, .text b5, .list LT] := by
  have s3 := hB3.size
  have s4 := hB4.size
  have s5 := hB5.size
  have s6 := hB6.size
  refine quadI ?_ ?_ ?_ ?_ (show B < w6.heap.size by omega) t
  · exact ItemAt.deeper 1 2 _ _ (by omega) (ItemAt.carry (fun b _ h => by have : wr.heap.size ≤ b := h; omega) (fun b _ hlt => (hb6.block b (by have := hb4.size; have := hb5.size; omega)).trans ((hb5.block b (by have := hb4.size; omega)).trans (hb4.block b hlt))) 1 _ _ hit3)
  · exact ItemAt.deeper 1 2 _ _ (by omega) (ItemAt.carry (fun b _ h => by have : w3.heap.size ≤ b := h; omega) (fun b _ hlt => (hb6.block b (by have := hb5.size; omega)).trans (hb5.block b hlt)) 1 _ _ hit4)
  · exact ItemAt.deeper 1 2 _ _ (by omega) (ItemAt.carry (fun b _ h => by have : w4.heap.size ≤ b := h; omega) (fun b _ hlt => hb6.block b hlt) 1 _ _ hit5)
  · exact ItemAt.carry (fun b _ h => by rcases h with h | h <;> omega) (fun _ _ _ => rfl) 2 _ _ hit6

set_option maxRecDepth 100000 in
set_option maxHeartbeats 4000000 in
theorem bencode_any (F : Nat → Prop) (w : World) (p : List UInt8) (nn bb : Nat) (v : Value) (l : List (List UInt8)) (hp : p.length = 32) (hnn : (nn : Int) < 18446744073709551616) (hbb : (bb : Int) < 18446744073709551616)
    (h : RowsAt F w v l) (hl : l.length ≤ 1099511627776) (hlen : ∀ x ∈ l, x.length ≤ 70368744177664) (hw : (blkI p nn bb l).whole ≤ 70368744177664) :
    Calls Try.prog 19 #[.agg (blkCells p nn bb v)] w (Encd w (blkEncode p nn bb l)) := by
  obtain ⟨a, c, rfl, -, -, -⟩ := SliceAt.len h
  obtain ⟨i0, hi, hz0, hz1, hz2⟩ := info_parts infoItem
  obtain ⟨n, hn⟩ : ∃ n, n = l.length := ⟨_, rfl⟩
  rw [← hn] at h hl ⊢
  obtain ⟨BC, hBC⟩ : ∃ BC, BC = blkCells p nn bb (.slice a n c) := ⟨_, rfl⟩
  have hbf : ∀ W : World, W.heap[w.heap.size]? = some (.cells BC 40 (0, 0)) → W.rangeAt w.heap.size 0 (cellsL p) ∧ W.cell? ⟨w.heap.size, 32, none⟩ = some (.int .u64 nn) ∧ W.cell? ⟨w.heap.size, 33, none⟩ = some (.int .u64 bb) ∧ W.cell? ⟨w.heap.size, 34, none⟩ = some (.slice a n c) :=
    fun W hW => by rw [hBC] at hW; exact blk_facts hp hW
  rw [← hBC]
  have HBF := Lib.hid hbf
  have HN := Lib.hid hn
  have HLEN := Lib.hid hlen
  have HP := Lib.hid hp
  have HNN := Lib.hid hnn
  have HBB := Lib.hid hbb
  have HW := Lib.hid hw
  have hk34 := (hbf _ (heap_alloc_new w (.cells BC 40))).2.2.2
  clear hn hlen hBC hbf hp hnn hbb hw
  go_enter Try.func19, Try.ntmps19
  go_wp2_with fail
  go_loopw [4, 6, 12] (fun s b i wr => ∃ k : Nat, k ≤ n ∧ i = .int .i64 k ∧ Hid (OwnList (fun F w cs x => ItemAt F w 1 cs x) (fun b => w.heap.size < b) (w.heap.size + 1) wr 65 3 s ((l.take k).map .text)) ∧
      Hid (Below w.heap.size w wr ∧ wr.heap[w.heap.size]? = some (.cells BC 40 (0, 0)))) (fun _ _ i _ => n - (intOf i).toNat)
  case atStart => exact ⟨0, Nat.zero_le _, rfl, OwnList.nil, Bel.alloc (Bel.refl w) _, heap_alloc_new w _⟩
  case round =>
    obtain ⟨k, hk, rfl, HO, HB⟩ := hrel
    have hN := HN.out
    by_cases hlt : k < n
    · rcases SliceAt.split h with ⟨_, h0⟩ | ⟨b, o, rfl, -, -, -⟩
      · omega
      have hwr := RowsAt.below h HB.out.1
      obtain ⟨u, c1, t1⟩ := RowsAt.cell hwr k (by omega)
      have hxl := HLEN.out _ (List.getElem_mem (show k < l.length by omega))
      have htk : (l.take (k + 1)).map It.text = (l.take k).map It.text ++ [It.text (l[k]'(by omega))] := by
        rw [List.take_succ_eq_append_getElem (show k < l.length by omega), List.map_append]; rfl
      obtain ⟨x, hx⟩ : ∃ x, x = l[k]'(by omega) := ⟨_, rfl⟩
      rw [← hx] at t1 hxl htk
      have HT := Lib.hid htk
      obtain ⟨L, hL⟩ : ∃ L, L = (l.take k).map It.text := ⟨_, rfl⟩
      rw [← hL] at HO HT
      have hLl : L.length = k := by rw [hL]; simp; omega
      have HLL := Lib.hid hLl
      clear hwr hx htk hL hLl hN hk34
      go_wp2_with fail
      refine (text_any F wr u x t1 hxl).mono ?_
      rintro e w1 ⟨v1, rfl, hit, hb1⟩
      obtain ⟨-, a1, m1, d1, a2, m2, d2, e1, e2, -, -⟩ := ItemAt.form hit
      simp only [Value.slice.injEq] at e2
      obtain ⟨rfl, rfl, rfl⟩ := e2
      subst e1
      have HB1 : Hid (Below w.heap.size w w1 ∧ w1.heap[w.heap.size]? = some (.cells BC 40 (0, 0))) :=
        ⟨Bel.call HB.out.1 hb1, by rw [hb1.block _ (Array.getElem?_eq_some_iff.1 HB.out.2).1]; exact HB.out.2⟩
      have hO1 := (HO.out).call (carriedItem 1) hb1
      have hsw := (Array.getElem?_eq_some_iff.1 HB.out.2).1
      have hs1 := hb1.size
      have howr := (HO.out).own
      obtain ⟨R, hR1, hRo, hRs, hRn⟩ := hO1.push (carriedItem 1) hit rfl (by decide) (fun b _ hb => ⟨by omega, fun e => by have := (howr b e).2; omega⟩) 65
      have hle : (L.length + [It.text x].length) * 56 ≤ 140737488355328 := by rw [HLL.out]; simp; omega
      have hbase : w.heap.size + 1 ≤ (w1.alloc (.cells [.bool false, .slice a1 m1 d1, .slice none 0 0].toArray 65)).heap.size := by simp; omega
      have HRN := Lib.hid hRn
      have HRO := Lib.hid hRo
      have HRS := Lib.hid hRs
      have HR1 := Lib.hid hR1
      clear hRn hO1 hb1 hit howr hRo hRs hR1 hs1 hsw t1 c1
      go_wp2_with (at_builtin; refine wpList_append_at rfl (.tmp 16) (.tmp 19) 63 rfl (w.heap.size + 1) 65 i0 (.agg #[.bool false, .slice none 0 0, .slice none 0 0]) 3 56 underlyingItems hi hz0 hz1 hz2 rfl (by decide) (by decide) HR1.out _ L rfl HRO.out _ [It.text x] (fun _ => True) rfl HRS.out hle hbase ?_; intro v' w2 ho hg hm)
      have HOn := Lib.hid (HRN.out _ _ ho hg hm)
      have hown := (HRO.out).own
      have HB2 : Hid (Below w.heap.size w w2 ∧ w2.heap[w.heap.size]? = some (.cells BC 40 (0, 0))) := by
        have hb1 := HB1.out.1
        have hbx := HB1.out.2
        have hlt' := (Array.getElem?_eq_some_iff.1 hbx).1
        refine ⟨(Bel.alloc hb1 _).grown hg (by simp; omega) (fun k hk => by have := (hown k hk).1; omega), ?_⟩
        rw [hg.block _ (by simp; omega) (fun e => by have := (hown _ e.symm).1; omega), Below.heap_alloc _ _ _ hlt']
        exact hbx
      clear ho hg hm hown
      go_roundw
      case rel => exact ⟨k + 1, by omega, num_eq (by omega), by rw [HT.out]; exact HOn.out, HB2.out⟩
      case measure => simp [intOf]; omega
    · obtain rfl : k = n := by omega
      have hO := HO.out
      rw [List.take_of_length_le (by omega)] at hO
      have hits := hO.at (carriedItem 1) (G' := fun b => w.heap.size < b) (fun _ h _ => h) (fun b h _ => by omega) (by decide)
      have hll : (l.map It.text).length ≤ 1099511627776 := by simp; omega
      obtain ⟨as_, cs, rfl, -, -, -⟩ := hO.len
      obtain ⟨q0, q32, q33, -⟩ := HBF.out wr HB.out.2
      have hsw := (Array.getElem?_eq_some_iff.1 HB.out.2).1
      have hkeep : ∀ W : World, Below wr.heap.size wr W → W.rangeAt w.heap.size 0 (cellsL p) ∧ W.cell? ⟨w.heap.size, 32, none⟩ = some (.int .u64 nn) ∧ W.cell? ⟨w.heap.size, 33, none⟩ = some (.int .u64 bb) := fun W hW => by
        obtain ⟨g1, g2, g3, -⟩ := HBF.out W ((hW.block _ hsw).trans HB.out.2)
        exact ⟨g1, g2, g3⟩
      have hitd : ∀ W : World, W.heap = wr.heap → ItemsAt (fun b => w.heap.size < b) W 1 (.slice as_ (l.map It.text).length cs) (l.map It.text) := fun W hW => SliceAt.carry hits (by decide) (fun _ _ x => x) (fun b _ _ => by rw [hW]) (fun cs x _ h => ItemAt.carry (fun _ _ x => x) (fun b _ _ => by rw [hW]) 1 cs x h)
      obtain ⟨LT, hLT⟩ : ∃ LT, LT = l.map It.text := ⟨_, rfl⟩
      rw [← hLT] at hitd hll ⊢
      have hLTn : (It.list LT) = textsI l := by rw [hLT]; rfl
      have hc32 : (cellsL p).length = 32 := by rw [cellsL_length]; exact HP.out
      have hinfoD : (Try.prog.info? 37).map (·.size) = some (cellsL p).length := by rw [hc32]; exact infoDig
      have HKP := Lib.hid hkeep
      have HIT := Lib.hid hitd
      have HLTN := Lib.hid hLTn
      have HLL := Lib.hid hll
      have HUD := underlyingDig
      have hitw := hitd wr rfl
      clear hO hits hkeep hLT hLTn hll hc32 hN hk34 hitd
      have HITW := Lib.hid hitw
      clear hitw
      go_wp2_with fail
      go_region_held3 (fun w' => w'.rangeAt w.heap.size 0 (cellsL p) ∧ w'.cell? ⟨w.heap.size, 32, none⟩ = some (.int .u64 nn) ∧ w'.cell? ⟨w.heap.size, 33, none⟩ = some (.int .u64 bb)) (first | exact HKP.out _ (Bel.drew (Bel.refl wr)) | exact HKP.out _ (by assumption) | exact HKP.out _ (Bel.alloc (by assumption) _))
        (first
          | (go_at_call 51; refine (bname_any p _ HP.out).mono ?_; rintro e w3 ⟨v3, rfl, hit3, hb3⟩; have hB3 : Below wr.heap.size wr w3 := Bel.call (Bel.drew (Bel.refl wr)) hb3; obtain ⟨-, x1, y1, z1, x2, y2, z2, rfl, -, -, -⟩ := ItemAt.form hit3)
          | (go_at_call_of 52 (Value.int .u64 (nn : Int)); refine (bword_any nn _ HNN.out).mono ?_; rintro e w4 ⟨v4, rfl, hit4, hb4⟩; have hB4 : Below wr.heap.size wr w4 := Bel.call hB3 hb4; obtain ⟨-, x3, y3, z3, x4, y4, z4, rfl, -, -, -⟩ := ItemAt.form hit4)
          | (go_at_call_of 52 (Value.int .u64 (bb : Int)); refine (bword_any bb _ HBB.out).mono ?_; rintro e w5 ⟨v5, rfl, hit5, hb5⟩; have hB5 : Below wr.heap.size wr w5 := Bel.call hB4 hb5; obtain ⟨-, x5, y5, z5, x6, y6, z6, rfl, -, -, -⟩ := ItemAt.form hit5)
          | (go_at_call_of 42 (Value.slice as_ LT.length cs); refine (list_any (fun b => w.heap.size < b ∧ b < wr.heap.size) w5 _ 1 LT (ItemsAt.carry HITW.out (fun b hlt hb => ⟨hb, hlt⟩) (fun b _ hlt => hB5.block b hlt)) HLL.out).mono ?_; rintro e w6 ⟨v6, rfl, hit6, hb6⟩; have hB6 : Below wr.heap.size wr w6 := Bel.call hB5 hb6; obtain ⟨-, x7, y7, z7, x8, y8, z8, -, rfl, -, -⟩ := ItemAt.form hit6)
          | (go_at_call 42; refine (list_any (fun b => w.heap.size < b) _ _ 2 [.text p, .text (wordB nn), .text (wordB bb), .list LT] (blkItems hsw hb3 hb4 hb5 hb6 hB3 hB4 hB5 hB6 hit3 hit4 hit5 hit6 _) (show 4 ≤ 1099511627776 by omega)).mono ?_; rintro e w7 ⟨v7, rfl, hit7, hb7⟩; have hB7 : Below wr.heap.size wr w7 := Bel.call (Bel.alloc hB6 _) hb7; obtain ⟨-, x9, y9, z9, x10, y10, z10, -, rfl, -, -⟩ := ItemAt.form hit7)
          | (go_at_call 41; refine (encode_any _ w7 3 (blkI p nn bb l) _ _ _ (by rw [HLTN.out] at hit7; exact hit7) HW.out).mono ?_; rintro e w8 ⟨v8, rfl, ho8, hb8⟩; have hB8 : Below wr.heap.size wr w8 := Bel.call hB7 hb8))
      have HB8 := Lib.hid (HB.out.1.trans (hB8.mono HB.out.1.size))
      obtain ⟨E, hE⟩ : ∃ E, E = (blkI p nn bb l).encode := ⟨_, rfl⟩
      rw [← hE] at ho8 ⊢
      have HE := Lib.hid hE
      have ho9 := ho8.lower (Nat.le_trans HB.out.1.size hB7.size)
      clear hE hB3 hB4 hB5 hB6 hB7 hB8 hb3 hb4 hb5 hb6 hb7 hb8 hit3 hit4 hit5 hit6 hit7 ho8 q0 q32 q33
      by_cases he : E.2 = 0
      · have he2 : (((E.2 : Nat) : Int) != 0) = false := by simp; omega
        go_wp2
        go_ret2
        exact ⟨v8, by unfold blkEncode; rw [← HE.out, if_pos he]; rfl, by unfold blkEncode; rw [← HE.out, if_pos he]; exact ho9, HB8.out⟩
      · have he2 : (((E.2 : Nat) : Int) != 0) = true := by simp; omega
        go_wp2
        go_ret2
        exact ⟨.slice none 0 0, by unfold blkEncode; rw [← HE.out, if_neg he]; rfl, by unfold blkEncode; rw [← HE.out, if_neg he]; exact OwnAt.nil _ _ _ _ _, HB8.out⟩
end Go.Proofs.Ytndkkgkcbbmnpaa
namespace Go.Proofs.Ytndkkgkcbbmnpaa
open Go.RowKit Go.Pg

/-- the four items of a block, the last one as it lay in a box -/
theorem rblkItems {F : Nat → Prop} {wr w3 w4 w5 : World} {p0 p1 p2 q2 : Value} {p b4 b5 : List UInt8} {LT : List It} (hb4 : Below w3.heap.size w3 w4) (hb5 : Below w4.heap.size w4 w5)
    (hB3 : Below wr.heap.size wr w3) (hB4 : Below wr.heap.size wr w4) (hB5 : Below wr.heap.size wr w5)
    (hit3 : ItemAt (fresh wr.drew) w3 1 [.bool false, p0, .slice none 0 0] (.text p)) (hit4 : ItemAt (fresh w3) w4 1 [.bool false, p1, .slice none 0 0] (.text b4)) (hit5 : ItemAt (fresh w4) w5 1 [.bool false, p2, .slice none 0 0] (.text b5))
    (hit6 : ItemsAt F wr 1 q2 LT) (t : TypeId) :
    ItemsAt (fun b => (F b ∧ b < wr.heap.size) ∨ wr.heap.size ≤ b) (w5.alloc (.cells #[.bool false, p0, .slice none 0 0, .bool false, p1, .slice none 0 0, .bool false, p2, .slice none 0 0, .bool true, .slice none 0 0, q2] t)) 2 (.slice (some ⟨w5.heap.size, 0, none⟩) 4 4) [.text p, .text b4, .text b5, .list LT] := by
  have s3 := hB3.size
  have s4 := hB4.size
  have s5 := hB5.size
  refine quadI ?_ ?_ ?_ ?_ (show (F w5.heap.size ∧ w5.heap.size < wr.heap.size) ∨ wr.heap.size ≤ w5.heap.size by omega) t
  · exact ItemAt.deeper 1 2 _ _ (by omega) (ItemAt.carry (fun b _ h => by have : wr.heap.size ≤ b := h; omega) (fun b _ hlt => (hb5.block b (by have := hb4.size; omega)).trans (hb4.block b hlt)) 1 _ _ hit3)
  · exact ItemAt.deeper 1 2 _ _ (by omega) (ItemAt.carry (fun b _ h => by have : w3.heap.size ≤ b := h; omega) (fun b _ hlt => hb5.block b hlt) 1 _ _ hit4)
  · exact ItemAt.deeper 1 2 _ _ (by omega) (ItemAt.carry (fun b _ h => by have : w4.heap.size ≤ b := h; omega) (fun _ _ _ => rfl) 1 _ _ hit5)
  · exact ⟨_, _, rfl, SliceAt.nil _ _ _ _, ItemsAt.carry hit6 (fun b hlt h => .inl ⟨h, hlt⟩) (fun b _ hlt => hB5.block b hlt)⟩

set_option maxRecDepth 100000 in
set_option maxHeartbeats 4000000 in
theorem rbencode_any (F : Nat → Prop) (w : World) (p : List UInt8) (nn bb : Nat) (v : Value) (l : List (List UInt8)) (hp : p.length = 32) (hnn : (nn : Int) < 18446744073709551616) (hbb : (bb : Int) < 18446744073709551616)
    (h : RowsAt F w v l) (hl : l.length ≤ 1099511627776) (hw : (blkI p nn bb l).whole ≤ 70368744177664) :
    Calls Try.prog 20 #[.agg (blkCells p nn bb v)] w (Encd w (blkEncode p nn bb l)) := by
  obtain ⟨a, c, rfl, -, -, -⟩ := SliceAt.len h
  replace h : RowsAt (fun b => F b ∧ b < w.heap.size) w _ l := RowsAt.carry h (fun b hb hF => ⟨hF, hb⟩) (fun _ _ _ => rfl)
  obtain ⟨i0, hi, hz0, hz1, hz2⟩ := info_parts infoItem
  obtain ⟨n, hn⟩ : ∃ n, n = l.length := ⟨_, rfl⟩
  rw [← hn] at h hl ⊢
  obtain ⟨BC, hBC⟩ : ∃ BC, BC = blkCells p nn bb (.slice a n c) := ⟨_, rfl⟩
  have hbf : ∀ W : World, W.heap[w.heap.size]? = some (.cells BC 40 (0, 0)) → W.rangeAt w.heap.size 0 (cellsL p) ∧ W.cell? ⟨w.heap.size, 32, none⟩ = some (.int .u64 nn) ∧ W.cell? ⟨w.heap.size, 33, none⟩ = some (.int .u64 bb) ∧ W.cell? ⟨w.heap.size, 34, none⟩ = some (.slice a n c) :=
    fun W hW => by rw [hBC] at hW; exact blk_facts hp hW
  rw [← hBC]
  have HBF := Lib.hid hbf
  have HN := Lib.hid hn
  have HP := Lib.hid hp
  have HNN := Lib.hid hnn
  have HBB := Lib.hid hbb
  have HW := Lib.hid hw
  have hk34 := (hbf _ (heap_alloc_new w (.cells BC 40))).2.2.2
  clear hn hBC hbf hp hnn hbb hw
  go_enter Try.func20, Try.ntmps20
  go_wp2
  go_loopw [5] (fun i wr => ∃ (k : Nat) (a1 : Option Addr) (c1 : Nat), k ≤ n ∧ i = .int .i64 k ∧ Hid (OwnList (fun F w cs x => ItemAt F w 1 cs x) (fun b => F b ∧ b < w.heap.size) (w.heap.size + 2) wr 65 3 (.slice a1 k c1) ((l.take k).map .text)) ∧
      Hid (Below w.heap.size w wr ∧ wr.heap[w.heap.size]? = some (.cells BC 40 (0, 0)) ∧ wr.heap[w.heap.size + 1]? = some (.cells #[.bool true, .slice none 0 0, .slice a1 k c1] 65 (0, 0)))) (fun i _ => n - (intOf i).toNat)
  case atStart =>
    refine ⟨0, none, 0, Nat.zero_le _, rfl, OwnList.nil, Bel.alloc (Bel.alloc (Bel.refl w) _) _, ?_, ?_⟩
    · exact (Below.heap_alloc _ _ _ (by simp)).trans (heap_alloc_new w _)
    · have := heap_alloc_new (w.alloc (.cells BC 40)) (.cells #[.bool true, .slice none 0 0, .slice none 0 0] 65)
      simpa using this
  case round =>
    obtain ⟨k, a1, c1, hk, rfl, HO, HB⟩ := hrel
    have hN := HN.out
    obtain ⟨q0, q1, q2⟩ := cells3 HB.out.2.2
    have fq := frozen_of_row wr (w.heap.size + 1) 2 _ _ HB.out.2.2
    obtain ⟨-, -, -, qt⟩ := HBF.out wr HB.out.2.1
    by_cases hlt : k < n
    · rcases SliceAt.split h with ⟨_, h0⟩ | ⟨b, o, rfl, -, -, -⟩
      · omega
      have hwr := RowsAt.below h HB.out.1
      obtain ⟨u, g1, t1⟩ := RowsAt.cell hwr k (by omega)
      obtain ⟨au, cu, rfl, -, -, -⟩ := SliceAt.len t1
      have htk : (l.take (k + 1)).map It.text = (l.take k).map It.text ++ [It.text (l[k]'(by omega))] := by
        rw [List.take_succ_eq_append_getElem (show k < l.length by omega), List.map_append]; rfl
      obtain ⟨x, hx⟩ : ∃ x, x = l[k]'(by omega) := ⟨_, rfl⟩
      rw [← hx] at t1 g1 htk
      have HT := Lib.hid htk
      obtain ⟨L, hL⟩ : ∃ L, L = (l.take k).map It.text := ⟨_, rfl⟩
      rw [← hL] at HO HT
      have hLl : L.length = k := by rw [hL]; simp; omega
      have HLL := Lib.hid hLl
      have hit : ItemAt (fun b => F b ∧ b < w.heap.size) wr 1 [.bool false, .slice au x.length cu, .slice none 0 0] (.text x) :=
        ⟨_, _, rfl, t1, SliceAt.nil _ _ _ _⟩
      have hsw := (Array.getElem?_eq_some_iff.1 HB.out.2.2).1
      have howr := (HO.out).own
      obtain ⟨R, hR1, hRo, hRs, hRn⟩ := (HO.out).push (carriedItem 1) hit rfl (by decide) (fun b' _ hb' => ⟨hb', fun e => by have := (howr b' e).1; omega⟩) 65
      have hle : (L.length + [It.text x].length) * 56 ≤ 140737488355328 := by rw [hLl]; simp; omega
      have hlen : L.length + [It.text x].length = k + 1 := by rw [hLl]; rfl
      have hbase : w.heap.size + 2 ≤ (wr.alloc (.cells [.bool false, .slice au x.length cu, .slice none 0 0].toArray 65)).drew.heap.size := by simp; omega
      have hX : ∀ w2 : World, (wr.alloc (.cells [.bool false, .slice au x.length cu, .slice none 0 0].toArray 65)).drew.grownBy w2 (Value.slice a1 k c1).ownBlock →
          Below w.heap.size w w2 ∧ w2.heap[w.heap.size]? = some (.cells BC 40 (0, 0)) ∧ w2.heap[w.heap.size + 1]? = some (.cells #[.bool true, .slice none 0 0, .slice a1 k c1] 65 (0, 0)) := by
        intro w2 hg
        have hsz2 := hg.size
        simp only [World.size_drew, World.size_alloc] at hsz2
        refine ⟨((Bel.alloc HB.out.1 _).drew).grown hg (by simp; omega) (fun k hk => by have := (howr k hk).1; omega), ?_, ?_⟩
        · rw [hg.block _ (by simp; omega) (fun e => by have := (howr _ e.symm).1; omega)]
          exact (Below.heap_alloc wr _ _ (by omega)).trans HB.out.2.1
        · rw [hg.block _ (by simp; omega) (fun e => by have := (howr _ e.symm).1; omega)]
          exact (Below.heap_alloc wr _ _ (by omega)).trans HB.out.2.2
      have HX := Lib.hid hX
      have hRn' : ∀ v' W2, OwnAt W2 (w.heap.size + 2) 65 3 R v' (L ++ [It.text x]) → (wr.alloc (.cells [.bool false, .slice au x.length cu, .slice none 0 0].toArray 65)).drew.grownBy W2 (Value.slice a1 k c1).ownBlock → Moved (wr.alloc (.cells [.bool false, .slice au x.length cu, .slice none 0 0].toArray 65)).drew (.slice a1 k c1) v' → OwnList (fun F w cs x => ItemAt F w 1 cs x) (fun b => F b ∧ b < w.heap.size) (w.heap.size + 2) W2 65 3 v' (L ++ [It.text x]) :=
        fun v' W2 ho hg hm => hRn v' W2 ho ⟨hg.os, hg.tape, hg.output, hg.size, hg.block⟩ hm
      have HRN := Lib.hid hRn'
      have HRO := Lib.hid hRo.drew'
      have HRS := Lib.hid (hRs.drew' (by decide))
      have HR1 := Lib.hid hR1
      have HLE := Lib.hid hlen
      clear hwr hx htk hL hLl hN hX hRn hRn' hRo hRs hR1 howr t1 hit hlen hk34
      go_wp2
      go_region_law (refine step_append_at rfl (.tmp 17) (.tmp 24) 63 rfl (w.heap.size + 2) 65 i0 (.agg #[.bool false, .slice none 0 0, .slice none 0 0]) 3 56 underlyingItems hi hz0 hz1 hz2 rfl (by decide) (by decide) HR1.out (.slice a1 k c1) L (by simp [Act.eval]) HRO.out (.slice (some ⟨wr.heap.size, 0, none⟩) 1 1) [It.text x] (fun _ => True) (by simp [Act.eval]) HRS.out Nat.one_pos hle hbase (k + 1) HLE.out ?_; intro g cap w2 ho hg hm; have hx2 := (HX.out _ hg).2.2; obtain ⟨r0, r1, r2⟩ := cells3 hx2; have fr := frozen_of_row w2 (w.heap.size + 1) 2 _ _ hx2)
      all_goals
        have hOn := HRN.out _ _ ho hg hm
        have hXX := HX.out _ hg
        have hown := hOn.own
        have hOs : Hid (OwnList (fun F w cs x => ItemAt F w 1 cs x) (fun b => F b ∧ b < w.heap.size) (w.heap.size + 2) (w2.setCell ⟨w.heap.size + 1, 2, none⟩ (.slice (some ⟨g, 0, none⟩) (k + 1) cap)) 65 3 (.slice (some ⟨g, 0, none⟩) (k + 1) cap) ((l.take (k + 1)).map .text)) := by
          rw [HT.out]
          exact hOn.carry (carriedItem 1) (by simp) (fun b' hb' _ => Below.heap_setCell _ _ _ _ (by have := hb'.2; show b' ≠ w.heap.size + 1; omega)) (fun g' hg' => Below.heap_setCell _ _ _ _ (by have := (hown g' hg').1; show g' ≠ w.heap.size + 1; omega))
        have hBs : Hid (Below w.heap.size w (w2.setCell ⟨w.heap.size + 1, 2, none⟩ (.slice (some ⟨g, 0, none⟩) (k + 1) cap)) ∧ (w2.setCell ⟨w.heap.size + 1, 2, none⟩ (.slice (some ⟨g, 0, none⟩) (k + 1) cap)).heap[w.heap.size]? = some (.cells BC 40 (0, 0)) ∧
            (w2.setCell ⟨w.heap.size + 1, 2, none⟩ (.slice (some ⟨g, 0, none⟩) (k + 1) cap)).heap[w.heap.size + 1]? = some (.cells #[.bool true, .slice none 0 0, .slice (some ⟨g, 0, none⟩) (k + 1) cap] 65 (0, 0))) :=
          ⟨hXX.1.setCell (by show w.heap.size ≤ w.heap.size + 1; omega) _, by rw [Below.heap_setCell _ _ _ _ (by show w.heap.size ≠ w.heap.size + 1; omega)]; exact hXX.2.1, blk_setCell hXX.2.2⟩
        clear hOn hXX hown ho hg hm hx2 r0 r1 r2 fr
        go_wp2
        go_roundw
        case rel => exact ⟨k + 1, _, _, by omega, num_eq (by omega), hOs, hBs⟩
        case measure => simp [intOf]; omega
    · obtain rfl : k = n := by omega
      have hO := HO.out
      rw [List.take_of_length_le (by omega)] at hO
      have hits := hO.at (carriedItem 1) (G' := fun b => F b ∧ b < w.heap.size ∨ w.heap.size + 2 ≤ b) (fun _ h _ => .inl h) (fun b h _ => .inr h) (by decide)
      obtain ⟨r0, q32, q33, -⟩ := HBF.out wr HB.out.2.1
      have hsw := (Array.getElem?_eq_some_iff.1 HB.out.2.1).1
      have hsw1 := (Array.getElem?_eq_some_iff.1 HB.out.2.2).1
      have hkeep : ∀ W : World, Below wr.heap.size wr W → W.rangeAt w.heap.size 0 (cellsL p) ∧ W.cell? ⟨w.heap.size, 32, none⟩ = some (.int .u64 nn) ∧ W.cell? ⟨w.heap.size, 33, none⟩ = some (.int .u64 bb) ∧ W.cell? ⟨w.heap.size + 1, 0, none⟩ = some (.bool true) ∧ W.cell? ⟨w.heap.size + 1, 1, none⟩ = some (.slice none 0 0) ∧ W.cell? ⟨w.heap.size + 1, 2, none⟩ = some (.slice a1 k c1) := fun W hW => by
        obtain ⟨g1, g2, g3, -⟩ := HBF.out W ((hW.block _ hsw).trans HB.out.2.1)
        obtain ⟨g4, g5, g6⟩ := cells3 ((hW.block _ hsw1).trans HB.out.2.2)
        exact ⟨g1, g2, g3, g4, g5, g6⟩
      have hc32 : (cellsL p).length = 32 := by rw [cellsL_length]; exact HP.out
      have hinfoD : (Try.prog.info? 37).map (·.size) = some (cellsL p).length := by rw [hc32]; exact infoDig
      have HKP := Lib.hid hkeep
      have HIT := Lib.hid hits
      clear hO hits hkeep hN hk34 fq q0 q1 q2 r0 q32 q33 hc32 hinfoD
      go_wp2_with fail
      have HUD := underlyingDig
      have hc32 : (cellsL p).length = 32 := by rw [cellsL_length]; exact HP.out
      have hinfoD : (Try.prog.info? 37).map (·.size) = some (cellsL p).length := by rw [hc32]; exact infoDig
      clear hc32
      go_region_held3 (fun w' => w'.rangeAt w.heap.size 0 (cellsL p) ∧ w'.cell? ⟨w.heap.size, 32, none⟩ = some (.int .u64 nn) ∧ w'.cell? ⟨w.heap.size, 33, none⟩ = some (.int .u64 bb) ∧ w'.cell? ⟨w.heap.size + 1, 0, none⟩ = some (.bool true) ∧ w'.cell? ⟨w.heap.size + 1, 1, none⟩ = some (.slice none 0 0) ∧ w'.cell? ⟨w.heap.size + 1, 2, none⟩ = some (.slice a1 k c1)) (first | exact HKP.out _ (Bel.drew (Bel.refl wr)) | exact HKP.out _ (by assumption) | exact HKP.out _ (Bel.alloc (by assumption) _))
        (first
          | (go_at_call 53; refine (rname_any p _ HP.out).mono ?_; rintro e w3 ⟨v3, rfl, hit3, hb3⟩; have hB3 : Below wr.heap.size wr w3 := Bel.call (Bel.drew (Bel.refl wr)) hb3; obtain ⟨-, x1, y1, z1, x2, y2, z2, rfl, -, -, -⟩ := ItemAt.form hit3)
          | (go_at_call_of 54 (Value.int .u64 (nn : Int)); refine (rwordI_any nn _ HNN.out).mono ?_; rintro e w4 ⟨v4, rfl, hit4, hb4⟩; have hB4 : Below wr.heap.size wr w4 := Bel.call hB3 hb4; obtain ⟨-, x3, y3, z3, x4, y4, z4, rfl, -, -, -⟩ := ItemAt.form hit4)
          | (go_at_call_of 54 (Value.int .u64 (bb : Int)); refine (rwordI_any bb _ HBB.out).mono ?_; rintro e w5 ⟨v5, rfl, hit5, hb5⟩; have hB5 : Below wr.heap.size wr w5 := Bel.call hB4 hb5; obtain ⟨-, x5, y5, z5, x6, y6, z6, rfl, -, -, -⟩ := ItemAt.form hit5)
          | (go_at_call 45; refine (rencode_any (fun b => ((F b ∧ b < w.heap.size ∨ w.heap.size + 2 ≤ b) ∧ b < wr.heap.size) ∨ wr.heap.size ≤ b) _ 3 (blkI p nn bb l) true _ _ ⟨_, _, rfl, SliceAt.nil _ _ _ _, rblkItems hb4 hb5 hB3 hB4 hB5 hit3 hit4 hit5 HIT.out _⟩ HW.out).mono ?_; rintro e w8 ⟨v8, rfl, ho8, hb8⟩; have hB8 : Below wr.heap.size wr w8 := Bel.call (Bel.alloc hB5 _) hb8))
      have HB8 := Lib.hid (HB.out.1.trans (hB8.mono HB.out.1.size))
      obtain ⟨E, hE⟩ : ∃ E, E = (blkI p nn bb l).encode := ⟨_, rfl⟩
      rw [← hE] at ho8 ⊢
      have HE := Lib.hid hE
      have ho9 := ho8.lower (base' := w.heap.size) (by simp; have := HB.out.1.size; have := hB5.size; omega)
      clear hE hB3 hB4 hB5 hB8 hb3 hb4 hb5 hb8 hit3 hit4 hit5 ho8
      by_cases he : E.2 = 0
      · have he2 : (((E.2 : Nat) : Int) != 0) = false := by simp; omega
        go_wp2
        go_ret2
        exact ⟨v8, by unfold blkEncode; rw [← HE.out, if_pos he]; rfl, by unfold blkEncode; rw [← HE.out, if_pos he]; exact ho9, HB8.out⟩
      · have he2 : (((E.2 : Nat) : Int) != 0) = true := by simp; omega
        go_wp2
        go_ret2
        exact ⟨.slice none 0 0, by unfold blkEncode; rw [← HE.out, if_neg he]; rfl, by unfold blkEncode; rw [← HE.out, if_neg he]; exact OwnAt.nil _ _ _ _ _, HB8.out⟩
end Go.Proofs.Ytndkkgkcbbmnpaa
