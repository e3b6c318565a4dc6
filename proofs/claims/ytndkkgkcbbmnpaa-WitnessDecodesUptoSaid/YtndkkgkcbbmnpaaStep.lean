/-
  The append law as one step of a region that draws its order.
-/
import Derived.Test.YtndkkgkcbbmnpaaOwn
import Derived.Deep.AppendLies
namespace Go.Pg
open Go.RowKit
section
variable {α : Type}
theorem OwnAt.drew' {w : World} {base : Nat} {e : TypeId} {sz : Nat} {R : List Value → α → Prop} {v : Value} {l : List α} (h : OwnAt w base e sz R v l) : OwnAt w.drew base e sz R v l := h.carry (fun _ _ _ _ => rfl)
theorem SliceAt.drew' {F : Nat → Prop} {w : World} {sz : Nat} {R : List Value → α → Prop} {v : Value} {l : List α} (h : SliceAt F w sz R v l) (hsz : 0 < sz) : SliceAt F w.drew sz R v l := h.carry hsz (fun _ _ x => x) (fun _ _ _ => rfl) (fun _ _ _ h => h)
/-- append of a list that is not empty, as one step of a region: the new value is written out -/
theorem step_append_at {P : Program} {ops : Array Oper} {o : Oper} {a : Act} {w : World} {K : Act → World → Prop} {Q : Exit → Act → World → Prop} {E : Prop} (hgd : o.guard = none) (s x : Operand) (t : TypeId)
    (ho : o.op = .call { callee := .builtin .append, args := #[s, x], argTypes := #[t, t] })
    (base : Nat) (e : TypeId) (i : TypeInfo) (z : Value) (sz bytes : Nat) (ht : P.underlying t = some (.slice e)) (hi : P.info? e = some i) (hz : i.zero = some z)
    (hsize : i.size = sz) (hby : i.bytes = bytes) (hzs : z.cells.size = sz) (hsz : 0 < sz) (hb0 : 0 < bytes)
    {R : List Value → α → Prop} (hR1 : ∀ cs x, R cs x → ∀ u ∈ cs, u.oneCell' = true)
    (v : Value) (l : List α) (hs : a.eval s = v) (hown : OwnAt w base e sz R v l)
    (u : Value) (m : List α) (F : Nat → Prop) (hx : a.eval x = u) (hsrc : SliceAt F w sz R u m) (hm0 : 0 < m.length)
    (hbytes : (l.length + m.length) * bytes ≤ 140737488355328) (hbase : base ≤ w.heap.size) (n' : Nat) (hn' : l.length + m.length = n')
    (h : ∀ g cap w', OwnAt w' base e sz R (.slice (some ⟨g, 0, none⟩) n' cap) (l ++ m) → w.grownBy w' v.ownBlock → Moved w v (.slice (some ⟨g, 0, none⟩) n' cap) →
      K (a.put o.dst (.slice (some ⟨g, 0, none⟩) n' cap)) w') :
    if Region.wanted o (yielded ops a.tmps) = true then Oper.wp P o a w K Q else E := by
  have hw : Region.wanted o (yielded ops a.tmps) = true := by simp [Region.wanted, hgd]
  rw [if_pos hw]
  obtain ⟨xs, h1, h2⟩ := hown
  have h63 : l.length + m.length ≤ maxLen := by
    have : l.length + m.length ≤ (l.length + m.length) * bytes := Nat.le_mul_of_pos_right _ hb0
    unfold maxLen; omega
  rcases SliceAt.cases hsrc with ⟨rfl, -⟩ | ⟨b, off, c, hv, hl, hc, hm, hF⟩
  · simp at hm0
  · subst hv
    obtain ⟨news, k1, k2⟩ := SliceAt.rows hsrc
    have hcell : ∀ j u, news[j]? = some u → w.cell? ((⟨b, off, none⟩ : Addr).add j) = some u := fun j u hu => by
      have : (⟨b, off, none⟩ : Addr).add j = ⟨b, off + j, none⟩ := by unfold Addr.add; split <;> simp_all
      rw [this]; exact k2 j u hu
    obtain ⟨v', w', r1, r2, r3, r4⟩ := run_append_where (P := P) w base t o.type e i z sz bytes ht hi hz hsize hby hzs hsz v l.length xs h1 ⟨b, off, none⟩ m.length c news k1.1 hcell (k1.each hsz _ hR1) h63 hbytes hbase
    unfold Oper.wp execOp
    simp only [ho, resolve, invoke, builtin, Sem.run_bind, Sem.run_pure, Result.andThen_ok, List.map_toArray, List.map_cons, List.map_nil, hs, hx, r1]
    rcases r2.2 with ⟨_, h0⟩ | ⟨g, cap, cur, rfl, rest⟩
    · omega
    · subst hn'; exact h g cap w' ⟨xs ++ news, by simpa using r2, h2.append k1⟩ r3 r4
end
end Go.Pg
