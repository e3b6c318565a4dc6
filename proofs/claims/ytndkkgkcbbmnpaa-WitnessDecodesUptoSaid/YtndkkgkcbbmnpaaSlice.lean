/-
  Cutting a slice of bytes: how what is cut reads.
-/
import Derived.Test.YtndkkgkcbbmnpaaItem
namespace Go.Pg
open Go.RowKit
theorem Chg.atb {lb i : Nat} {a w : World} (h : Chg (fun k => k = lb) a w) (u : Value) : Chg (fun k => k = lb) a (w.setCell ⟨lb, i, none⟩ u) := h.setCell (.inr rfl) u
/-- b[:k] -/
theorem BytesAt.upto {F : Nat → Prop} {w : World} {a : Option Addr} {n c : Nat} {bs : List UInt8} (h : BytesAt F w (.slice a n c) bs) (k : Nat) (hk : k ≤ n) : BytesAt F w (.slice a k c) (bs.take k) := by
  obtain ⟨a', c', hv, h1, h2, h3, h4, h5⟩ := h
  simp only [Value.slice.injEq] at hv
  obtain ⟨rfl, rfl, rfl⟩ := hv
  have hl : (bs.take k).length = k := by simp; omega
  refine ⟨a, c, by rw [hl], by omega, h2, h3, fun hp => ?_, fun b o j ha hj => h5 b o j ha (by rw [hl] at hj; omega)⟩
  obtain ⟨b, o, ha, hF, hc⟩ := h4 (by omega)
  refine ⟨b, o, ha, hF, fun i x hx => hc i x ?_⟩
  rw [List.getElem?_take] at hx
  split at hx
  · exact hx
  · cases hx
/-- b[k:] -/
theorem BytesAt.since {F : Nat → Prop} {w : World} {a a2 : Option Addr} {n c : Nat} {bs : List UInt8} (h : BytesAt F w (.slice a n c) bs) (k : Nat) (hk : k ≤ n) (ha2 : (if c = k then a else a.map (·.add k)) = a2) :
    BytesAt F w (.slice a2 (n - k) (c - k)) (bs.drop k) := by
  obtain ⟨a', c', hv, h1, h2, h3, h4, h5⟩ := h
  simp only [Value.slice.injEq] at hv
  obtain ⟨rfl, rfl, rfl⟩ := hv
  have hl : (bs.drop k).length = bs.length - k := by simp
  refine ⟨a2, c - k, by rw [hl], by omega, by omega, fun hn => ?_, fun hp => ?_, fun b o j ha hj => ?_⟩
  · subst hn
    split at ha2
    · omega
    · simp at ha2; have := h3 ha2; omega
  · rw [hl] at hp
    obtain ⟨b, o, rfl, hF, hc⟩ := h4 (by omega)
    have hck : ¬ c = k := by omega
    rw [if_neg hck] at ha2
    have e : (⟨b, o, none⟩ : Addr).add k = ⟨b, o + k, none⟩ := by unfold Addr.add; split <;> simp_all
    simp only [Option.map_some, e] at ha2
    subst ha2
    refine ⟨b, o + k, rfl, hF, fun i x hx => ?_⟩
    obtain ⟨cs, g1, g2, g3⟩ := hc (k + i) x (by rw [List.getElem?_drop] at hx; exact hx)
    exact ⟨cs, g1, g2, fun j u hu => by have := g3 j u hu; rwa [show o + k + i * 1 + j = o + (k + i) * 1 + j by omega]⟩
  · rw [hl] at hj
    obtain ⟨b', o', rfl, -, -⟩ := h4 (by omega)
    have hck : ¬ c = k := by omega
    have e : (⟨b', o', none⟩ : Addr).add k = ⟨b', o' + k, none⟩ := by unfold Addr.add; split <;> simp_all
    rw [if_neg hck, Option.map_some, e, ha] at ha2
    simp only [Option.some.injEq, Addr.mk.injEq, and_true] at ha2
    obtain ⟨rfl, rfl⟩ := ha2
    have := h5 b' o' (k + j) rfl (by omega)
    rwa [show o' + k + j = o' + (k + j) by omega]
end Go.Pg
