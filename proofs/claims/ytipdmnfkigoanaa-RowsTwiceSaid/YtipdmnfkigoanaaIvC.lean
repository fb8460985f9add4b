import Derived.Test.YtipdmnfkigoanaaIvB
import Derived.Deep.DeepCutAuto
namespace Go.Proofs.Ytipdmnfkigoanaa
open Go.RowKit
attribute [local go_sem] World.cell?_alloc_some frozen_alloc_some

theorem RdS.tail {w : World} {b o cap : Nat} {s : Sp} {x : List Sp} (h : RdS w (.slice (some ⟨b, o, none⟩) (s :: x).length cap) (s :: x)) :
    RdS w (.slice (if cap = 1 then some ⟨b, o, none⟩ else some ⟨b, o + 2, none⟩) x.length (cap - 1)) x := by
  obtain ⟨A', c', e, h1, h2, h3, h4⟩ := h
  cases e
  simp only [List.length_cons] at h1 h3
  by_cases hc : cap = 1
  · have hx : x = [] := List.length_eq_zero_iff.1 (by omega)
    subst hx
    exact ⟨_, _, rfl, by simp, by omega, ⟨by simp, fun h => by split at h <;> cases h⟩, fun i hi => by simp at hi⟩
  · rw [if_neg hc]
    refine ⟨_, _, rfl, by omega, by omega, ⟨by omega, fun h => by cases h⟩, fun i hi => ?_⟩
    obtain ⟨b', o', cs, e, hb, hl, hr, hcell⟩ := h4 (i + 1) (by simp; omega)
    cases e
    exact ⟨b, o + 2, cs, rfl, hb, hl, by simpa using hr, fun j hj => by rw [show o + 2 + i * 2 + j = o + (i + 1) * 2 + j by omega]; exact hcell j hj⟩

end Go.Proofs.Ytipdmnfkigoanaa
