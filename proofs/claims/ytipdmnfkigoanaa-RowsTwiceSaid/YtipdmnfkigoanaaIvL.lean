import Derived.Test.YtipdmnfkigoanaaIvK
namespace Go.Proofs.Ytipdmnfkigoanaa
open Go.RowKit
attribute [local go_sem] World.cell?_alloc_some frozen_alloc_some

theorem rdS_at {w : World} {b : Nat} {t : TypeId} {fr : Nat × Nat} (l : List Sp) (h : w.heap[b]? = some (.cells (l.flatMap spc).toArray t fr)) (hw : ∀ s ∈ l, s.1 < 4294967296 ∧ s.2 < 4294967296) (hl : l.length ≤ 1000000) (n : Nat) (hn : n = l.length) : RdS w (.slice (some ⟨b, 0, none⟩) n n) l := by
  subst hn
  refine ⟨_, _, rfl, Nat.le_refl _, by unfold maxLen; omega, ⟨by omega, fun h => by cases h⟩, fun i hi => ⟨b, 0, spc l[i], rfl, rfl, rfl, ⟨rfl, hw _ (List.getElem_mem hi)⟩, fun j hj => ?_⟩⟩
  have hj2 : j < 2 := by simpa [spc] using hj
  have hc := flat_chunk spc 2 (fun _ => rfl) l i hi
  simp only [World.cell?, h, Nat.zero_add]
  have e : (l.flatMap spc)[i * 2 + j]? = (spc l[i])[j]? := by
    have := congrArg (fun x => x[j]?) hc
    simpa [List.getElem?_take, List.getElem?_drop, hj2] using this
  rw [List.getElem?_eq_getElem hj] at e
  simpa using e
end Go.Proofs.Ytipdmnfkigoanaa
