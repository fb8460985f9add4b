import Derived.Test.YtfapeemdlphjbaaDoorIvF
namespace Go.Proofs.YtfapeemdlphjbaaDoor
open Go.RowKit
attribute [local go_sem] World.cell?_alloc_some frozen_alloc_some
theorem rdN_at {w : World} {b : Nat} {t : TypeId} {fr : Nat × Nat} (l : List Nat) (h : w.heap[b]? = some (.cells (l.flatMap nc).toArray t fr)) (hl : l.length ≤ 1000000) (n : Nat) (hn : n = l.length) : RdN w (.slice (some ⟨b, 0, none⟩) n n) l := by
  subst hn
  refine ⟨_, _, rfl, Nat.le_refl _, by unfold maxLen; omega, ⟨by omega, fun h => by cases h⟩, fun i hi => ⟨b, 0, nc l[i], rfl, rfl, rfl, rfl, fun j hj => ?_⟩⟩
  have hj0 : j = 0 := by simpa [nc] using hj
  subst hj0
  have hc := flat_chunk nc 1 (fun _ => rfl) l i hi
  have hlen := flat_len nc 1 (fun _ => rfl) l
  simp only [World.cell?, h, Nat.zero_add, Nat.add_zero, Nat.mul_one] at *
  have e : (l.flatMap nc)[i]? = some (nc l[i])[0] := by
    have := congrArg (fun x => x[0]?) hc
    simpa [List.getElem?_take, List.getElem?_drop, nc] using this
  simpa using e

end Go.Proofs.YtfapeemdlphjbaaDoor
