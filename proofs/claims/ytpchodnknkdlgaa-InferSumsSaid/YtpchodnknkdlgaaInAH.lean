import Derived.Test.YtpchodnknkdlgaaInAF
import Derived.Test.YtpchodnknkdlgaaInAG
namespace Go.Proofs.Ytpchodnknkdlgaa
open Go.RowKit
attribute [local go_sem] World.cell?_alloc_some

/-! The document's example. -/
theorem lt_ext : ∀ {l m : List Int}, l.Pairwise (· < ·) → m.Pairwise (· < ·) → (∀ x, x ∈ l ↔ x ∈ m) → l = m
  | [], [], _, _, _ => rfl
  | [], y :: m, _, _, h => absurd ((h y).2 (by simp)) (by simp)
  | x :: l, [], _, _, h => absurd ((h x).1 (by simp)) (by simp)
  | x :: l, y :: m, hl, hm, h => by
    obtain ⟨l1, l2⟩ := List.pairwise_cons.1 hl
    obtain ⟨m1, m2⟩ := List.pairwise_cons.1 hm
    have hxy : x = y := by
      rcases List.mem_cons.1 ((h x).1 (by simp)) with e | e
      · exact e
      · rcases List.mem_cons.1 ((h y).2 (by simp)) with e2 | e2
        · exact e2.symm
        · have := m1 x e; have := l1 y e2; omega
    subst hxy
    rw [lt_ext l2 m2 fun z => ⟨fun hz => ?_, fun hz => ?_⟩]
    · rcases List.mem_cons.1 ((h z).1 (by simp [hz])) with e | e
      · subst e; have := l1 z hz; omega
      · exact e
    · rcases List.mem_cons.1 ((h z).2 (by simp [hz])) with e | e
      · subst e; have := m1 z hz; omega
      · exact e
theorem names_eq {sets : List (List Int)} {l : List Int} (hl : l.Pairwise (· < ·)) (h : ∀ x, x ∈ l ↔ ∃ s ∈ sets, x ∈ s) : namesL sets = l :=
  lt_ext (namesL_lt _) hl fun x => by rw [namesL_mem, h]
theorem names1 : namesL [[1, 2, 3], [2, 3]] = [1, 2, 3] := names_eq (by simp) (by intro x; simp <;> omega)
theorem names2 : namesL [[1, 2, 3], [3, 4, 5]] = [1, 2, 3, 4, 5] := names_eq (by simp) (by intro x; simp <;> omega)
theorem mat1 : matL [[1, 2, 3], [2, 3]] = [[1, 1, 1], [0, 1, 1]] := by unfold matL; rw [names1]; rfl
theorem mat2 : matL [[1, 2, 3], [3, 4, 5]] = [[1, 1, 1, 0, 0], [0, 0, 1, 1, 1]] := by unfold matL; rw [names2]; rfl
theorem exposed1 : exposedL [[1, 2, 3], [2, 3]] = (1, true) := by unfold exposedL; rw [names1, mat1]; rfl
theorem exposed2 : exposedL [[1, 2, 3], [3, 4, 5]] = (0, false) := by unfold exposedL; rw [names2, mat2]; rfl
instance (m : Nat) (xs : List Int) : Decidable (Bd m xs) := by unfold Bd; infer_instance
theorem bd1 : ∀ k ≤ 3, ∀ r ∈ (redTo [[1, 1, 1], [0, 1, 1]] k).1, Bd 16777216 r := by decide
theorem bd2 : ∀ k ≤ 5, ∀ r ∈ (redTo [[1, 1, 1, 0, 0], [0, 0, 1, 1, 1]] k).1, Bd 16777216 r := by decide
end Go.Proofs.Ytpchodnknkdlgaa
