import Derived.Test.YtfapeemdlphjbaaDoorIvG
namespace Go.Proofs.YtfapeemdlphjbaaDoor
open Go.RowKit
attribute [local go_sem] World.cell?_alloc_some frozen_alloc_some

theorem growL_wf {o : List Sp} {f t : Nat} (h : WfS o) (hf : f < 4294967296) (ht : t ≤ 4294967296) (h0 : 0 < t) : WfS (growL o f t) := by
  rcases List.eq_nil_or_concat o with rfl | ⟨o, l, rfl⟩
  · rw [growL_nil]; intro s hs; simp at hs; subst hs; exact ⟨hf, by show t - 1 < _; omega⟩
  · rw [List.concat_eq_append] at *
    rw [growL_snoc]
    split
    · intro s hs
      rcases List.mem_append.1 hs with e | e
      · exact h s (List.mem_append_left _ e)
      · simp at e; subst e; exact ⟨(h l (by simp)).1, by show t - 1 < _; omega⟩
    · intro s hs
      rcases List.mem_append.1 hs with e | e
      · exact h s e
      · simp at e; subst e; exact ⟨hf, by show t - 1 < _; omega⟩

end Go.Proofs.YtfapeemdlphjbaaDoor
