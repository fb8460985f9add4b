import Derived.Test.YtfapeemdlphjbaaDoorArR
namespace Go.Proofs.YtfapeemdlphjbaaDoor
open Go.RowKit

/-! Sharper bounds: a union has no more spans than both together. -/
theorem nf_mem_append {l m : List Sp} (hl : WfS l) (hm : WfS m) : IsSet (fun k => Mem k l ∨ Mem k m) (nf (l ++ m)) := (nf_spec (hl.append hm)).of fun _ => mem_append
theorem atA_wf2 {a : Ar} (h : ∀ l ∈ a, WfS l) (i : Nat) : WfS (atA a i) := by
  by_cases c : i < a.length
  · rw [atA_lt c]; exact h _ (List.getElem_mem c)
  · rw [atA_ge (by omega)]; exact WfS.nil
theorem union_sm {a b r : Ar} {na nb : Nat} (wa : ∀ l ∈ a, WfS l) (wb : ∀ l ∈ b, WfS l) (sa : Sm na a) (sb : Sm nb b) (h : IsU a b r) : Sm (na + nb) r := fun l hl => by
  obtain ⟨i, hi, rfl⟩ := List.getElem_of_mem hl
  have e : atA r i = nf (atA a i ++ atA b i) := (h i).eq (nf_mem_append (atA_wf2 wa i) (atA_wf2 wb i)) fun _ => Iff.rfl
  rw [← atA_lt hi, e]
  have h1 := nf_len ((atA_wf2 wa i).append (atA_wf2 wb i))
  have h2 := sa.at i
  have h3 := sb.at i
  rw [List.length_append] at h1
  omega
end Go.Proofs.YtfapeemdlphjbaaDoor
