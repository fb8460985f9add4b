import Derived.Test.YtipdmnfkigoanaaRwQ
import Derived.Test.YtipdmnfkigoanaaMgAr
import Derived.Test.YtipdmnfkigoanaaArK
import Derived.Test.YtipdmnfkigoanaaSmI
namespace Go.Proofs.Ytipdmnfkigoanaa
open Go.RowKit Go.Maps

/-! Plain facts on areas and rows. -/
theorem inA_bld1 {a b : Ar} (wa : ∀ l ∈ a, WfS l) (wb : ∀ l ∈ b, WfS l) (lab : Int) (key : Nat) : inA (bldA a b 1 (max a.length b.length)) lab key = (inA a lab key && inA b lab key) := by
  unfold inA
  by_cases h : 0 ≤ lab
  · rw [decide_eq_true h, Bool.true_and, Bool.true_and, Bool.true_and]
    by_cases c : lab.toNat < max a.length b.length
    · rw [Bool.eq_iff_iff, bldA_at _ c, memB_iff, Bool.and_eq_true, memB_iff, memB_iff]
      exact (build1_spec (atA_wf wa _) (atA_wf wb _)).iff key
    · rw [atA_ge (a := bldA a b 1 _) (by rw [bldA_len]; omega), atA_ge (a := a) (by omega)]; rfl
  · simp [h]
theorem inA_bld2 {a b : Ar} (wa : ∀ l ∈ a, WfS l) (wb : ∀ l ∈ b, WfS l) (lab : Int) (key : Nat) : inA (bldA a b 2 (max a.length b.length)) lab key = (inA a lab key && !inA b lab key) := by
  unfold inA
  by_cases h : 0 ≤ lab
  · rw [decide_eq_true h, Bool.true_and, Bool.true_and, Bool.true_and]
    by_cases c : lab.toNat < max a.length b.length
    · rw [Bool.eq_iff_iff, bldA_at _ c, memB_iff, Bool.and_eq_true, memB_iff, (build2_spec (atA_wf wa _) (atA_wf wb _)).iff, Bool.not_eq_true', ← Bool.not_eq_true, memB_iff]
    · rw [atA_ge (a := bldA a b 2 _) (by rw [bldA_len]; omega), atA_ge (a := a) (by omega)]; rfl
  · simp [h]
theorem inR_nil (L : RL) : inR [] L = [] := by
  unfold inR
  rw [List.filter_eq_nil_iff.2]
  · rfl
  · intro p _
    unfold inA atA
    simp [memB]
theorem inR_len {a b c1 c2 : Ar} (L : RL) (h1 : ∀ lab key, inA c1 lab key = (inA a lab key && inA b lab key)) (h2 : ∀ lab key, inA c2 lab key = (inA a lab key && !inA b lab key)) : (inR c1 L).length + (inR c2 L).length = (inR a L).length := by
  unfold inR
  simp only [List.length_map]
  induction L with
  | nil => rfl
  | cons p L ih =>
    simp only [List.filter_cons, h1, h2] at ih ⊢
    cases inA a p.1.lab p.1.key <;> cases inA b p.1.lab p.1.key <;> simp <;> omega
theorem inR_apart {a b c1 c2 : Ar} {L : RL} {last : Nat} (hw : RwL L last) (h1 : ∀ lab key, inA c1 lab key = (inA a lab key && inA b lab key)) (h2 : ∀ lab key, inA c2 lab key = (inA a lab key && !inA b lab key)) (v : Int) (hv : v ∈ inR c1 L) : v ∉ inR c2 L := by
  intro hv2
  unfold inR at hv hv2
  obtain ⟨p, hp, e1⟩ := List.mem_map.1 hv
  obtain ⟨q, hq, e2⟩ := List.mem_map.1 hv2
  obtain ⟨hp, g1⟩ := List.mem_filter.1 hp
  obtain ⟨hq, g2⟩ := List.mem_filter.1 hq
  have e : p = q := by
    obtain ⟨i, hi, rfl⟩ := List.getElem_of_mem hp
    obtain ⟨j, hj, rfl⟩ := List.getElem_of_mem hq
    have hu := List.pairwise_iff_getElem.1 hw.up
    rcases Nat.lt_trichotomy i j with hij | hij | hij
    · have := hu i j hi hj hij; omega
    · subst hij; rfl
    · have := hu j i hj hi hij; omega
  subst e
  rw [h1] at g1
  rw [h2] at g2
  cases hb : inA b p.1.lab p.1.key <;> simp [hb] at g1 g2
end Go.Proofs.Ytipdmnfkigoanaa
