import Derived.Test.YtipdmnfkigoanaaIvI
namespace Go.Proofs.Ytipdmnfkigoanaa
open Go.RowKit
attribute [local go_sem] World.cell?_alloc_some frozen_alloc_some

theorem build0_spec {a b : List Sp} (ha : WfS a) (hb : WfS b) : IsSet (fun k => Mem k a ∨ Mem k b) (buildL a b 0) := (build_spec ha hb 0).of fun k => by
  have h1 := fun h => ha.lt (k := k) h
  have h2 := fun h => hb.lt (k := k) h
  simp only [pK, ← memB_iff] at *
  revert h1 h2
  generalize memB k a = x; generalize memB k b = y; intro h1 h2; cases x <;> cases y <;> simp_all
theorem build1_spec {a b : List Sp} (ha : WfS a) (hb : WfS b) : IsSet (fun k => Mem k a ∧ Mem k b) (buildL a b 1) := (build_spec ha hb 1).of fun k => by
  have h1 := fun h => ha.lt (k := k) h
  have h2 := fun h => hb.lt (k := k) h
  simp only [pK, ← memB_iff] at *
  revert h1 h2
  generalize memB k a = x; generalize memB k b = y; intro h1 h2; cases x <;> cases y <;> simp_all
theorem build2_spec {a b : List Sp} (ha : WfS a) (hb : WfS b) : IsSet (fun k => Mem k a ∧ ¬ Mem k b) (buildL a b 2) := (build_spec ha hb 2).of fun k => by
  have h1 := fun h => ha.lt (k := k) h
  have h2 := fun h => hb.lt (k := k) h
  simp only [pK, ← memB_iff] at *
  revert h1 h2
  generalize memB k a = x; generalize memB k b = y; intro h1 h2; cases x <;> cases y <;> simp_all
theorem build3_spec {a b : List Sp} (ha : WfS a) (hb : WfS b) : IsSet (fun k => k < 4294967296 ∧ ¬ Mem k a) (buildL a b 3) := (build_spec ha hb 3).of fun k => by
  simp only [pK, ← memB_iff] at *
  cases memB k a <;> cases memB k b <;> simp_all
theorem WfS.nil : WfS [] := fun s h => by simp at h
theorem buildMake_spec {a : List Sp} (ha : WfS a) : IsSet (fun k => Mem k a) (buildL a [] 0) := (build0_spec ha WfS.nil).of fun _ => ⟨fun h => h.resolve_right mem_nil, .inl⟩

end Go.Proofs.Ytipdmnfkigoanaa
