import Derived.Test.YtfapeemdlphjbaaDoorArL
namespace Go.Proofs.YtfapeemdlphjbaaDoor
open Go.RowKit
attribute [local go_sem] World.cell?_alloc_some frozen_alloc_some

/-- is each cell in another area? -/
noncomputable def subB (a b : Ar) : Bool := @decide (SubA a b) (Classical.propDecidable _)
theorem subB_iff {a b : Ar} : subB a b = true ↔ SubA a b := @decide_eq_true_iff _ (Classical.propDecidable _)
theorem eq_of_iff {p q : Bool} (h : p = true ↔ q = true) : p = q := Bool.eq_iff_iff.2 h
theorem within_b (w : World) (v u : Value) (a b : Ar) (ha : RdA w v a) (hb : RdA w u b) (la : a.length ≤ 100) (lb : b.length ≤ 100) (sa : Sm 450 a) (sb : Sm 450 b) :
    Calls Tryd.prog 14 #[v, u] w fun e w' => e = .returned (.bool (subB a b)) ∧ Below w.heap.size w w' :=
  (awithin_calls w v u a b ha hb la lb sa sb).mono fun e w' ⟨q, e1, hq, h⟩ => ⟨by rw [e1, eq_of_iff (hq.trans subB_iff.symm)], h⟩
theorem same_b (w : World) (v u : Value) (a b : Ar) (ha : RdA w v a) (hb : RdA w u b) (la : a.length ≤ 100) (lb : b.length ≤ 100) (sa : Sm 450 a) (sb : Sm 450 b) :
    Calls Tryd.prog 15 #[v, u] w fun e w' => e = .returned (.bool (subB a b && subB b a)) ∧ Below w.heap.size w w' :=
  (asame_calls w v u a b ha hb la lb sa sb).mono fun e w' ⟨q, e1, hq, h⟩ => ⟨by rw [e1, eq_of_iff (p := q) (q := subB a b && subB b a) (by rw [hq, Bool.and_eq_true, subB_iff, subB_iff])], h⟩
theorem Sm.mono {n m : Nat} {a : Ar} (h : Sm n a) (hm : n ≤ m) : Sm m a := fun l hl => Nat.le_trans (h l hl) hm

abbrev IsU (a b r : Ar) : Prop := ∀ i, IsSet (fun k => Mem k (atA a i) ∨ Mem k (atA b i)) (atA r i)
abbrev IsM (a b r : Ar) : Prop := ∀ i, IsSet (fun k => Mem k (atA a i) ∧ Mem k (atA b i)) (atA r i)
abbrev IsD (a b r : Ar) : Prop := ∀ i, IsSet (fun k => Mem k (atA a i) ∧ ¬ Mem k (atA b i)) (atA r i)
theorem sub_meet {a b c m : Ar} (h : IsM b c m) : subB a m = (subB a b && subB a c) := eq_of_iff (by
  rw [Bool.and_eq_true, subB_iff, subB_iff, subB_iff]
  exact ⟨fun g => ⟨fun i k hk => (((h i).iff k).1 (g i k hk)).1, fun i k hk => (((h i).iff k).1 (g i k hk)).2⟩, fun g i k hk => ((h i).iff k).2 ⟨g.1 i k hk, g.2 i k hk⟩⟩)
theorem sub_union {a b c u : Ar} (h : IsU a b u) : subB u c = (subB a c && subB b c) := eq_of_iff (by
  rw [Bool.and_eq_true, subB_iff, subB_iff, subB_iff]
  exact ⟨fun g => ⟨fun i k hk => g i k (((h i).iff k).2 (.inl hk)), fun i k hk => g i k (((h i).iff k).2 (.inr hk))⟩, fun g i k hk => (((h i).iff k).1 hk).elim (g.1 i k) (g.2 i k)⟩)
theorem sub_mu {a b c m u : Ar} (h : IsM a b m) (g : IsU b c u) : subB m u = true := subB_iff.2 fun i k hk => ((g i).iff k).2 (.inl (((h i).iff k).1 hk).2)
theorem sub_uu {a b u v : Ar} (h : IsU a b u) (g : IsU b a v) : subB u v = true := subB_iff.2 fun i k hk => ((g i).iff k).2 ((((h i).iff k).1 hk).symm)
theorem sub_mm {a b u v : Ar} (h : IsM a b u) (g : IsM b a v) : subB u v = true := subB_iff.2 fun i k hk => ((g i).iff k).2 ((((h i).iff k).1 hk).symm)
theorem sub_trans {a b c : Ar} (h : subB a b = true) (g : subB b c = true) : subB a c = true := subB_iff.2 fun i k hk => subB_iff.1 g i k (subB_iff.1 h i k hk)
end Go.Proofs.YtfapeemdlphjbaaDoor
