import Derived.Test.YtipdmnfkigoanaaIvJ
namespace Go.Proofs.Ytipdmnfkigoanaa
open Go.RowKit
attribute [local go_sem] World.cell?_alloc_some frozen_alloc_some

/-- All these values read as those lists. -/
def RdAll (w : World) (L : List (Value × List Sp)) : Prop := ∀ p ∈ L, RdS w p.1 p.2
theorem RdAll.keep {w w' : World} {L : List (Value × List Sp)} (h : RdAll w L) (hb : Below w.heap.size w w') : RdAll w' L := fun p hp => (h p hp).keep hb
theorem RdAll.cons {w : World} {L : List (Value × List Sp)} {v : Value} {l : List Sp} (h : RdAll w L) (hv : RdS w v l) : RdAll w ((v, l) :: L) := fun p hp => by
  rcases List.mem_cons.1 hp with e | e
  · subst e; exact hv
  · exact h p e
theorem RdAll.nil {w : World} : RdAll w [] := fun p hp => by simp at hp
theorem RdAll.at_ {w : World} {L : List (Value × List Sp)} (h : RdAll w L) (i : Nat) {v : Value} {l : List Sp} (hp : L[i]? = some (v, l)) : RdS w v l := h (v, l) (List.mem_of_getElem? hp)

/-- how many keys spans have. -/
def szB (l : List Sp) : Nat := cnt (fun k => memB k l) 4294967296
theorem szB_le (l : List Sp) : szB l ≤ 4294967296 := cnt_le _ _
theorem szB_set {l a : List Sp} (h : IsSet (fun k => Mem k l) a) : sizeL a = szB l := by
  rw [h.nf.size]; exact cnt_congr fun k _ => by rw [Bool.eq_iff_iff, memB_iff, memB_iff]; exact h.iff k
theorem IsSet.memB {P : Nat → Prop} {l : List Sp} (h : IsSet P l) (k : Nat) : memB k l = true ↔ P k := memB_iff.trans (h.iff k)
theorem szB_add {a b u m : List Sp} (hu : IsSet (fun k => Mem k a ∨ Mem k b) u) (hm : IsSet (fun k => Mem k a ∧ Mem k b) m) : szB u + szB m = szB a + szB b := by
  have e := cnt_or_and (fun k => memB k a) (fun k => memB k b) 4294967296
  have e1 : szB u = cnt (fun k => memB k a || memB k b) 4294967296 := cnt_congr fun k _ => by rw [Bool.eq_iff_iff, hu.memB]; simp [memB_iff]
  have e2 : szB m = cnt (fun k => memB k a && memB k b) 4294967296 := cnt_congr fun k _ => by rw [Bool.eq_iff_iff, hm.memB]; simp [memB_iff]
  rw [e1, e2, e]
  rfl
theorem szB_sub {a b d m : List Sp} (hd : IsSet (fun k => Mem k a ∧ ¬ Mem k b) d) (hm : IsSet (fun k => Mem k a ∧ Mem k b) m) : szB d + szB m = szB a := by
  have e := cnt_or_and (fun k => memB k d) (fun k => memB k m) 4294967296
  have e1 : cnt (fun k => memB k d || memB k m) 4294967296 = szB a := cnt_congr fun k _ => by
    rw [Bool.eq_iff_iff]; simp only [Bool.or_eq_true, hd.memB, hm.memB, memB_iff]; grind
  have e2 : cnt (fun k => memB k d && memB k m) 4294967296 = 0 := cnt_none fun k _ => by
    rw [Bool.eq_false_iff]; simp only [ne_eq, Bool.and_eq_true, hd.memB, hm.memB]; grind
  unfold szB at *; omega
theorem szB_not {a n : List Sp} (hn : IsSet (fun k => k < 4294967296 ∧ ¬ Mem k a) n) : szB n + szB a = 4294967296 := by
  have e := cnt_or_and (fun k => memB k n) (fun k => memB k a) 4294967296
  have e1 : cnt (fun k => memB k n || memB k a) 4294967296 = 4294967296 := cnt_all fun k hk => by
    simp only [Bool.or_eq_true, hn.memB, memB_iff]; grind
  have e2 : cnt (fun k => memB k n && memB k a) 4294967296 = 0 := cnt_none fun k _ => by
    rw [Bool.eq_false_iff]; simp only [ne_eq, Bool.and_eq_true, hn.memB, memB_iff]; grind
  unfold szB at *; omega
theorem szB_congr {a b : List Sp} (h : ∀ k, Mem k a ↔ Mem k b) : szB a = szB b := cnt_congr fun k _ => by
  rw [Bool.eq_iff_iff, memB_iff, memB_iff]; exact h k

theorem has2_calls (w : World) (v : Value) (l : List Sp) (key : Nat) (hr : RdS w v l) :
    Calls Try.prog 37 #[v, .int .u32 key] w fun e w' => ∃ b, e = .returned (.bool b) ∧ (b = true ↔ Mem key l) ∧ Below w.heap.size w w' :=
  (has_calls w v l key hr).mono fun _ _ ⟨he, hb⟩ => ⟨_, he, memB_iff, hb⟩
theorem refHas2_calls (w : World) (v : Value) (l : List Sp) (key : Nat) (hr : RdS w v l) :
    Calls Try.prog 30 #[v, .int .i64 key] w fun e w' => ∃ b, e = .returned (.bool b) ∧ (b = true ↔ Mem key l) ∧ Below w.heap.size w w' :=
  (refHas_calls w v l key hr).mono fun _ _ ⟨he, hb⟩ => ⟨_, he, memB_iff, by rw [hb]; exact Below.refl _ _⟩
theorem build2_calls (w : World) (v u : Value) (l m : List Sp) (kind : Int) (hr : RdS w v l) (hr2 : RdS w u m) (hn : l.length ≤ 10000) (hn2 : m.length ≤ 10000) (hkind : kind = 0 ∨ kind = 1 ∨ kind = 2 ∨ kind = 3) :
    Calls Try.prog 32 #[v, u, .int .i64 kind] w fun e w' => ∃ v' l', e = .returned v' ∧ NewS w.heap.size w' v' l' ∧ l' = buildL l m kind ∧ WfS l ∧ WfS m ∧ l'.length ≤ 1000000 ∧ Below w.heap.size w w' :=
  (build_calls w v u l m kind hr hr2 hn hn2 hkind).mono fun _ _ ⟨v', he, h1, hb⟩ => ⟨v', _, he, h1, rfl, hr.wf, hr2.wf, h1.2.2, hb⟩
end Go.Proofs.Ytipdmnfkigoanaa
