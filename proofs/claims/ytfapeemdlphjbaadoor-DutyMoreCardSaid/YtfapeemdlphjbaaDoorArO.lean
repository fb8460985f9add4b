import Derived.Test.YtfapeemdlphjbaaDoorArM
namespace Go.Proofs.YtfapeemdlphjbaaDoor
open Go.RowKit

theorem maskN_bit (l : List Nat) (i : Nat) : (maskN l).testBit i = (decide (i < 32) && decide (i ∈ l)) := by
  rw [← List.reverse_reverse l]
  induction l.reverse with
  | nil => simp [maskN]
  | cons x r ih =>
    rw [List.reverse_cons, maskN_snoc, Nat.testBit_or, ih, show (4294967296 : Nat) = 2 ^ 32 by rfl, Nat.testBit_mod_two_pow, Nat.one_shiftLeft, Nat.testBit_two_pow]
    by_cases h : i < 32
    · by_cases e : x = i
      · subst e; simp [h]
      · have e' : ¬ i = x := fun h => e h.symm
        simp [h, e, e']
    · simp [h]
theorem nf_nil {l : List Sp} (h : WfS l) : nf l = [] ↔ ∀ k, ¬ Mem k l := (nf_spec h).nil_iff
/-- a label has keys. -/
def HasL (a : Ar) (i : Nat) : Prop := ∃ k, Mem k (atA a i)
theorem lab_iff {a : Ar} (hw : ∀ l ∈ a, WfS l) (i : Nat) : i ∈ (cellsL a).map (·.1) ↔ HasL a i := by
  unfold cellsL cellsTo HasL
  simp only [List.mem_map, List.mem_flatMap, List.mem_range]
  constructor
  · rintro ⟨x, ⟨j, hj, s, hs, rfl⟩, rfl⟩
    have h := nf_spec (hw _ (List.getElem_mem hj))
    rw [atA_lt hj] at hs
    refine ⟨s.1, (by rw [atA_lt hj]; exact (h.iff s.1).1 ⟨s, hs, Nat.le_refl _, (h.nf.ok s hs).1⟩)⟩
  · rintro ⟨k, hk⟩
    by_cases hj : i < a.length
    · have h := nf_spec (hw _ (List.getElem_mem hj))
      rw [atA_lt hj] at hk
      obtain ⟨s, hs, -⟩ := (h.iff k).2 hk
      exact ⟨(i, s), ⟨i, hj, s, by rw [atA_lt hj]; exact hs, rfl⟩, rfl⟩
    · rw [atA_ge (by omega)] at hk; exact (mem_nil hk).elim
def maskA (a : Ar) : Nat := maskN ((cellsL a).map (·.1))
theorem maskA_bit {a : Ar} (hw : ∀ l ∈ a, WfS l) (i : Nat) : (maskA a).testBit i = true ↔ i < 32 ∧ HasL a i := by
  unfold maskA; rw [maskN_bit, Bool.and_eq_true, decide_eq_true_iff, decide_eq_true_iff, lab_iff hw]
theorem maskA_lt (a : Ar) : maskA a < 4294967296 := maskN_lt _
theorem mask_union {a b u : Ar} (ha : ∀ l ∈ a, WfS l) (hb : ∀ l ∈ b, WfS l) (hu : ∀ l ∈ u, WfS l) (h : IsU a b u) : maskA u = maskA a ||| maskA b := by
  refine Nat.eq_of_testBit_eq fun i => eq_of_iff ?_
  rw [maskA_bit hu, Nat.testBit_or, Bool.or_eq_true, maskA_bit ha, maskA_bit hb]
  unfold HasL
  constructor
  · rintro ⟨h1, k, hk⟩
    exact (((h i).iff k).1 hk).elim (fun g => .inl ⟨h1, k, g⟩) (fun g => .inr ⟨h1, k, g⟩)
  · rintro (⟨h1, k, hk⟩ | ⟨h1, k, hk⟩)
    · exact ⟨h1, k, ((h i).iff k).2 (.inl hk)⟩
    · exact ⟨h1, k, ((h i).iff k).2 (.inr hk)⟩
theorem mask_meet {a b m : Ar} (ha : ∀ l ∈ a, WfS l) (hm : ∀ l ∈ m, WfS l) (h : IsM a b m) (i : Nat) (hi : (maskA m).testBit i = true) : (maskA a).testBit i = true := by
  rw [maskA_bit hm] at hi
  rw [maskA_bit ha]
  obtain ⟨h1, k, hk⟩ := hi
  exact ⟨h1, k, (((h i).iff k).1 hk).1⟩
theorem in_of {a : Ar} {lab : Int} {key : Nat} : inA a lab key = true ↔ 0 ≤ lab ∧ Mem key (atA a lab.toNat) := by
  unfold inA; rw [Bool.and_eq_true, decide_eq_true_iff, memB_iff]
theorem in_union {a b u : Ar} (h : IsU a b u) (lab : Int) (key : Nat) : inA u lab key = (inA a lab key || inA b lab key) := eq_of_iff (by
  rw [Bool.or_eq_true, in_of, in_of, in_of, (h _).iff]
  exact ⟨fun g => g.2.elim (fun q => .inl ⟨g.1, q⟩) (fun q => .inr ⟨g.1, q⟩), fun g => g.elim (fun q => ⟨q.1, .inl q.2⟩) (fun q => ⟨q.1, .inr q.2⟩)⟩)
theorem in_meet {a b m : Ar} (h : IsM a b m) (lab : Int) (key : Nat) : inA m lab key = (inA a lab key && inA b lab key) := eq_of_iff (by
  rw [Bool.and_eq_true, in_of, in_of, in_of, (h _).iff]
  exact ⟨fun g => ⟨⟨g.1, g.2.1⟩, g.1, g.2.2⟩, fun g => ⟨g.1.1, g.1.2, g.2.2⟩⟩)
theorem in_minus {a b d : Ar} (h : IsD a b d) (lab : Int) (key : Nat) : inA d lab key = (inA a lab key && !inA b lab key) := eq_of_iff (by
  rw [Bool.and_eq_true, Bool.not_eq_true', ← Bool.not_eq_true, in_of, in_of, in_of, (h _).iff]
  exact ⟨fun g => ⟨⟨g.1, g.2.1⟩, fun q => g.2.2 q.2⟩, fun g => ⟨g.1.1, g.1.2, fun q => g.2 ⟨g.1.1, q⟩⟩⟩)
theorem andnot_zero (x y : Nat) (h : ∀ i, x.testBit i = true → y.testBit i = true) : bits .andNot .u32 (x : Int) (y : Int) = 0 := by
  have h1 : BitVec.ofInt 32 (x : Int) = BitVec.ofNat 32 x := by rw [BitVec.ofInt_natCast]
  have h2 : BitVec.ofInt 32 (y : Int) = BitVec.ofNat 32 y := by rw [BitVec.ofInt_natCast]
  have h3 : BitVec.ofNat 32 x &&& ~~~BitVec.ofNat 32 y = 0#32 := by
    apply BitVec.eq_of_getLsbD_eq
    intro i hi
    have := h i
    simp only [BitVec.getLsbD_and, BitVec.getLsbD_not, BitVec.getLsbD_ofNat, hi, decide_true, Bool.true_and]
    cases q : x.testBit i with
    | false => simp
    | true => simp [this q]
  show IntKind.u32.wrap ((BitVec.ofInt 32 (x : Int) &&& ~~~BitVec.ofInt 32 (y : Int)).toNat : Int) = 0
  rw [h1, h2, h3]; rfl
/-- empty labels at the end make no difference. -/
theorem same_more (a : Ar) : subB (a ++ [[], [(2, 1)]]) a = true ∧ subB a (a ++ [[], [(2, 1)]]) = true := by
  have e : ∀ i k, Mem k (atA (a ++ [[], [(2, 1)]]) i) ↔ Mem k (atA a i) := fun i k => by
    by_cases h : i < a.length
    · have : atA (a ++ [[], [(2, 1)]]) i = atA a i := by unfold atA; simp [List.getD, List.getElem?_append_left h]
      rw [this]
    · rw [atA_ge (a := a) (by omega)]
      refine ⟨fun g => ?_, fun g => (mem_nil g).elim⟩
      exfalso
      unfold atA at g
      rw [List.getD, List.getElem?_append_right (by omega)] at g
      match hq : i - a.length with
      | 0 => rw [hq] at g; exact mem_nil (by simpa using g)
      | 1 => rw [hq] at g; simp [Mem] at g; omega
      | n + 2 => rw [hq] at g; exact mem_nil (by simpa using g)
  exact ⟨subB_iff.2 fun i k h => (e i k).1 h, subB_iff.2 fun i k h => (e i k).2 h⟩
theorem same_dm {a b d m r : Ar} (hd : IsD a b d) (hm : IsM a b m) (hr : IsU d m r) : subB r a = true ∧ subB a r = true := by
  refine ⟨subB_iff.2 fun i k h => ?_, subB_iff.2 fun i k h => ?_⟩
  · rcases ((hr i).iff k).1 h with g | g
    · exact (((hd i).iff k).1 g).1
    · exact (((hm i).iff k).1 g).1
  · refine ((hr i).iff k).2 ?_
    by_cases g : Mem k (atA b i)
    · exact .inr (((hm i).iff k).2 ⟨h, g⟩)
    · exact .inl (((hd i).iff k).2 ⟨h, g⟩)
theorem empty_db {a b d m : Ar} (hd : IsD a b d) (hm : IsM d b m) : emptyB m = true := emptyB_iff.2 fun i k h => by
  have h1 := ((hm i).iff k).1 h
  exact (((hd i).iff k).1 h1.1).2 h1.2
theorem within_same {a b u : Ar} (h : IsU a b u) : subB a b = (subB u b && subB b u) := eq_of_iff (by
  rw [Bool.and_eq_true, sub_union h, Bool.and_eq_true, subB_iff, subB_iff, subB_iff]
  exact ⟨fun g => ⟨⟨g, fun i k q => q⟩, fun i k q => ((h i).iff k).2 (.inr q)⟩, fun g => g.1.1⟩)
end Go.Proofs.YtfapeemdlphjbaaDoor
