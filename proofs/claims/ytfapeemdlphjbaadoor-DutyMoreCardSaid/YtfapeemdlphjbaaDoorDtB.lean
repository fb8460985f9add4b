import Derived.Test.YtfapeemdlphjbaaDoorDtA
namespace Go.Proofs.YtfapeemdlphjbaaDoor
open Go.RowKit

/-! Clashes, plain. -/
/-- two areas share a key. -/
def Meets (a b : Ar) : Prop := ∃ i k, Mem k (atA a i) ∧ Mem k (atA b i)
noncomputable def meetsB (a b : Ar) : Bool := @decide (Meets a b) (Classical.propDecidable _)
theorem meetsB_iff {a b : Ar} : meetsB a b = true ↔ Meets a b := @decide_eq_true_iff _ (Classical.propDecidable _)
theorem empty_meet {a b m : Ar} (h : IsM a b m) : emptyB m = !meetsB a b := eq_of_iff (by
  rw [emptyB_iff, Bool.not_eq_true', ← Bool.not_eq_true, meetsB_iff]
  exact ⟨fun g ⟨i, k, hk⟩ => g i k (((h i).iff k).2 hk), fun g i k hk => g ⟨i, k, ((h i).iff k).1 hk⟩⟩)
/-- two grants clash. -/
noncomputable def clB (g h : Gr) : Bool := g.ten == h.ten && g.wr != h.wr && meetsB g.ar h.ar
/-- the pairs that clash, in the order in which they come. -/
noncomputable def clL (l : List Gr) (ten : Int) : List (Nat × Nat) := (List.range l.length).flatMap fun i => ((List.range (l.length - i)).filter fun k => match l[i]?, l[i + k]? with | some g, some h => g.ten == ten && clB g h | _, _ => false).map fun k => (i, i + k)
theorem clL_mem {l : List Gr} {ten : Int} {i j : Nat} : (i, j) ∈ clL l ten ↔ ∃ g h, l[i]? = some g ∧ l[j]? = some h ∧ i ≤ j ∧ g.ten = ten ∧ clB g h = true := by
  unfold clL
  simp only [List.mem_flatMap, List.mem_range, List.mem_map, List.mem_filter]
  constructor
  · rintro ⟨p, hi, k, ⟨hk, hc⟩, e⟩
    cases e
    have h1 : l[i]? = some l[i] := List.getElem?_eq_getElem hi
    have h2 : l[i + k]? = some (l[i + k]'(by omega)) := List.getElem?_eq_getElem (by omega)
    rw [h1, h2] at hc
    simp only [Bool.and_eq_true, beq_iff_eq] at hc
    exact ⟨_, _, h1, h2, by omega, hc.1, hc.2⟩
  · rintro ⟨g, h, h1, h2, hij, ht, hc⟩
    obtain ⟨hi, -⟩ := List.getElem?_eq_some_iff.1 h1
    obtain ⟨hj, -⟩ := List.getElem?_eq_some_iff.1 h2
    refine ⟨i, hi, j - i, ⟨by omega, ?_⟩, by rw [show i + (j - i) = j by omega]⟩
    rw [h1, show i + (j - i) = j by omega, h2]
    simp [ht, hc]
/-- there are clashes just if what is read meets what is written. -/
theorem clL_iff {l : List Gr} {ten : Int} {r u : Ar} (hr : IsUn (ofT l ten false) r) (hu : IsUn (ofT l ten true) u) : meetsB r u = true ↔ clL l ten ≠ [] := by
  rw [meetsB_iff]
  constructor
  · rintro ⟨i, k, h1, h2⟩
    obtain ⟨g, hg, hgk⟩ := ((hr i).iff k).1 h1
    obtain ⟨h, hh, hhk⟩ := ((hu i).iff k).1 h2
    obtain ⟨hgm, hgt⟩ := List.mem_filter.1 hg
    obtain ⟨hhm, hht⟩ := List.mem_filter.1 hh
    simp only [Bool.and_eq_true, beq_iff_eq] at hgt hht
    obtain ⟨p, hp, rfl⟩ := List.getElem_of_mem hgm
    obtain ⟨q, hq, rfl⟩ := List.getElem_of_mem hhm
    have hm : meetsB l[p].ar l[q].ar = true := meetsB_iff.2 ⟨i, k, hgk, hhk⟩
    have hm2 : meetsB l[q].ar l[p].ar = true := meetsB_iff.2 ⟨i, k, hhk, hgk⟩
    rcases Nat.le_total p q with c | c
    · exact List.ne_nil_of_mem (clL_mem.2 ⟨_, _, List.getElem?_eq_getElem hp, List.getElem?_eq_getElem hq, c, hgt.1, by unfold clB; rw [hgt.1, hht.1, hgt.2, hht.2, hm]; simp⟩)
    · exact List.ne_nil_of_mem (clL_mem.2 ⟨_, _, List.getElem?_eq_getElem hq, List.getElem?_eq_getElem hp, c, hht.1, by unfold clB; rw [hgt.1, hht.1, hgt.2, hht.2, hm2]; simp⟩)
  · intro hne
    obtain ⟨⟨p, q⟩, hpq⟩ := List.exists_mem_of_ne_nil _ hne
    obtain ⟨g, h, h1, h2, -, ht, hc⟩ := clL_mem.1 hpq
    unfold clB at hc
    simp only [Bool.and_eq_true, beq_iff_eq, bne_iff_ne] at hc
    obtain ⟨⟨e1, e2⟩, e3⟩ := hc
    obtain ⟨i, k, k1, k2⟩ := meetsB_iff.1 e3
    have m1 : g ∈ l := List.mem_of_getElem? h1
    have m2 : h ∈ l := List.mem_of_getElem? h2
    cases hw : g.wr with
    | false =>
      have hw2 : h.wr = true := by cases q : h.wr <;> simp_all
      exact ⟨i, k, ((hr i).iff k).2 ⟨g, List.mem_filter.2 ⟨m1, by simp [ht, hw]⟩, k1⟩, ((hu i).iff k).2 ⟨h, List.mem_filter.2 ⟨m2, by simp [← e1, ht, hw2]⟩, k2⟩⟩
    | true =>
      have hw2 : h.wr = false := by cases q : h.wr <;> simp_all
      exact ⟨i, k, ((hr i).iff k).2 ⟨h, List.mem_filter.2 ⟨m2, by simp [← e1, ht, hw2]⟩, k2⟩, ((hu i).iff k).2 ⟨g, List.mem_filter.2 ⟨m1, by simp [ht, hw]⟩, k1⟩⟩
/-- one row of pairs. -/
noncomputable def clRow (l : List Gr) (ten : Int) (i : Nat) : List (Nat × Nat) := ((List.range (l.length - i)).filter fun k => match l[i]?, l[i + k]? with | some g, some h => g.ten == ten && clB g h | _, _ => false).map fun k => (i, i + k)
theorem clL_rows (l : List Gr) (ten : Int) : clL l ten = (List.range l.length).flatMap (clRow l ten) := rfl
theorem clRow_more (l : List Gr) (g : Gr) (ten : Int) (i : Nat) (hi : i < l.length) : clRow (l ++ [g]) ten i = clRow l ten i ++ if l[i].ten = ten ∧ clB l[i] g = true then [(i, l.length)] else [] := by
  unfold clRow
  rw [List.length_append, List.length_singleton, show l.length + 1 - i = (l.length - i) + 1 by omega, List.range_succ, List.filter_append, List.map_append]
  congr 1
  · congr 1
    refine List.filter_congr fun k hk => ?_
    have hk := List.mem_range.1 hk
    rw [List.getElem?_append_left hi, List.getElem?_append_left (show i + k < l.length by omega)]
  · have e1 : i + (l.length - i) = l.length := by omega
    rw [List.filter_cons, e1]
    simp only [List.getElem?_append_left hi, List.getElem?_eq_getElem hi, List.getElem?_append_right (Nat.le_refl _), Nat.sub_self, List.getElem?_cons_zero, List.filter_nil]
    by_cases h : l[i].ten = ten ∧ clB l[i] g = true
    · rw [if_pos h]; simp [h.1, h.2, e1]
    · rw [if_neg h, if_neg (by simpa using h)]; rfl
theorem clRow_last (l : List Gr) (g : Gr) (ten : Int) : clRow (l ++ [g]) ten l.length = [] := by
  refine List.eq_nil_iff_forall_not_mem.2 fun p hp => ?_
  obtain ⟨a, b⟩ := p
  unfold clRow at hp
  obtain ⟨k, hk, e⟩ := List.mem_map.1 hp
  obtain ⟨hk1, hk2⟩ := List.mem_filter.1 hk
  have hk1 := List.mem_range.1 hk1
  rw [List.length_append, List.length_singleton] at hk1
  have hk0 : k = 0 := by omega
  subst hk0
  rw [Nat.add_zero, List.getElem?_append_right (Nat.le_refl _), Nat.sub_self] at hk2
  simp [clB] at hk2
theorem clL_more (l : List Gr) (g : Gr) (ten : Int) : (clL l ten).length ≤ (clL (l ++ [g]) ten).length := by
  rw [clL_rows, clL_rows, List.length_append, List.length_singleton, List.range_succ, List.flatMap_append, List.length_append]
  refine Nat.le_trans ?_ (Nat.le_add_right _ _)
  rw [List.length_flatMap, List.length_flatMap]
  have : ∀ n, n ≤ l.length → ((List.range n).map fun i => (clRow l ten i).length).sum ≤ ((List.range n).map fun i => (clRow (l ++ [g]) ten i).length).sum := fun n hn => by
    induction n with
    | zero => simp
    | succ n ih =>
      have h1 := ih (by omega)
      rw [List.range_succ, List.map_append, List.map_append, List.sum_append, List.sum_append]
      have h2 : (clRow l ten n).length ≤ (clRow (l ++ [g]) ten n).length := by rw [clRow_more l g ten n (by omega), List.length_append]; omega
      simp only [List.map_cons, List.map_nil, List.sum_cons, List.sum_nil]
      omega
  exact this _ (Nat.le_refl _)
theorem clL_other (l : List Gr) (g : Gr) (ten : Int) (h : g.ten ≠ ten) : clL (l ++ [g]) ten = clL l ten := by
  rw [clL_rows, clL_rows, List.length_append, List.length_singleton, List.range_succ, List.flatMap_append]
  have e : ([l.length] : List Nat).flatMap (clRow (l ++ [g]) ten) = [] := by simp [clRow_last]
  rw [e, List.append_nil]
  have h2 : ∀ n, n ≤ l.length → (List.range n).flatMap (clRow (l ++ [g]) ten) = (List.range n).flatMap (clRow l ten) := fun n hn => by
    induction n with
    | zero => simp
    | succ n ih =>
      rw [List.range_succ, List.flatMap_append, List.flatMap_append, ih (by omega)]
      congr 1
      simp only [List.flatMap_cons, List.flatMap_nil, List.append_nil]
      rw [clRow_more l g ten n (by omega), if_neg, List.append_nil]
      rintro ⟨h3, h4⟩
      unfold clB at h4
      simp only [Bool.and_eq_true, beq_iff_eq] at h4
      exact h (by rw [← h4.1.1, h3])
  exact h2 _ (Nat.le_refl _)
/-! Unions of a tenant's areas, plain. -/
theorem IsUn.sub {l m : List Gr} {r u : Ar} (h : IsUn l r) (g : IsUn m u) (hs : ∀ x ∈ l, x ∈ m) : subB r u = true := subB_iff.2 fun i k hk => by
  obtain ⟨x, hx, hxk⟩ := ((h i).iff k).1 hk
  exact ((g i).iff k).2 ⟨x, hs x hx, hxk⟩
theorem IsUn.same {l : List Gr} {r u : Ar} (h : IsUn l r) (g : IsUn l u) : (subB r u && subB u r) = true := by
  rw [h.sub g fun _ h => h, g.sub h fun _ h => h]; rfl
theorem ofT_more (l : List Gr) (g : Gr) (ten : Int) (wr : Bool) : ofT (l ++ [g]) ten wr = ofT l ten wr ++ if (g.ten == ten && g.wr == wr) = true then [g] else [] := by
  unfold ofT
  rw [List.filter_append]
  congr 1
  by_cases h : (g.ten == ten && g.wr == wr) = true
  · rw [if_pos h]; simp [h]
  · rw [if_neg h]; simp only [List.filter_cons, List.filter_nil]; rw [if_neg h]
theorem ofT_sub (l : List Gr) (g : Gr) (ten : Int) (wr : Bool) : ∀ x ∈ ofT l ten wr, x ∈ ofT (l ++ [g]) ten wr := fun x hx => by
  rw [ofT_more]; exact List.mem_append_left _ hx
theorem ofT_other (l : List Gr) (g : Gr) (ten : Int) (wr : Bool) (h : g.ten ≠ ten) : ofT (l ++ [g]) ten wr = ofT l ten wr := by
  rw [ofT_more, if_neg (by simp [h]), List.append_nil]
/-- a tenant's own grants. -/
def ownT (l : List Gr) (ten : Int) : List Gr := l.filter fun g => g.ten == ten
theorem ofT_own (l : List Gr) (ten : Int) (wr : Bool) : ofT (ownT l ten) ten wr = ofT l ten wr := by
  unfold ofT ownT
  rw [List.filter_filter]
  exact List.filter_congr fun g _ => by cases g.ten == ten <;> simp
/-- those that only read have nothing to write. -/
def readT (l : List Gr) : List Gr := l.filter fun g => !g.wr
theorem ofT_read (l : List Gr) (ten : Int) : ofT (readT l) ten true = [] := by
  refine List.eq_nil_iff_forall_not_mem.2 fun g hg => ?_
  obtain ⟨h1, h2⟩ := List.mem_filter.1 hg
  obtain ⟨-, h3⟩ := List.mem_filter.1 h1
  simp only [Bool.and_eq_true, beq_iff_eq] at h2
  rw [h2.2] at h3; simp at h3
theorem meets_nil {a r : Ar} (h : IsUn [] r) : meetsB a r = false := Bool.eq_false_iff.2 fun g => by
  obtain ⟨i, k, -, hk⟩ := meetsB_iff.1 g
  obtain ⟨x, hx, -⟩ := ((h i).iff k).1 hk
  simp at hx
theorem clL_read (l : List Gr) (ten : Int) : clL (readT l) ten = [] := by
  refine List.eq_nil_iff_forall_not_mem.2 fun p hp => ?_
  obtain ⟨i, j⟩ := p
  obtain ⟨g, h, h1, h2, -, -, hc⟩ := clL_mem.1 hp
  obtain ⟨-, w1⟩ := List.mem_filter.1 (List.mem_of_getElem? h1 : g ∈ readT l)
  obtain ⟨-, w2⟩ := List.mem_filter.1 (List.mem_of_getElem? h2 : h ∈ readT l)
  unfold clB at hc
  simp only [Bool.and_eq_true, bne_iff_ne, Bool.not_eq_true'] at hc w1 w2
  exact hc.1.2 (by rw [w1, w2])
end Go.Proofs.YtfapeemdlphjbaaDoor
