import Derived.Test.YtpchodnknkdlgaaInAQ
import Derived.Test.YtpchodnknkdlgaaInI
namespace Go.Proofs.Ytpchodnknkdlgaa
open Go.RowKit

theorem rightM_iff (l : Int) (xs : List Int) : rightM l xs = true ↔ (∀ x ∈ xs, l < x) ∧ xs.Pairwise (· < ·) := by
  induction xs generalizing l with
  | nil => simp [rightM]
  | cons a xs ih =>
    rw [rightM]
    by_cases h : a ≤ l
    · rw [if_pos h]
      constructor
      · intro h; cases h
      · rintro ⟨h1, -⟩; have := h1 a (by simp); omega
    · rw [if_neg h, ih, List.pairwise_cons]
      constructor
      · rintro ⟨h1, h2⟩
        exact ⟨fun x hx => by rcases List.mem_cons.1 hx with rfl | hx; omega; have := h1 x hx; omega, h1, h2⟩
      · rintro ⟨h1, h2, h3⟩
        exact ⟨h2, h3⟩
theorem rightM_sub {l : Int} {xs ys : List Int} (h : rightM l xs = true) (hs : ys.Sublist xs) : rightM l ys = true := by
  rw [rightM_iff] at h ⊢
  exact ⟨fun x hx => h.1 x (hs.subset hx), h.2.sublist hs⟩
/-- all but the i-th. -/
def lessL (a : List Int) (i : Nat) : List Int := a.take i ++ a.drop (i + 1)
theorem less_sub (a : List Int) (i : Nat) : (lessL a i).Sublist a := by
  conv => rhs; rw [← List.take_append_drop i a]
  exact List.Sublist.append_left (List.drop_sublist_drop_left a (Nat.le_succ i)) _
theorem less_mem {a : List Int} (h : a.Pairwise (· < ·)) {i j : Nat} (hi : i < a.length) (hj : j < a.length) : a[j] ∈ lessL a i ↔ j ≠ i := by
  constructor
  · rintro hm rfl
    rcases List.mem_append.1 hm with hm | hm
    · obtain ⟨p, hp, e⟩ := List.getElem_of_mem hm
      have hp2 : p < j := by simp at hp; omega
      rw [List.getElem_take] at e
      have := List.pairwise_iff_getElem.1 h p j (by omega) hj hp2; omega
    · obtain ⟨p, hp, e⟩ := List.getElem_of_mem hm
      have hp2 : j + 1 + p < a.length := by simp at hp; omega
      rw [List.getElem_drop] at e
      have := List.pairwise_iff_getElem.1 h j (j + 1 + p) hj hp2 (by omega); omega
  · intro hne
    rcases Nat.lt_or_gt_of_ne hne with h1 | h1
    · refine List.mem_append_left _ (List.mem_iff_getElem.2 ⟨j, by simp; omega, by rw [List.getElem_take]⟩)
    · refine List.mem_append_right _ (List.mem_iff_getElem.2 ⟨j - (i + 1), by simp; omega, ?_⟩)
      rw [List.getElem_drop]
      congr 1; omega
theorem less_len {a : List Int} {i : Nat} (hi : i < a.length) : (lessL a i).length = a.length - 1 := by unfold lessL; simp; omega
theorem map_Rw {a : List Int} {g : Int → Int} {f : Nat → Int} (h : ∀ j (hj : j < a.length), g a[j] = f j) : a.map g = Rw a.length f := by
  apply List.ext_getElem (by simp [Rw])
  intro j h1 h2
  have hj : j < a.length := by simpa using h1
  rw [List.getElem_map, h j hj]; simp [Rw]
theorem names_pair {a b : List Int} (ha : a.Pairwise (· < ·)) (hb : ∀ x ∈ b, x ∈ a) : namesL [a, b] = a := names_eq ha fun x => by
  simp only [List.mem_cons, List.not_mem_nil, or_false]
  constructor
  · intro hx; exact ⟨a, .inl rfl, hx⟩
  · rintro ⟨s, rfl | rfl, hx⟩
    · exact hx
    · exact hb x hx
theorem mat_less {a : List Int} (ha : a.Pairwise (· < ·)) {i : Nat} (hi : i < a.length) : matL [a, lessL a i] = [Rw a.length Jf, Rw a.length (Df i)] := by
  rw [matL_at, names_pair ha fun x hx => (less_sub a i).subset hx]
  show [_, _] = _
  congr 1
  · exact map_Rw fun j hj => if_pos (List.getElem_mem hj)
  · congr 1
    refine map_Rw fun j hj => ?_
    by_cases e : j = i
    · rw [if_neg (fun hm => (less_mem ha hi hj).1 hm e)]; simp [Df, e]
    · rw [if_pos ((less_mem ha hi hj).2 e)]; simp [Df, e]
theorem mat_same {a : List Int} (ha : a.Pairwise (· < ·)) : matL [a, a] = [Rw a.length Jf, Rw a.length Jf] := by
  rw [matL_at, names_pair ha fun x hx => hx]
  have : a.map (fun x => if x ∈ a then (1 : Int) else 0) = Rw a.length Jf := map_Rw fun j hj => if_pos (List.getElem_mem hj)
  rw [← this]; rfl
theorem answer_fst {names p q : List Int} {x : Nat} (h : loneL p = x) (hx : x < names.length) : answerL names [p, q] = (names[x], true) := by
  have := answerL_at (names := names) (M := [p, q]) (k := 0) (by simp) (by simp [h]) fun j _ hj => by omega
  rw [this]; simp [h, List.getD, hx]
theorem answer_snd {names p q : List Int} {x : Nat} (h0 : loneL p = -1) (h : loneL q = x) (hx : x < names.length) : answerL names [p, q] = (names[x], true) := by
  have := answerL_at (names := names) (M := [p, q]) (k := 1) (by simp) (by simp [h]) fun j _ hj => by
    have : j = 0 := by omega
    subst this; simp [h0]
  rw [this]; simp [h, List.getD, hx]
theorem answer_no {names p q : List Int} (h0 : loneL p = -1) (h : loneL q = -1) : answerL names [p, q] = (0, false) :=
  answerL_none fun j hj => by
    have hj2 : j = 0 ∨ j = 1 := by simp at hj; omega
    rcases hj2 with rfl | rfl
    · simp [h0]
    · simp [h]
theorem exp_less {a : List Int} (ha : a.Pairwise (· < ·)) {i : Nat} (hi : i < a.length) : ∃ m, exposedL [a, lessL a i] = (m, true) ∧ m ≤ a[i] ∧ ((lessL a i).length ≠ 1 → m = a[i]) := by
  unfold exposedL
  rw [mat_less ha hi, names_pair ha fun x hx => (less_sub a i).subset hx]
  have hn : 0 < a.length := by omega
  by_cases h0 : i = 0
  · subst h0
    refine ⟨a[0], ?_, Int.le_refl _, fun _ => rfl⟩
    rw [redB hn _ (Nat.le_refl _), if_neg (by omega)]
    by_cases h1 : a.length = 1
    · rw [if_pos h1]
      exact answer_fst (x := 0) (loneL_one hn fun j hj => by simp [Jf]; omega) hn
    · rw [if_neg h1]
      exact answer_fst (x := 0) (loneL_one hn fun j hj => by simp [Ef]) hn
  · rw [redA (by omega) hi, if_neg (by omega), if_neg (by omega), if_pos (Nat.le_refl _)]
    by_cases h2 : a.length = 2
    · have hi1 : i = 1 := by omega
      subst hi1
      refine ⟨a[0], answer_fst (x := 0) (loneL_one hn fun j hj => by simp [Df]; omega) hn, ?_, fun h => absurd (by rw [less_len hi]; omega) h⟩
      have := List.pairwise_iff_getElem.1 ha 0 1 hn hi (by omega)
      omega
    · refine ⟨a[i], answer_snd (x := i) ?_ (loneL_one hi fun j hj => by simp [Ef]) hi, Int.le_refl _, fun _ => rfl⟩
      by_cases hi1 : i = 1
      · exact loneL_two (i := 0) (k := 2) (by omega) (by omega) (by omega) (by simp [Df]; omega) (by simp [Df]; omega)
      · exact loneL_two (i := 0) (k := 1) (by omega) (by omega) (by omega) (by simp [Df]; omega) (by simp [Df]; omega)
theorem exp_same {a : List Int} (ha : a.Pairwise (· < ·)) (hn : 0 < a.length) : (exposedL [a, a]).2 = decide (a.length = 1) := by
  unfold exposedL
  rw [mat_same ha, names_pair ha fun x hx => hx, redC hn _ (Nat.le_refl _), if_neg (by omega)]
  by_cases h1 : a.length = 1
  · rw [answer_fst (x := 0) (loneL_one hn fun j hj => by simp [Jf]; omega) hn]; simp [h1]
  · rw [answer_no (loneL_two (i := 0) (k := 1) hn (by omega) (by omega) (by simp [Jf]) (by simp [Jf])) (loneL_none fun _ _ => rfl)]; simp [h1]
theorem names_single (x : Int) : namesL [[x]] = [x] := names_eq (by simp) (by intro y; simp)
theorem mat_single (x : Int) : matL [[x]] = [[1]] := by rw [matL_at, names_single]; simp
theorem exp_single (x : Int) : exposedL [[x]] = (x, true) := by unfold exposedL; rw [mat_single, names_single]; rfl
theorem bd_single : ∀ k ≤ 1, ∀ r ∈ (redTo [[1]] k).1, Bd 16777216 r := by decide
theorem names_none : namesL [] = [] := names_eq (by simp) (by intro y; simp)
theorem exp_none : exposedL [] = (0, false) := by unfold exposedL; rw [names_none]; rfl
end Go.Proofs.Ytpchodnknkdlgaa
