import Derived.Test.YtpchodnknkdlgaaInAF
import Derived.Test.YtpchodnknkdlgaaInLA
namespace Go.Proofs.Ytpchodnknkdlgaa

/-! A row shrunk is primitive, or 0. -/
theorem gcdF_spec : ∀ (f : Nat) (a n : Int), n.natAbs < f → (∃ s t : Int, gcdF f a n = s * a + t * n) ∧ gcdF f a n ∣ a ∧ gcdF f a n ∣ n
  | 0, a, n, h => by omega
  | f + 1, a, n, h => by
    unfold gcdF
    by_cases h0 : n = 0
    · rw [if_pos h0]
      exact ⟨⟨1, 0, by omega⟩, Int.dvd_refl _, by rw [h0]; exact Int.dvd_zero _⟩
    · rw [if_neg h0]
      have hm : (a.tmod n).natAbs < f := by
        rw [Int.natAbs_tmod]
        have := Nat.mod_lt a.natAbs (show 0 < n.natAbs by omega)
        omega
      obtain ⟨⟨s, t, e⟩, h1, h2⟩ := gcdF_spec f n (a.tmod n) hm
      have hd : a.tmod n = a - n * a.tdiv n := by have := Int.tmod_add_mul_tdiv a n; omega
      refine ⟨⟨t, s - t * a.tdiv n, ?_⟩, ?_, h1⟩
      · rw [e, hd]; grind
      · have h3 : a = a.tmod n + n * a.tdiv n := by omega
        have h4 := Int.dvd_add h2 (Int.dvd_trans h1 (Int.dvd_mul_right n (a.tdiv n)))
        rwa [← h3] at h4
theorem gcdL_snoc (xs : List Int) (x : Int) : gcdL (xs ++ [x]) = gcdI (gcdL xs) x := by unfold gcdL; rw [List.foldl_append]; rfl
theorem gcdL_spec (xs : List Int) : (∃ u : Nat → Int, gcdL xs = sm xs.length fun j => u j * xs.getD j 0) ∧ ∀ x ∈ xs, gcdL xs ∣ x := by
  refine snoc_ind (P := fun xs => (∃ u : Nat → Int, gcdL xs = sm xs.length fun j => u j * xs.getD j 0) ∧ ∀ x ∈ xs, gcdL xs ∣ x) ⟨⟨fun _ => 0, rfl⟩, fun x hx => by simp at hx⟩ (fun xs x ih => ?_) xs
  obtain ⟨⟨u, e⟩, hd⟩ := ih
  obtain ⟨⟨s, t, e2⟩, h1, h2⟩ := gcdF_spec (x.natAbs + 1) (gcdL xs) x (by omega)
  rw [gcdL_snoc]
  refine ⟨⟨fun j => if j < xs.length then s * u j else t, ?_⟩, fun y hy => ?_⟩
  · show gcdF _ _ _ = _
    rw [e2, List.length_append, List.length_singleton, sm]
    have ex : (xs ++ [x]).getD xs.length 0 = x := by simp [List.getD]
    rw [ex]
    show _ = sm xs.length (fun j => (if j < xs.length then s * u j else t) * (xs ++ [x]).getD j 0) + (if xs.length < xs.length then s * u xs.length else t) * x
    rw [if_neg (Nat.lt_irrefl _)]
    have es : sm xs.length (fun j => (if j < xs.length then s * u j else t) * (xs ++ [x]).getD j 0) = s * sm xs.length fun j => u j * xs.getD j 0 := by
      rw [← sm_mul]
      refine sm_congr fun j hj => ?_
      rw [if_pos hj]
      have : (xs ++ [x]).getD j 0 = xs.getD j 0 := by simp [List.getD, List.getElem?_append_left hj]
      rw [this, Int.mul_assoc]
    rw [es, ← e]
  · rcases List.mem_append.1 hy with hy | hy
    · exact Int.dvd_trans h1 (hd y hy)
    · rw [List.mem_singleton.1 hy]; exact h2
/-- a row of integers without a common divisor, or 0. -/
def Prm (n : Nat) (r : Nat → Int) : Prop := (∀ j, r j = 0) ∨ ∃ u : Nat → Int, sm n (fun j => u j * r j) = 1
theorem getD_out {xs : List Int} {j : Nat} (h : xs.length ≤ j) : xs.getD j 0 = 0 := by simp [List.getD, h]
theorem shrink_spec (xs : List Int) : ∃ g : Int, g ≠ 0 ∧ (∀ j, xs.getD j 0 = g * (shrinkL xs).getD j 0) ∧ Prm xs.length fun j => (shrinkL xs).getD j 0 := by
  obtain ⟨⟨u, e⟩, hd⟩ := gcdL_spec xs
  by_cases h0 : gcdL xs = 0
  · have hz : ∀ j, xs.getD j 0 = 0 := fun j => by
      rcases Nat.lt_or_ge j xs.length with h | h
      · have := hd xs[j] (List.getElem_mem h)
        rw [h0] at this
        have := Int.zero_dvd.1 this
        simp [List.getD, h, this]
      · exact getD_out h
    have es : shrinkL xs = xs := by unfold shrinkL; rw [if_pos h0]
    exact ⟨1, by decide, fun j => by rw [es]; omega, .inl fun j => by rw [es]; exact hz j⟩
  · have es : shrinkL xs = xs.map fun x => x.tdiv (gcdL xs) := by unfold shrinkL; rw [if_neg h0]
    have hm : ∀ j, xs.getD j 0 = gcdL xs * (shrinkL xs).getD j 0 := fun j => by
      rcases Nat.lt_or_ge j xs.length with h | h
      · rw [es]
        have := hd xs[j] (List.getElem_mem h)
        simp [List.getD, h]
        exact (Int.mul_tdiv_cancel' this).symm
      · rw [getD_out h, getD_out (by rw [shrinkL_len]; exact h)]; simp
    refine ⟨gcdL xs, h0, hm, .inr ⟨u, ?_⟩⟩
    have h1 : gcdL xs * sm xs.length (fun j => u j * (shrinkL xs).getD j 0) = gcdL xs * 1 := by
      rw [← sm_mul, Int.mul_one]
      refine (sm_congr fun j _ => ?_).trans e.symm
      rw [hm j]; grind
    exact Int.eq_of_mul_eq_mul_left h0 h1
/-- a multiple of a primitive row is no less. -/
theorem prm_le {n : Nat} {r v : Nat → Int} (hr : Prm n r) {D w : Int} (hD : D ≠ 0) (h : ∀ j, D * v j = w * r j) (hv : ∃ j, v j ≠ 0) : ∀ j, (r j).natAbs ≤ (v j).natAbs := by
  rcases hr with hz | ⟨u, hu⟩
  · intro j; rw [hz j]; simp
  · have h1 : D * sm n (fun j => u j * v j) = w := by
      rw [← sm_mul]
      have : sm n (fun j => D * (u j * v j)) = w * sm n fun j => u j * r j := by
        rw [← sm_mul]; exact sm_congr fun j _ => by have := h j; grind
      rw [this, hu]; omega
    have h2 : ∀ j, v j = sm n (fun j => u j * v j) * r j := fun j => by
      have := h j
      rw [← h1, Int.mul_assoc] at this
      exact Int.eq_of_mul_eq_mul_left hD this
    have h3 : sm n (fun j => u j * v j) ≠ 0 := fun e => by
      obtain ⟨j, hj⟩ := hv
      exact hj (by rw [h2 j, e]; simp)
    intro j
    rw [h2 j, Int.natAbs_mul]
    exact Nat.le_mul_of_pos_left _ (by omega)
end Go.Proofs.Ytpchodnknkdlgaa
