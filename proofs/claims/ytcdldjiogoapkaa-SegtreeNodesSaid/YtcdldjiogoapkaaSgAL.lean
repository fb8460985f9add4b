import Derived.Test.YtcdldjiogoapkaaSgAK
namespace Go.Proofs.Ytcdldjiogoapkaa
open Go.RowKit

/-! Keys that stand together. -/
theorem distF_shift {q n i j : Nat} (hi : i < 2 ^ n) (hj : j < 2 ^ n) (hq : q * 2 ^ n + 2 ^ n ≤ 4294967296) : distF 32 (q * 2 ^ n + i) (q * 2 ^ n + j) = distF 32 i j := by
  have s1 := distF_spec 32 (q * 2 ^ n + i) (q * 2 ^ n + j) (by simp; omega) (by simp; omega)
  have s2 := distF_spec 32 i j (by simp; omega) (by simp; omega)
  have key : ∀ d, ((q * 2 ^ n + i) / 2 ^ d = (q * 2 ^ n + j) / 2 ^ d ↔ i / 2 ^ d = j / 2 ^ d) := fun d => by
    by_cases hd : d ≤ n
    · obtain ⟨e, rfl⟩ := Nat.le.dest hd
      have hp : 0 < 2 ^ d := Nat.two_pow_pos d
      have r : ∀ x, q * 2 ^ (d + e) + x = 2 ^ d * (q * 2 ^ e) + x := fun x => by rw [Nat.pow_add]; rw [show q * (2 ^ d * 2 ^ e) = 2 ^ d * (q * 2 ^ e) by rw [← Nat.mul_assoc, Nat.mul_comm q, Nat.mul_assoc]]
      rw [r, r, Nat.mul_add_div hp, Nat.mul_add_div hp]
      omega
    · obtain ⟨e, rfl⟩ := Nat.le.dest (show n ≤ d by omega)
      have hp : 0 < 2 ^ n := Nat.two_pow_pos n
      have r : ∀ x, x < 2 ^ n → (q * 2 ^ n + x) / 2 ^ (n + e) = q / 2 ^ e := fun x hx => by
        rw [Nat.pow_add, ← Nat.div_div_eq_div_mul, Nat.mul_comm q, Nat.mul_add_div hp, Nat.div_eq_of_lt hx, Nat.add_zero]
      have r2 : ∀ x, x < 2 ^ n → x / 2 ^ (n + e) = 0 := fun x hx => Nat.div_eq_of_lt (Nat.lt_of_lt_of_le hx (Nat.pow_le_pow_right (by decide) (by omega)))
      rw [r i hi, r j hj, r2 i hi, r2 j hj]
      simp
  have e : ∀ d, distF 32 (q * 2 ^ n + i) (q * 2 ^ n + j) ≤ d ↔ distF 32 i j ≤ d := fun d => by rw [s1.2 d, s2.2 d, key d]
  have := (e (distF 32 i j)).2 (Nat.le_refl _)
  have := (e (distF 32 (q * 2 ^ n + i) (q * 2 ^ n + j))).1 (Nat.le_refl _)
  omega
theorem lackL_shift {q n j : Nat} (ks : List Nat) (hks : ∀ k ∈ ks, k < 2 ^ n) (hj : j < 2 ^ n) (hq : q * 2 ^ n + 2 ^ n ≤ 4294967296) : lackL (ks.map (fun i => q * 2 ^ n + i)) (q * 2 ^ n + j) = lackL ks j := by
  induction ks with
  | nil => rfl
  | cons k ks ih =>
    show min _ _ = min _ _
    rw [distF_shift (hks k (by simp)) hj hq, ih fun x hx => hks x (by simp [hx])]
/-- How many nodes so many keys that stand together have. -/
def nodesJ : Nat → Nat
  | 0 => 0
  | j + 1 => nodesJ j + lackL (List.range j).reverse j
def rowJ (f j : Nat) : List (Nat × Int) := (List.range j).map (fun i => (f + i, (1 : Int)))
theorem rowJ_succ (f j : Nat) : putL (f + j) 1 (rowJ f j) = rowJ f (j + 1) := by
  unfold putL
  have h1 : (rowJ f j).filter (fun x => decide (x.1 < f + j)) = rowJ f j := by
    rw [List.filter_eq_self]; intro x hx; simp [rowJ] at hx; obtain ⟨i, hi, rfl⟩ := hx; simp; omega
  have h2 : (rowJ f j).filter (fun x => decide (f + j < x.1)) = [] := by
    rw [List.filter_eq_nil_iff]; intro x hx; simp [rowJ] at hx; obtain ⟨i, hi, rfl⟩ := hx; simp; omega
  rw [h1, h2]
  simp [rowJ, List.range_succ]
theorem rowJ_sum (f j : Nat) : sumV (vals (rowJ f j)) = j := by
  induction j with
  | zero => rfl
  | succ j ih =>
    have : rowJ f (j + 1) = rowJ f j ++ [(f + j, 1)] := by simp [rowJ, List.range_succ]
    rw [this, vals, List.map_append, sumV_append]
    simp only [vals] at ih
    rw [ih]
    simp [sumV]
theorem rowJ_len (f j : Nat) : (rowJ f j).length = j := by simp [rowJ]
theorem rowJ_five (f j : Nat) (hj : 0 < j) : (putL f 5 (rowJ f j)).length = j := by
  unfold putL
  have h1 : (rowJ f j).filter (fun x => decide (x.1 < f)) = [] := by
    rw [List.filter_eq_nil_iff]; intro x hx; simp [rowJ] at hx; obtain ⟨i, hi, rfl⟩ := hx; simp
  have h2 : ((rowJ f j).filter (fun x => decide (f < x.1))).length = j - 1 := by
    obtain ⟨j, rfl⟩ : ∃ k, j = k + 1 := ⟨j - 1, by omega⟩
    have : rowJ f (j + 1) = (f, 1) :: (List.range j).map (fun i => (f + (i + 1), (1 : Int))) := by
      unfold rowJ
      rw [List.range_succ_eq_map]
      simp [Function.comp_def]
    rw [this, List.filter_cons, if_neg (by simp), List.filter_eq_self.2]
    · simp
    · intro x hx; simp at hx; obtain ⟨i, hi, rfl⟩ := hx; simp
  rw [h1, List.length_append, List.length_cons, h2]
  simp; omega
theorem lackL_pos {ks : List Nat} {k : Nat} (h : k ∉ ks) (hks : ∀ x ∈ ks, x < 4294967296) (hk : k < 4294967296) : 1 ≤ lackL ks k := by
  have s := (lackL_spec ks k hks hk).2 0 (by omega)
  rcases Nat.eq_zero_or_pos (lackL ks k) with e | e
  · obtain ⟨x, hx, he⟩ := s.1 (by omega)
    simp at he
    exact absurd (he ▸ hx) h
  · exact e
theorem evJ (q n j : Nat) : ((List.range (j + 1)).reverse.map (fun i => q * 2 ^ n + i)) = (q * 2 ^ n + j) :: (List.range j).reverse.map (fun i => q * 2 ^ n + i) := by
  rw [List.range_succ, List.reverse_append]; simp
/-- The four widths that the law draws. -/
theorem nodesJ_all (n j : Nat) (hn : n = 0 ∨ n = 1 ∨ n = 4 ∨ n = 5) (hj : j ≤ 2 ^ n) : nodesJ j ≤ 32 - n + 2 ^ (n + 1) - 1 ∧ nodesJ (2 ^ n) = 32 - n + 2 ^ (n + 1) - 1 := by
  have mono : ∀ a b, a ≤ b → nodesJ a ≤ nodesJ b := fun a b h => by
    obtain ⟨c, rfl⟩ := Nat.le.dest h
    induction c with
    | zero => exact Nat.le_refl _
    | succ c ih => exact Nat.le_trans (ih (by omega)) (Nat.le_add_right _ _)
  have h := mono j (2 ^ n) hj
  have e : nodesJ (2 ^ n) = 32 - n + 2 ^ (n + 1) - 1 := by
    rcases hn with rfl | rfl | rfl | rfl <;> decide +kernel
  exact ⟨by omega, e⟩
end Go.Proofs.Ytcdldjiogoapkaa
