import Derived.Test.YtpchodnknkdlgaaInLD
import Derived.Test.YtpchodnknkdlgaaInAQ
namespace Go.Proofs.Ytpchodnknkdlgaa
open Go.RowKit

/-! Rows of 0 and 1: what they are reduced to is small, and a number alone in a sum is alone in a row. -/
theorem redTo_inv {M : List (List Int)} {n : Nat} (hn : ∀ r ∈ M, r.length = n) (hp : ∀ i, i < M.length → Prm n (ent M i)) (k : Nat) :
    ∃ piv σ, Inv M (redTo M k).1 n (redTo M k).2 k piv σ := by
  induction k with
  | zero => exact ⟨_, _, Inv.start hn hp⟩
  | succ k ih =>
    obtain ⟨piv, σ, h⟩ := ih
    rw [redTo_succ]
    unfold redStep
    cases hf : findRow (redTo M k).1 k (redTo M k).2 with
    | none => exact ⟨piv, σ, h.stay hf⟩
    | some i =>
      obtain ⟨h1, h2⟩ := findRow_lt hf
      have hl := h.len
      have h3 : ent (redTo M k).1 i k ≠ 0 := by
        unfold findRow at hf
        have := List.find?_some hf
        simp at this
        exact this.2
      have h4 := h.swap h1 (by omega)
      refine ⟨_, _, h4.pivot (by omega) ?_⟩
      rw [swap_ent (by omega) h2 _ _ (by omega)]
      have : sw (redTo M k).2 i (redTo M k).2 = i := by unfold sw; split <;> (try split) <;> omega
      rw [this]; exact h3
theorem prm01 {n : Nat} {r : Nat → Int} (h01 : ∀ j, r j = 0 ∨ r j = 1) (hout : ∀ j, n ≤ j → r j = 0) : Prm n r := by
  by_cases h : ∃ j, r j ≠ 0
  · obtain ⟨j, hj⟩ := h
    have hjn : j < n := Nat.lt_of_not_le fun h2 => hj (hout j h2)
    refine .inr ⟨fun i => if i = j then 1 else 0, ?_⟩
    rw [sm_one hjn fun i _ hne => by show (if i = j then (1 : Int) else 0) * r i = 0; rw [if_neg hne]; omega]
    show (if j = j then (1 : Int) else 0) * r j = 1
    rw [if_pos rfl]
    rcases h01 j with h2 | h2
    · exact absurd h2 hj
    · rw [h2]; rfl
  · exact .inl fun j => Classical.byContradiction fun h2 => h ⟨j, h2⟩
theorem pow_le8 {a : Nat} (h : a + 1 ≤ 8) : (a + 1) * (a + 1) ^ a ≤ 16777216 := by
  have h1 := Nat.pow_le_pow_left h a
  have h2 := Nat.pow_le_pow_right (show 0 < 8 by omega) (show a ≤ 7 by omega)
  have h3 := Nat.mul_le_mul h (Nat.le_trans h1 h2)
  have h4 : 8 * 8 ^ 7 = 16777216 := by decide
  omega
theorem Inv.bound {M C : List (List Int)} {n a k : Nat} {piv σ : Nat → Nat} (h : Inv M C n a k piv σ) (h01 : ∀ i j, ent M i j = 0 ∨ ent M i j = 1) (hm : M.length ≤ 8) :
    ∀ i, i < M.length → ∀ j, (ent C i j).natAbs ≤ 16777216 := by
  intro i hi
  have ham := h.am
  have one : ∀ s j, (ent M s j).natAbs ≤ 1 := fun s j => by rcases h01 s j with e | e <;> rw [e] <;> decide
  rcases Nat.lt_or_ge i a with hia | hia
  · obtain ⟨b, rfl⟩ : ∃ b, a = b + 1 := ⟨a - 1, by omega⟩
    obtain ⟨c, ⟨q0, hq0, hne⟩, hc, he⟩ := siegel b (fun e q => ent M (σ q) (piv (if e < i then e else e + 1))) (fun e q => h01 _ _)
    obtain ⟨D, x, w, h1, -, -, h4⟩ := h.sum (b := b + 1) (i := i) (by omega) (fun q hq => hq) hi c 0
    have hV : ∀ j, D * sm (b + 1) (fun q => c q * ent M (σ q) j) = sm (b + 1) fun p => w p * ent C p j := fun j => by have := h4 j; simpa using this
    have hw : ∀ p, p < b + 1 → p ≠ i → w p = 0 := fun p hp hpi => by
      have h6 := hV (piv p)
      have h7 : sm (b + 1) (fun q => c q * ent M (σ q) (piv p)) = 0 := by
        rcases Nat.lt_or_gt_of_ne hpi with h8 | h8
        · have := he p (by omega)
          rwa [if_pos h8] at this
        · have := he (p - 1) (by omega)
          rwa [if_neg (by omega), Nat.sub_add_cancel (by omega)] at this
      rw [h.at_piv hp, h7] at h6
      have h8 : w p * ent C p (piv p) = 0 := by omega
      exact (Int.mul_eq_zero.1 h8).resolve_right (h.pnz p hp)
    have hV2 : ∀ j, D * sm (b + 1) (fun q => c q * ent M (σ q) j) = w i * ent C i j := fun j => by
      rw [hV j]
      exact sm_one hia fun p hp hne => by rw [hw p hp hne]; omega
    have hnz : ∃ j, sm (b + 1) (fun q => c q * ent M (σ q) j) ≠ 0 := Classical.byContradiction fun hno => hne (h.ind c (fun j => Classical.byContradiction fun h9 => hno ⟨j, h9⟩) q0 (by omega))
    intro j
    refine Nat.le_trans (prm_le (h.pr i hi) h1 hV2 hnz j) (Nat.le_trans (sm_abs (B := (b + 1) ^ b) fun q hq => ?_) (pow_le8 (by omega)))
    rw [Int.natAbs_mul]
    exact Nat.le_trans (Nat.mul_le_mul (hc q (by omega)) (one _ _)) (by omega)
  · obtain ⟨c, ⟨q0, hq0, hne⟩, hc, he⟩ := siegel a (fun e q => ent M (if q < a then σ q else σ i) (piv e)) (fun e q => h01 _ _)
    obtain ⟨D, x, w, h1, h2, -, h4⟩ := h.sum (b := a) (i := i) ham (fun q hq => hq) hi c (c a)
    have hS : ∀ j, sm (a + 1) (fun q => c q * ent M (if q < a then σ q else σ i) j) = sm a (fun q => c q * ent M (σ q) j) + c a * ent M (σ i) j := fun j => by
      rw [sm, if_neg (Nat.lt_irrefl a)]
      congr 1
      exact sm_congr fun q hq => by rw [if_pos hq]
    have hw : ∀ p, p < a → w p = 0 := fun p hp => by
      have h6 := h4 (piv p)
      rw [← hS, he p hp, h.at_piv hp, h.pz p hp i hi (by omega)] at h6
      have h8 : w p * ent C p (piv p) = 0 := by omega
      exact (Int.mul_eq_zero.1 h8).resolve_right (h.pnz p hp)
    have hV2 : ∀ j, D * sm (a + 1) (fun q => c q * ent M (if q < a then σ q else σ i) j) = c a * x * ent C i j := fun j => by
      rw [hS, h4 j, sm_zero fun p hp => by rw [hw p hp]; omega]; omega
    by_cases hnz : ∃ j, sm (a + 1) (fun q => c q * ent M (if q < a then σ q else σ i) j) ≠ 0
    · intro j
      refine Nat.le_trans (prm_le (h.pr i hi) h1 hV2 hnz j) (Nat.le_trans (sm_abs (B := (a + 1) ^ a) fun q hq => ?_) (pow_le8 (by omega)))
      rw [Int.natAbs_mul]
      exact Nat.le_trans (Nat.mul_le_mul (hc q (by omega)) (one _ _)) (by omega)
    · have hz : ∀ j, sm (a + 1) (fun q => c q * ent M (if q < a then σ q else σ i) j) = 0 := fun j => Classical.byContradiction fun h9 => hnz ⟨j, h9⟩
      intro j
      by_cases h0 : ent C i j = 0
      · rw [h0]; decide
      · exfalso
        have h5 := hV2 j
        rw [hz j] at h5
        have h6 : c a * x * ent C i j = 0 := by omega
        have h7 := (Int.mul_eq_zero.1 ((Int.mul_eq_zero.1 h6).resolve_right h0)).resolve_right (h2 hia)
        have h8 := h.ind c fun j => by
          have h9 := hz j
          rw [hS, h7] at h9
          omega
        by_cases e : q0 = a
        · rw [e] at hne; exact hne h7
        · exact hne (h8 q0 (by omega))
theorem Inv.rest {M C : List (List Int)} {n a : Nat} {piv σ : Nat → Nat} (h : Inv M C n a n piv σ) : ∀ i, a ≤ i → i < M.length → ∀ j, ent C i j = 0 := by
  intro i h1 h2 j
  rcases Nat.lt_or_ge j n with hj | hj
  · exact h.z i h1 h2 j hj
  · have hl := h.len
    rw [ent_getD (by omega)]
    exact getD_out (by rw [h.rows _ (List.getElem_mem (by omega))]; exact hj)
theorem Inv.alone {M C : List (List Int)} {n a : Nat} {piv σ : Nat → Nat} (h : Inv M C n a n piv σ) (t : Nat → Int) {d : Int} (hd : d ≠ 0) {c : Nat}
    (hV : ∀ j, sm M.length (fun s => t s * ent M s j) = if j = c then d else 0) : ∃ p, p < a ∧ piv p = c ∧ ∀ j, j ≠ c → ent C p j = 0 := by
  have hR := h.rest
  have hQ : ∀ s, ∃ (e : Int) (u : Nat → Int), s < M.length → e ≠ 0 ∧ ∀ j, e * ent M s j = sm a (fun p => u p * ent C p j) := fun s => by
    by_cases hs : s < M.length
    · obtain ⟨i, hi, rfl⟩ := h.sj s hs
      obtain ⟨e, x, u, h1, -, h3, h4⟩ := h.bw i hi
      refine ⟨e, u, fun _ => ⟨h1, fun j => ?_⟩⟩
      rw [h4 j]
      rcases Nat.lt_or_ge i a with h5 | h5
      · rw [h3 h5]; omega
      · rw [hR i h5 hi j]; omega
    · exact ⟨0, fun _ => 0, fun h2 => absurd h2 hs⟩
  have ⟨e, he⟩ := Classical.axiomOfChoice hQ
  have ⟨u, hu⟩ := Classical.axiomOfChoice he
  obtain ⟨D, f, h1, h2⟩ := common M.length e fun q hq => (hu q hq).1
  obtain ⟨w, hw⟩ : ∃ w : Nat → Int, w = fun p => sm M.length fun s => t s * f s * u s p := ⟨_, rfl⟩
  have hS : ∀ j, D * (if j = c then d else 0) = sm a fun p => w p * ent C p j := fun j => by
    rw [← hV j, ← sm_mul]
    have : sm M.length (fun s => D * (t s * ent M s j)) = sm M.length fun s => sm a fun p => t s * f s * u s p * ent C p j := by
      refine sm_congr fun s hs => ?_
      have h3 := (hu s hs).2 j
      have h4 : sm a (fun p => t s * f s * u s p * ent C p j) = t s * f s * sm a fun p => u s p * ent C p j := by
        rw [← sm_mul]; exact sm_congr fun p _ => by grind
      rw [h4, ← h3, ← (h2 s hs).2]; grind
    rw [this, sm_swap, hw]
    exact sm_congr fun p _ => sm_mul' _ _ _
  have hc : ∃ p, p < a ∧ w p ≠ 0 := Classical.byContradiction fun hno => by
    have h3 := hS c
    rw [if_pos rfl, sm_zero fun p hp => by rw [show w p = 0 from Classical.byContradiction fun h => hno ⟨p, hp, h⟩]; omega] at h3
    exact Int.mul_ne_zero h1 hd h3
  have hpc : ∀ p, p < a → w p ≠ 0 → piv p = c := fun p hp hwp => Classical.byContradiction fun hne => by
    have h3 := hS (piv p)
    rw [if_neg hne, h.at_piv hp] at h3
    exact Int.mul_ne_zero hwp (h.pnz p hp) (by omega)
  obtain ⟨p, hp, hwp⟩ := hc
  refine ⟨p, hp, hpc p hp hwp, fun j hj => ?_⟩
  have h0 : ∀ q, q < a → q ≠ p → w q = 0 := fun q hq hne => Classical.byContradiction fun hwq => by
    have h3 := hpc p hp hwp
    have h4 := hpc q hq hwq
    rcases Nat.lt_or_gt_of_ne hne with h5 | h5
    · have := h.pinc q p h5 hp; omega
    · have := h.pinc p q h5 hq; omega
  have h3 := hS j
  rw [if_neg hj, sm_one hp fun q hq hne => by rw [h0 q hq hne]; omega] at h3
  exact (Int.mul_eq_zero.1 (show w p * ent C p j = 0 by omega)).resolve_left hwp
theorem loneL_iff (xs : List Int) (c : Nat) : loneL xs = c ↔ xs.getD c 0 ≠ 0 ∧ ∀ j, j ≠ c → xs.getD j 0 = 0 := by
  have hx : xs = Rw xs.length fun j => xs.getD j 0 := List.ext_getElem (by simp [Rw]) fun j h1 h2 => by simp [Rw, List.getD, h1]
  constructor
  · intro h
    unfold loneL at h
    split at h
    · rename_i i hi
      have hic : i = c := by omega
      subst hic
      have h1 : i ∈ (List.range xs.length).filter fun i => decide (xs.getD i 0 ≠ 0) := by rw [hi]; simp
      have h2 := (List.mem_filter.1 h1).2
      refine ⟨by simpa using h2, fun j hj => Classical.byContradiction fun h3 => ?_⟩
      have hjl : j < xs.length := Nat.lt_of_not_le fun h4 => h3 (getD_out h4)
      have h4 : j ∈ (List.range xs.length).filter fun i => decide (xs.getD i 0 ≠ 0) := List.mem_filter.2 ⟨List.mem_range.2 hjl, by simpa using h3⟩
      rw [hi] at h4
      exact hj (by simpa using h4)
    · omega
  · rintro ⟨h1, h2⟩
    have hcl : c < xs.length := Nat.lt_of_not_le fun h4 => h1 (getD_out h4)
    rw [hx]
    refine loneL_one hcl fun j hj => ⟨fun h => Classical.byContradiction fun hne => h (h2 j hne), fun h => by rw [h]; exact h1⟩
end Go.Proofs.Ytpchodnknkdlgaa
