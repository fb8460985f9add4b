import Derived.Test.YtpchodnknkdlgaaBase
namespace Go.Proofs.Ytpchodnknkdlgaa

/-! Sums; a small solution of few equations. -/
def sm : Nat → (Nat → Int) → Int
  | 0, _ => 0
  | n + 1, f => sm n f + f n
theorem sm_congr {n : Nat} {f g : Nat → Int} (h : ∀ i, i < n → f i = g i) : sm n f = sm n g := by
  induction n with
  | zero => rfl
  | succ n ih => rw [sm, sm, ih fun i hi => h i (by omega), h n (by omega)]
theorem sm_add (n : Nat) (f g : Nat → Int) : sm n (fun i => f i + g i) = sm n f + sm n g := by
  induction n with
  | zero => rfl
  | succ n ih => simp only [sm, ih]; omega
theorem sm_mul (n : Nat) (c : Int) (f : Nat → Int) : sm n (fun i => c * f i) = c * sm n f := by
  induction n with
  | zero => simp [sm]
  | succ n ih => simp only [sm, ih]; rw [Int.mul_add]
theorem sm_mul' (n : Nat) (c : Int) (f : Nat → Int) : sm n (fun i => f i * c) = sm n f * c := by
  rw [Int.mul_comm, ← sm_mul]; exact sm_congr fun i _ => Int.mul_comm _ _
theorem sm_zero {n : Nat} {f : Nat → Int} (h : ∀ i, i < n → f i = 0) : sm n f = 0 := by
  induction n with
  | zero => rfl
  | succ n ih => rw [sm, ih fun i hi => h i (by omega), h n (by omega)]; rfl
theorem sm_one {n : Nat} {f : Nat → Int} {i : Nat} (hi : i < n) (h : ∀ j, j < n → j ≠ i → f j = 0) : sm n f = f i := by
  induction n with
  | zero => omega
  | succ n ih =>
    rw [sm]
    by_cases e : i = n
    · subst e
      rw [sm_zero fun j hj => h j (by omega) (by omega)]; omega
    · rw [ih (by omega) fun j hj hne => h j (by omega) hne, h n (by omega) (by omega)]; omega
theorem sm_swap (n m : Nat) (f : Nat → Nat → Int) : sm n (fun i => sm m fun j => f i j) = sm m fun j => sm n fun i => f i j := by
  induction n with
  | zero => exact (sm_zero fun _ _ => rfl).symm
  | succ n ih =>
    simp only [sm]
    rw [ih, ← sm_add]
theorem sm_abs {n B : Nat} {f : Nat → Int} (h : ∀ i, i < n → (f i).natAbs ≤ B) : (sm n f).natAbs ≤ n * B := by
  induction n with
  | zero => simp [sm]
  | succ n ih =>
    have h1 := ih fun i hi => h i (by omega)
    have h2 := h n (by omega)
    rw [sm, Nat.add_mul]; omega
theorem sm_app (n m : Nat) (f : Nat → Int) : sm (n + m) f = sm n f + sm m fun i => f (n + i) := by
  induction m with
  | zero => simp [sm]
  | succ m ih => rw [← Nat.add_assoc, sm, sm, ih]; omega

theorem pigeon : ∀ (M N : Nat) (f : Nat → Nat), (∀ x, x < N → f x < M) → M < N → ∃ x y, x < y ∧ y < N ∧ f x = f y
  | 0, N, f, hf, h => absurd (hf 0 h) (by omega)
  | M + 1, N, f, hf, h => by
    by_cases hx : ∃ x, x < N - 1 ∧ f x = f (N - 1)
    · obtain ⟨x, h1, h2⟩ := hx
      exact ⟨x, N - 1, h1, by omega, h2⟩
    · have hv := hf (N - 1) (by omega)
      have hne : ∀ x, x < N - 1 → f x ≠ f (N - 1) := fun x h1 h2 => hx ⟨x, h1, h2⟩
      obtain ⟨x, y, h1, h2, h3⟩ := pigeon M (N - 1) (fun x => if f x < f (N - 1) then f x else f x - 1) (fun x h1 => by
        have h2 := hf x (by omega)
        have h3 := hne x h1
        show (if f x < f (N - 1) then f x else f x - 1) < M
        split <;> omega) (by omega)
      refine ⟨x, y, h1, by omega, ?_⟩
      have e1 := hne x (by omega)
      have e2 := hne y h2
      have h3 : (if f x < f (N - 1) then f x else f x - 1) = (if f y < f (N - 1) then f y else f y - 1) := h3
      split at h3 <;> split at h3 <;> omega
def enc (L : Nat) : Nat → (Nat → Nat) → Nat
  | 0, _ => 0
  | k + 1, v => enc L k v + v k * L ^ k
theorem enc_lt {L k : Nat} {v : Nat → Nat} (h : ∀ e, e < k → v e < L) : enc L k v < L ^ k := by
  induction k with
  | zero => simp [enc]
  | succ k ih =>
    have h1 := ih fun e he => h e (by omega)
    have h2 := h k (by omega)
    have h3 : v k * L ^ k + L ^ k ≤ L * L ^ k := by
      have := Nat.mul_le_mul_right (L ^ k) (show v k + 1 ≤ L by omega)
      rwa [Nat.add_mul, Nat.one_mul] at this
    rw [enc, Nat.pow_succ, Nat.mul_comm (L ^ k) L]; omega
theorem enc_inj {L k : Nat} {v w : Nat → Nat} (h1 : ∀ e, e < k → v e < L) (h2 : ∀ e, e < k → w e < L) (h : enc L k v = enc L k w) : ∀ e, e < k → v e = w e := by
  induction k with
  | zero => intro e he; omega
  | succ k ih =>
    have l1 := enc_lt (v := v) fun e he => h1 e (show e < k + 1 by omega)
    have l2 := enc_lt (v := w) fun e he => h2 e (show e < k + 1 by omega)
    rw [enc, enc] at h
    have a1 := enc_lt (k := k) (v := v) fun e he => h1 e (by omega)
    have a2 := enc_lt (k := k) (v := w) fun e he => h2 e (by omega)
    have hk : v k = w k := by
      have e1 : (enc L k v + v k * L ^ k) / L ^ k = v k := by rw [Nat.add_mul_div_right _ _ (by omega), Nat.div_eq_of_lt a1]; omega
      have e2 : (enc L k w + w k * L ^ k) / L ^ k = w k := by rw [Nat.add_mul_div_right _ _ (by omega), Nat.div_eq_of_lt a2]; omega
      rw [← e1, h, e2]
    rw [hk] at h
    intro e he
    by_cases e3 : e = k
    · rw [e3]; exact hk
    · exact ih (fun e he => h1 e (by omega)) (fun e he => h2 e (by omega)) (by omega) e (by omega)
def dec (b : Nat) : Nat → Nat → Nat → Nat
  | 0, _ => fun _ => 0
  | k + 1, x => fun q => if q = k then x / b ^ k else dec b k (x % b ^ k) q
theorem dec_lt {b : Nat} (hb : 0 < b) : ∀ (k x : Nat), x < b ^ k → ∀ q, q < k → dec b k x q < b
  | 0, _, _, q, hq => by omega
  | k + 1, x, hx, q, hq => by
    have hp : 0 < b ^ k := Nat.pow_pos hb
    show (if q = k then x / b ^ k else dec b k (x % b ^ k) q) < b
    split
    · rw [Nat.pow_succ] at hx
      exact Nat.div_lt_of_lt_mul hx
    · exact dec_lt hb k _ (Nat.mod_lt _ hp) q (by omega)
theorem dec_inj {b : Nat} (hb : 0 < b) : ∀ (k x y : Nat), x < b ^ k → y < b ^ k → (∀ q, q < k → dec b k x q = dec b k y q) → x = y
  | 0, x, y, hx, hy, _ => by simp at hx hy; omega
  | k + 1, x, y, hx, hy, h => by
    have hp : 0 < b ^ k := Nat.pow_pos hb
    have h1 : x / b ^ k = y / b ^ k := by have := h k (by omega); simpa [dec] using this
    have h2 : x % b ^ k = y % b ^ k := dec_inj hb k _ _ (Nat.mod_lt _ hp) (Nat.mod_lt _ hp) fun q hq => by
      have := h q (by omega)
      simpa [dec, show q ≠ k by omega] using this
    rw [← Nat.div_add_mod x (b ^ k), ← Nat.div_add_mod y (b ^ k), h1, h2]
/-- k equations of 0 and 1 in k + 1 letters have a small answer. -/
theorem siegel (k : Nat) (A : Nat → Nat → Int) (h01 : ∀ e q, A e q = 0 ∨ A e q = 1) :
    ∃ c : Nat → Int, (∃ q, q ≤ k ∧ c q ≠ 0) ∧ (∀ q, q ≤ k → (c q).natAbs ≤ (k + 1) ^ k) ∧ ∀ e, e < k → sm (k + 1) (fun q => c q * A e q) = 0 := by
  obtain ⟨B, hB⟩ : ∃ B, B = (k + 1) ^ k := ⟨_, rfl⟩
  have hd := dec_lt (b := B + 1) (by omega) (k + 1)
  have hval : ∀ x, x < (B + 1) ^ (k + 1) → ∀ e, 0 ≤ sm (k + 1) (fun q => (dec (B + 1) (k + 1) x q : Int) * A e q) ∧ (sm (k + 1) (fun q => (dec (B + 1) (k + 1) x q : Int) * A e q)).toNat < (k + 1) * B + 1 := fun x hx e => by
    have h1 : ∀ n, n ≤ k + 1 → 0 ≤ sm n (fun q => (dec (B + 1) (k + 1) x q : Int) * A e q) := by
      intro n hn
      induction n with
      | zero => exact Int.le_refl _
      | succ n ih =>
        have := ih (by omega)
        rw [sm]
        rcases h01 e n with h | h <;> rw [h] <;> omega
    have h2 := sm_abs (n := k + 1) (B := B) (f := fun q => (dec (B + 1) (k + 1) x q : Int) * A e q) fun q hq => by
      have := hd x hx q hq
      rcases h01 e q with h | h <;> rw [h] <;> omega
    have := h1 (k + 1) (Nat.le_refl _)
    exact ⟨this, by omega⟩
  obtain ⟨x, y, h1, h2, h3⟩ := pigeon (((k + 1) * B + 1) ^ k) ((B + 1) ^ (k + 1)) (fun x => enc ((k + 1) * B + 1) k fun e => (sm (k + 1) (fun q => (dec (B + 1) (k + 1) x q : Int) * A e q)).toNat)
    (fun x hx => enc_lt fun e _ => (hval x hx e).2) (by
      have e1 : (k + 1) * B + 1 ≤ (k + 1) * (B + 1) := by rw [Nat.mul_add]; omega
      have e2 := Nat.pow_le_pow_left e1 k
      rw [Nat.mul_pow, ← hB] at e2
      have e3 : B * (B + 1) ^ k < (B + 1) ^ (k + 1) := by
        rw [Nat.pow_succ, Nat.mul_comm ((B + 1) ^ k)]
        exact Nat.mul_lt_mul_of_pos_right (by omega) (Nat.pow_pos (by omega))
      omega)
  have hx : x < (B + 1) ^ (k + 1) := by omega
  have hv := enc_inj (fun e _ => (hval x hx e).2) (fun e _ => (hval y h2 e).2) h3
  refine ⟨fun q => (dec (B + 1) (k + 1) x q : Int) - dec (B + 1) (k + 1) y q, ?_, fun q hq => ?_, fun e he => ?_⟩
  · refine Classical.byContradiction fun hno => ?_
    have : x = y := dec_inj (by omega) (k + 1) x y hx h2 fun q hq => by
      refine Classical.byContradiction fun hne => hno ⟨q, by omega, ?_⟩
      show (dec (B + 1) (k + 1) x q : Int) - dec (B + 1) (k + 1) y q ≠ 0
      omega
    omega
  · have := hd x hx q (by omega)
    have := hd y h2 q (by omega)
    show ((dec (B + 1) (k + 1) x q : Int) - dec (B + 1) (k + 1) y q).natAbs ≤ _
    rw [← hB]; omega
  · have h4 := hv e he
    have h5 := (hval x hx e).1
    have h6 := (hval y h2 e).1
    have h7 : sm (k + 1) (fun q => ((dec (B + 1) (k + 1) x q : Int) - dec (B + 1) (k + 1) y q) * A e q) = sm (k + 1) (fun q => (dec (B + 1) (k + 1) x q : Int) * A e q) + (-1) * sm (k + 1) (fun q => (dec (B + 1) (k + 1) y q : Int) * A e q) := by
      rw [← sm_mul, ← sm_add]
      exact sm_congr fun q _ => by grind
    rw [h7]; omega
end Go.Proofs.Ytpchodnknkdlgaa
