import Derived.Test.YtpchodnknkdlgaaInLC
namespace Go.Proofs.Ytpchodnknkdlgaa

/-! A column with something: the next row has it alone. -/
theorem common (m : Nat) (d : Nat → Int) (hd : ∀ q, q < m → d q ≠ 0) : ∃ (D : Int) (e : Nat → Int), D ≠ 0 ∧ ∀ q, q < m → e q ≠ 0 ∧ e q * d q = D := by
  induction m with
  | zero => exact ⟨1, fun _ => 1, by decide, fun q hq => by omega⟩
  | succ m ih =>
    obtain ⟨D, e, h1, h2⟩ := ih fun q hq => hd q (by omega)
    have h3 := hd m (by omega)
    refine ⟨D * d m, fun q => if q = m then D else e q * d m, Int.mul_ne_zero h1 h3, fun q hq => ?_⟩
    show (if q = m then D else e q * d m) ≠ 0 ∧ (if q = m then D else e q * d m) * d q = D * d m
    by_cases e1 : q = m
    · subst e1
      rw [if_pos rfl]; exact ⟨h1, rfl⟩
    · obtain ⟨h4, h5⟩ := h2 q (by omega)
      rw [if_neg e1]
      exact ⟨Int.mul_ne_zero h4 h3, by rw [← h5]; grind⟩
/-- what rows of the first a, and one more, sum up to, as rows between the columns. -/
theorem Inv.sum {M C : List (List Int)} {n a k : Nat} {piv σ : Nat → Nat} (h : Inv M C n a k piv σ) {b i : Nat} (hb : b ≤ M.length) (hba : ∀ q, q < b → q < a) (hi : i < M.length) (c : Nat → Int) (y : Int) :
    ∃ (D x : Int) (w : Nat → Int), D ≠ 0 ∧ (a ≤ i → x ≠ 0) ∧ (i < a → x = 0) ∧ ∀ j, D * (sm b (fun q => c q * ent M (σ q) j) + y * ent M (σ i) j) = sm a (fun p => w p * ent C p j) + y * x * ent C i j := by
  have hB := fun s (hs : s < M.length) => h.bw s hs
  have hQ : ∀ q, ∃ (d : Int) (u : Nat → Int), q < b → d ≠ 0 ∧ ∀ j, d * ent M (σ q) j = sm a (fun p => u p * ent C p j) := fun q => by
    by_cases hq : q < b
    · obtain ⟨d, x, u, h1, -, h3, h4⟩ := hB q (by omega)
      exact ⟨d, u, fun _ => ⟨h1, fun j => by rw [h4 j, h3 (hba q hq)]; omega⟩⟩
    · exact ⟨0, fun _ => 0, fun hq2 => absurd hq2 hq⟩
  have ⟨d, hd⟩ := Classical.axiomOfChoice hQ
  have ⟨u, hu⟩ := Classical.axiomOfChoice hd
  obtain ⟨D, e, h1, h2⟩ := common b d fun q hq => (hu q hq).1
  obtain ⟨d', x, u', g1, g2, g3, g4⟩ := hB i hi
  refine ⟨D * d', D * x, fun p => d' * sm b (fun q => c q * e q * u q p) + y * D * u' p, Int.mul_ne_zero h1 g1, fun hx => Int.mul_ne_zero h1 (g2 hx), fun hx => by rw [g3 hx]; omega, fun j => ?_⟩
  have e1 : D * sm b (fun q => c q * ent M (σ q) j) = sm a fun p => sm b (fun q => c q * e q * u q p) * ent C p j := by
    rw [← sm_mul]
    have : sm b (fun q => D * (c q * ent M (σ q) j)) = sm b fun q => sm a fun p => c q * e q * u q p * ent C p j := by
      refine sm_congr fun q hq => ?_
      have h3 := (hu q hq).2 j
      have h4 : sm a (fun p => c q * e q * u q p * ent C p j) = c q * e q * sm a fun p => u q p * ent C p j := by
        rw [← sm_mul]; exact sm_congr fun p _ => by grind
      rw [h4, ← h3, ← (h2 q hq).2]; grind
    rw [this, sm_swap]
    exact sm_congr fun p _ => sm_mul' _ _ _
  have e2 : sm a (fun p => (d' * sm b (fun q => c q * e q * u q p) + y * D * u' p) * ent C p j) = d' * sm a (fun p => sm b (fun q => c q * e q * u q p) * ent C p j) + y * D * sm a fun p => u' p * ent C p j := by
    rw [← sm_mul, ← sm_mul, ← sm_add]; exact sm_congr fun p _ => by grind
  have e3 := g4 j
  rw [e2, ← e1]
  grind
/-- a sum that's 0 at each column of its own has only the last row. -/
theorem Inv.at_piv {M C : List (List Int)} {n a k : Nat} {piv σ : Nat → Nat} (h : Inv M C n a k piv σ) {w : Nat → Int} {p : Nat} (hp : p < a) : sm a (fun q => w q * ent C q (piv p)) = w p * ent C p (piv p) :=
  sm_one hp fun q hq hne => by rw [h.pz p hp q (by have := h.am; omega) hne]; omega
theorem Inv.pivot {M C : List (List Int)} {n a k : Nat} {piv σ : Nat → Nat} (h : Inv M C n a k piv σ) (ha : a < M.length) (hα : ent C a k ≠ 0) :
    Inv M (cleanL C a k) n (a + 1) (k + 1) (fun p => if p = a then k else piv p) σ := by
  have hl := h.len
  obtain ⟨HA, HB⟩ := clean_ent h.rows (show a < C.length by omega) hα
  have hG : ∀ i, ∃ g : Int, i < M.length → i ≠ a → g ≠ 0 ∧ ∀ j, g * ent (cleanL C a k) i j = ent C a k * ent C i j - ent C i k * ent C a j := fun i => by
    by_cases hi : i < M.length ∧ i ≠ a
    · obtain ⟨g, h1, h2⟩ := (HB i (by omega)).2 hi.2
      exact ⟨g, fun _ _ => ⟨h1, h2⟩⟩
    · exact ⟨0, fun h1 h2 => absurd ⟨h1, h2⟩ hi⟩
  obtain ⟨G, hG⟩ := Classical.axiomOfChoice hG
  have z0 : ∀ i j, i < M.length → i ≠ a → ent C a k * ent C i j - ent C i k * ent C a j = 0 → ent (cleanL C a k) i j = 0 := fun i j hi hne e => by
    obtain ⟨h1, h2⟩ := hG i hi hne
    have := h2 j
    rw [e] at this
    exact (Int.mul_eq_zero.1 this).resolve_left h1
  have zk : ∀ i, i < M.length → i ≠ a → ent (cleanL C a k) i k = 0 := fun i hi hne => z0 i k hi hne (by grind)
  have e1 : ∀ p, p < a → (if p = a then k else piv p) = piv p := fun p hp => if_neg (by omega)
  have e2 : (if a = a then k else piv a) = k := if_pos rfl
  refine ⟨by rw [cleanL_len]; exact hl, cleanL_mem h.rows (by omega), by omega, fun p hp => ?_, fun p q h1 h2 => ?_, fun p hp => ?_, fun p hp i hi hne => ?_, fun i h1 h2 j hj => ?_, h.sg, h.sj, fun s hs => ?_, fun c hc => ?_, fun i hi => (HB i (by omega)).1 (h.pr i hi), fun i hi => ?_⟩
  · show (if p = a then k else piv p) < k + 1
    split
    · omega
    · have := h.pk p (by omega); omega
  · show (if p = a then k else piv p) < if q = a then k else piv q
    rw [e1 p (by omega)]
    split
    · exact h.pk p (by omega)
    · exact h.pinc p q h1 (by omega)
  · show ent (cleanL C a k) p (if p = a then k else piv p) ≠ 0
    by_cases e : p = a
    · subst e
      rw [e2, HA]; exact hα
    · rw [e1 p (by omega)]
      intro e0
      have h1 := (hG p (by omega) e).2 (piv p)
      rw [e0, h.pz p (by omega) a ha (Ne.symm e)] at h1
      have h2 : ent C a k * ent C p (piv p) = 0 := by omega
      rcases Int.mul_eq_zero.1 h2 with h3 | h3
      · exact hα h3
      · exact h.pnz p (by omega) h3
  · show ent (cleanL C a k) i (if p = a then k else piv p) = 0
    by_cases e : p = a
    · subst e
      rw [e2]; exact zk i hi hne
    · have hp2 : p < a := by omega
      rw [e1 p hp2]
      have e3 := h.pz p hp2 a ha (Ne.symm e)
      by_cases e4 : i = a
      · rw [e4, HA]; exact e3
      · exact z0 i _ hi e4 (by rw [e3, h.pz p hp2 i hi hne]; omega)
  · by_cases e : j = k
    · rw [e]; exact zk i h2 (by omega)
    · exact z0 i j h2 (by omega) (by rw [h.z i (by omega) h2 j (by omega), h.z a (Nat.le_refl _) ha j (by omega)]; omega)
  · obtain ⟨d, x, u, h1, h2, h3, h4⟩ := h.bw s hs
    have e5 : ∀ q j, q < a → ent C a k * ent C q j = G q * ent (cleanL C a k) q j + ent C q k * ent C a j := fun q j hq => by
      have := (hG q (by omega) (by omega)).2 j; omega
    have e6 : ∀ j, ent C a k * sm a (fun q => u q * ent C q j) = sm a (fun q => u q * G q * ent (cleanL C a k) q j) + sm a (fun q => u q * ent C q k) * ent C a j := fun j => by
      rw [← sm_mul, ← sm_mul', ← sm_add]
      exact sm_congr fun q hq => by have := e5 q j hq; grind
    have e7 : ∀ (y : Int) (j : Nat), sm (a + 1) (fun q => (if q = a then sm a (fun q => u q * ent C q k) + y else u q * G q) * ent (cleanL C a k) q j) = sm a (fun q => u q * G q * ent (cleanL C a k) q j) + (sm a (fun q => u q * ent C q k) + y) * ent C a j := fun y j => by
      rw [sm]
      show _ + (if a = a then _ else _) * _ = _
      rw [if_pos rfl, HA]
      congr 1
      exact sm_congr fun q hq => by rw [if_neg (show q ≠ a by omega)]
    rcases Nat.lt_trichotomy s a with hs2 | hs2 | hs2
    · refine ⟨ent C a k * d, 0, fun q => if q = a then sm a (fun q => u q * ent C q k) + 0 else u q * G q, Int.mul_ne_zero hα h1, fun h => by omega, fun _ => rfl, fun j => ?_⟩
      have h5 := h4 j
      rw [h3 hs2] at h5
      rw [e7 0 j]
      have := e6 j
      grind
    · subst hs2
      refine ⟨ent C s k * d, 0, fun q => if q = s then sm s (fun q => u q * ent C q k) + ent C s k * x else u q * G q, Int.mul_ne_zero hα h1, fun h => by omega, fun _ => rfl, fun j => ?_⟩
      have h5 := h4 j
      rw [e7 _ j]
      have := e6 j
      grind
    · obtain ⟨g1, g2⟩ := hG s hs (by omega)
      refine ⟨ent C a k * d, x * G s, fun q => if q = a then sm a (fun q => u q * ent C q k) + x * ent C s k else u q * G q, Int.mul_ne_zero hα h1, fun _ => Int.mul_ne_zero (h2 (by omega)) g1, fun h => by omega, fun j => ?_⟩
      have h5 := h4 j
      rw [e7 _ j]
      have := e6 j
      have := g2 j
      grind
  · obtain ⟨D, x, w, h1, h2, -, h4⟩ := h.sum (b := a) (i := a) (by omega) (fun q hq => hq) ha c (c a)
    have hV : ∀ j, sm a (fun q => c q * ent M (σ q) j) + c a * ent M (σ a) j = 0 := hc
    have h5 : ∀ j, sm a (fun p => w p * ent C p j) + c a * x * ent C a j = 0 := fun j => by rw [← h4 j, hV j]; omega
    have hw : ∀ p, p < a → w p = 0 := fun p hp => by
      have h6 := h5 (piv p)
      rw [h.at_piv hp, h.pz p hp a ha (by omega)] at h6
      have h7 : w p * ent C p (piv p) = 0 := by omega
      exact (Int.mul_eq_zero.1 h7).resolve_right (h.pnz p hp)
    have h6 := h5 k
    rw [sm_zero fun p hp => by rw [hw p hp]; omega] at h6
    have h7 : c a * x * ent C a k = 0 := by omega
    have h8 := (Int.mul_eq_zero.1 ((Int.mul_eq_zero.1 h7).resolve_right hα)).resolve_right (h2 (Nat.le_refl _))
    intro q hq
    by_cases e : q = a
    · rw [e]; exact h8
    · refine h.ind c (fun j => ?_) q (by omega)
      have := hV j
      rw [h8] at this; omega
  · by_cases e : i = a
    · obtain ⟨d, t, h1, h2⟩ := h.fw i hi
      subst e
      exact ⟨d, t, h1, fun j => by rw [HA]; exact h2 j⟩
    · obtain ⟨d, t, h1, h2⟩ := h.fw i hi
      obtain ⟨d', t', g1, g2⟩ := h.fw a ha
      obtain ⟨k1, k2⟩ := hG i hi e
      refine ⟨G i * d * d', fun s => ent C a k * d' * t s - ent C i k * d * t' s, Int.mul_ne_zero (Int.mul_ne_zero k1 h1) g1, fun j => ?_⟩
      have e3 : sm M.length (fun s => (ent C a k * d' * t s - ent C i k * d * t' s) * ent M s j) = ent C a k * d' * sm M.length (fun s => t s * ent M s j) + (- (ent C i k * d)) * sm M.length fun s => t' s * ent M s j := by
        rw [← sm_mul, ← sm_mul, ← sm_add]; exact sm_congr fun s _ => by grind
      rw [e3, ← h2 j, ← g2 j]
      have := k2 j
      grind
end Go.Proofs.Ytpchodnknkdlgaa
