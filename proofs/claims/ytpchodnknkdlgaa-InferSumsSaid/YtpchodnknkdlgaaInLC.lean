import Derived.Test.YtpchodnknkdlgaaInLB
namespace Go.Proofs.Ytpchodnknkdlgaa

/-! What holds between two columns. -/
theorem getD_get {α : Type} (l : List α) (d : α) {i : Nat} (h : i < l.length) : l.getD i d = l[i] := by simp [List.getD, h]
theorem combL_getD {row p : List Int} (h : row.length = p.length) (c j : Nat) : (combL row p c).getD j 0 = row.getD j 0 * p.getD c 0 - p.getD j 0 * row.getD c 0 := by
  rcases Nat.lt_or_ge j row.length with hj | hj
  · have hl := combL_len (c := c) h
    have h1 : j < (combL row p c).length := by omega
    have h2 : j < p.length := by omega
    have e : (combL row p c)[j] = row[j] * p.getD c 0 - p[j] * row.getD c 0 := by simp [combL]
    rw [getD_get _ _ h1, getD_get _ _ hj, getD_get _ _ h2, e]
  · rw [getD_out hj, getD_out (show p.length ≤ j by omega), getD_out (by rw [combL_len h]; exact hj)]; simp
theorem ent_getD {C : List (List Int)} {i : Nat} (hi : i < C.length) (j : Nat) : ent C i j = C[i].getD j 0 := by
  unfold ent; rw [getD_get _ _ hi]
theorem clean_ent {C : List (List Int)} {a c n : Nat} (hn : ∀ r ∈ C, r.length = n) (ha : a < C.length) (hα : ent C a c ≠ 0) :
    (∀ j, ent (cleanL C a c) a j = ent C a j) ∧ ∀ i, i < C.length → (Prm n (ent C i) → Prm n (ent (cleanL C a c) i)) ∧ (i ≠ a → ∃ g : Int, g ≠ 0 ∧ ∀ j, g * ent (cleanL C a c) i j = ent C a c * ent C i j - ent C i c * ent C a j) := by
  have hl := cleanL_len C a c
  have hrow : ∀ i (hi : i < C.length) j, ent (cleanL C a c) i j = (rowL C a c i C[i]).getD j 0 := fun i hi j => by
    have e : (cleanL C a c)[i]'(by omega) = rowL C a c i C[i] := by simp [cleanL]
    rw [ent_getD (by omega), e]
  have hMa : C.getD a [] = C[a] := getD_get _ _ ha
  refine ⟨fun j => ?_, fun i hi => ?_⟩
  · rw [hrow a ha j, ent_getD ha]
    unfold rowL; rw [if_pos (.inl rfl)]
  · by_cases h0 : i = a ∨ C[i].getD c 0 = 0
    · have e : ∀ j, ent (cleanL C a c) i j = ent C i j := fun j => by
        rw [hrow i hi j, ent_getD hi]
        unfold rowL; rw [if_pos h0]
      refine ⟨fun hp => ?_, fun hne => ⟨ent C a c, hα, fun j => ?_⟩⟩
      · have : ent (cleanL C a c) i = ent C i := funext e
        rw [this]; exact hp
      · rw [e j]
        have h1 : ent C i c = 0 := by rw [ent_getD hi]; rcases h0 with h | h; exact absurd h hne; exact h
        rw [h1]; simp
    · have hii : C[i].length = n := hn _ (List.getElem_mem hi)
      have haa : C[a].length = n := hn _ (List.getElem_mem ha)
      obtain ⟨g, g0, g1, g2⟩ := shrink_spec (combL C[i] C[a] c)
      have hlen : (combL C[i] C[a] c).length = n := by rw [combL_len (by omega), hii]
      have e : ∀ j, ent (cleanL C a c) i j = (shrinkL (combL C[i] C[a] c)).getD j 0 := fun j => by
        rw [hrow i hi j]
        unfold rowL; rw [if_neg h0, hMa]
      refine ⟨fun _ => ?_, fun _ => ⟨g, g0, fun j => ?_⟩⟩
      · have : ent (cleanL C a c) i = fun j => (shrinkL (combL C[i] C[a] c)).getD j 0 := funext e
        rw [this, ← hlen]; exact g2
      · rw [e j, ← g1 j, combL_getD (by omega), ent_getD hi, ent_getD hi, ent_getD ha, ent_getD ha]; grind
theorem swap_ent {C : List (List Int)} {a i : Nat} (ha : a < C.length) (hi : i < C.length) (j c : Nat) (hj : j < C.length) : ent (swapL C a i) j c = ent C (sw a i j) c := by
  have h1 := swapL_at ha hi j
  have h2 := sw_lt ha hi hj
  have h3 : j < (swapL C a i).length := by rw [swapL_len]; exact hj
  rw [List.getElem?_eq_getElem h3, List.getElem?_eq_getElem h2] at h1
  rw [ent_getD h3, ent_getD h2, Option.some.inj h1]
structure Inv (M C : List (List Int)) (n a k : Nat) (piv σ : Nat → Nat) : Prop where
  len : C.length = M.length
  rows : ∀ r ∈ C, r.length = n
  am : a ≤ M.length
  pk : ∀ p, p < a → piv p < k
  pinc : ∀ p q, p < q → q < a → piv p < piv q
  pnz : ∀ p, p < a → ent C p (piv p) ≠ 0
  pz : ∀ p, p < a → ∀ i, i < M.length → i ≠ p → ent C i (piv p) = 0
  z : ∀ i, a ≤ i → i < M.length → ∀ j, j < k → ent C i j = 0
  sg : ∀ i, i < M.length → σ i < M.length
  sj : ∀ s, s < M.length → ∃ i, i < M.length ∧ σ i = s
  bw : ∀ s, s < M.length → ∃ (d x : Int) (u : Nat → Int), d ≠ 0 ∧ (a ≤ s → x ≠ 0) ∧ (s < a → x = 0) ∧ ∀ j, d * ent M (σ s) j = sm a (fun q => u q * ent C q j) + x * ent C s j
  ind : ∀ c : Nat → Int, (∀ j, sm a (fun q => c q * ent M (σ q) j) = 0) → ∀ q, q < a → c q = 0
  pr : ∀ i, i < M.length → Prm n (ent C i)
  fw : ∀ i, i < M.length → ∃ (d : Int) (t : Nat → Int), d ≠ 0 ∧ ∀ j, d * ent C i j = sm M.length fun s => t s * ent M s j
theorem Inv.start {M : List (List Int)} {n : Nat} (hn : ∀ r ∈ M, r.length = n) (hp : ∀ i, i < M.length → Prm n (ent M i)) : Inv M M n 0 0 (fun _ => 0) id where
  len := rfl
  rows := hn
  am := Nat.zero_le _
  pk := fun p hp => by omega
  pinc := fun p q h1 h2 => by omega
  pnz := fun p hp => by omega
  pz := fun p hp => by omega
  z := fun i _ _ j hj => by omega
  sg := fun i hi => hi
  sj := fun s hs => ⟨s, hs, rfl⟩
  bw := fun s _ => ⟨1, 1, fun _ => 0, by decide, fun _ => by decide, fun h => by omega, fun j => by simp [sm]⟩
  ind := fun c _ q hq => by omega
  pr := hp
  fw := fun i hi => ⟨1, fun s => if s = i then 1 else 0, by decide, fun j => by
    rw [sm_one hi fun s _ hne => by simp [hne]]; simp⟩
theorem findRow_zero {M : List (List Int)} {c i : Nat} (h : findRow M c i = none) : ∀ k, i ≤ k → k < M.length → ent M k c = 0 := by
  unfold findRow at h
  rw [List.find?_eq_none] at h
  intro k h1 h2
  have := h k (List.mem_range.2 h2)
  simpa [h1] using this
theorem Inv.stay {M C : List (List Int)} {n a k : Nat} {piv σ : Nat → Nat} (h : Inv M C n a k piv σ) (hf : findRow C k a = none) : Inv M C n a (k + 1) piv σ :=
  { h with
    pk := fun p hp => by have := h.pk p hp; omega
    z := fun i h1 h2 j hj => by
      by_cases e : j = k
      · rw [e]; exact findRow_zero hf i h1 (by rw [h.len]; exact h2)
      · exact h.z i h1 h2 j (by omega) }
theorem sw_ge {a i j : Nat} (hai : a ≤ i) : a ≤ sw a i j ↔ a ≤ j := by unfold sw; split <;> (try split) <;> omega
theorem sw_fix {a i j : Nat} (hai : a ≤ i) (hj : j < a) : sw a i j = j := by unfold sw; split <;> (try split) <;> omega
theorem sw_sw {a i j : Nat} : sw a i (sw a i j) = j := by unfold sw; split <;> (try split) <;> (try split) <;> (try split) <;> omega
theorem Inv.swap {M C : List (List Int)} {n a k i : Nat} {piv σ : Nat → Nat} (h : Inv M C n a k piv σ) (hai : a ≤ i) (hi : i < M.length) : Inv M (swapL C a i) n a k piv (fun s => σ (sw a i s)) := by
  have hl := h.len
  have ha : a < C.length := by omega
  have hi' : i < C.length := by omega
  have lt : ∀ j, j < M.length → sw a i j < M.length := fun j hj => sw_lt (by omega) hi hj
  have e : ∀ j, j < M.length → ∀ c, ent (swapL C a i) j c = ent C (sw a i j) c := fun j hj c => swap_ent ha hi' j c (by omega)
  have e1 : ∀ j, j < a → ∀ c, ent (swapL C a i) j c = ent C j c := fun j hj c => by rw [e j (by have := h.am; omega) c, sw_fix hai hj]
  refine ⟨by rw [swapL_len]; exact hl, fun r hr => h.rows r (swapL_mem ha hi' hr), h.am, h.pk, h.pinc, fun p hp => ?_, fun p hp j hj hne => ?_, fun j h1 h2 c hc => ?_, fun j hj => h.sg _ (lt j hj), fun s hs => ?_, fun s hs => ?_, fun c hc => ?_, fun j hj => ?_, fun j hj => ?_⟩
  · rw [e1 p hp]; exact h.pnz p hp
  · rw [e j hj]
    exact h.pz p hp _ (lt j hj) fun e2 => hne (sw_inj (e2.trans (sw_fix hai hp).symm))
  · rw [e j h2]
    exact h.z _ ((sw_ge hai).2 h1) (lt j h2) c hc
  · obtain ⟨j, hj, rfl⟩ := h.sj s hs
    exact ⟨sw a i j, lt j hj, by rw [sw_sw]⟩
  · obtain ⟨d, x, u, h1, h2, h3, h4⟩ := h.bw _ (lt s hs)
    refine ⟨d, x, u, h1, fun hs2 => h2 ((sw_ge hai).2 hs2), fun hs2 => h3 (by rw [sw_fix hai hs2]; exact hs2), fun j => ?_⟩
    rw [h4 j, e s hs j]
    congr 1
    exact sm_congr fun q hq => by rw [e1 q hq]
  · refine h.ind c fun j => (sm_congr fun q hq => ?_).trans (hc j)
    rw [sw_fix hai hq]
  · have : ent (swapL C a i) j = ent C (sw a i j) := funext (e j hj)
    rw [this]; exact h.pr _ (lt j hj)
  · obtain ⟨d, t, h1, h2⟩ := h.fw _ (lt j hj)
    exact ⟨d, t, h1, fun c => by rw [e j hj c]; exact h2 c⟩
end Go.Proofs.Ytpchodnknkdlgaa
