import Derived.Test.YtpchodnknkdlgaaInLE
import Derived.Test.YtpchodnknkdlgaaInAR
namespace Go.Proofs.Ytpchodnknkdlgaa
open Go.RowKit

/-! A number alone in some sum of sets. -/
def inS (sets : List (List Int)) (s : Nat) (z : Int) : Int := if z ∈ sets.getD s [] then 1 else 0
def Al (sets : List (List Int)) (y : Int) : Prop := ∃ (t : Nat → Int) (d : Int), d ≠ 0 ∧ ∀ z, sm sets.length (fun s => t s * inS sets s z) = if z = y then d else 0
theorem matL_len2 (sets : List (List Int)) : (matL sets).length = sets.length := by unfold matL; simp
theorem ent_mat (sets : List (List Int)) (s : Nat) {j : Nat} (hj : j < (namesL sets).length) : ent (matL sets) s j = inS sets s (namesL sets)[j] := by
  unfold ent inS
  rw [matL_at]
  by_cases hs : s < sets.length
  · simp [List.getD, hs, hj]
  · simp [List.getD, hs]
theorem ent_mat_out (sets : List (List Int)) (s : Nat) {j : Nat} (hj : (namesL sets).length ≤ j) : ent (matL sets) s j = 0 := by
  unfold ent
  rw [matL_at]
  by_cases hs : s < sets.length
  · simp [List.getD, hs, hj]
  · simp [List.getD, hs]
theorem ent01 (sets : List (List Int)) (s j : Nat) : ent (matL sets) s j = 0 ∨ ent (matL sets) s j = 1 := by
  rcases Nat.lt_or_ge j (namesL sets).length with h | h
  · rw [ent_mat _ _ h]; unfold inS; split <;> simp
  · exact .inl (ent_mat_out _ _ h)
theorem mat_inv (sets : List (List Int)) (k : Nat) : ∃ piv σ, Inv (matL sets) (redTo (matL sets) k).1 (namesL sets).length (redTo (matL sets) k).2 k piv σ :=
  redTo_inv (matL_len sets) (fun i _ => prm01 (ent01 sets i) fun _ hj => ent_mat_out _ _ hj) k
theorem exp_bd (sets : List (List Int)) (hl : sets.length ≤ 8) : ∀ k ≤ (namesL sets).length, ∀ r ∈ (redTo (matL sets) k).1, Bd 16777216 r := by
  intro k _ r hr x hx
  obtain ⟨piv, σ, h⟩ := mat_inv sets k
  obtain ⟨i, hi, rfl⟩ := List.getElem_of_mem hr
  obtain ⟨j, hj, rfl⟩ := List.getElem_of_mem hx
  have := h.bound (ent01 sets) (by rw [matL_len2]; exact hl) i (by rw [← h.len]; exact hi) j
  rwa [ent_getD hi, getD_get _ _ hj] at this
theorem names_inj {l : List Int} (h : l.Pairwise (· < ·)) {i j : Nat} (hi : i < l.length) (hj : j < l.length) (e : l[i] = l[j]) : i = j := by
  rcases Nat.lt_trichotomy i j with h3 | h3 | h3
  · have := List.pairwise_iff_getElem.1 h i j hi hj h3; omega
  · exact h3
  · have := List.pairwise_iff_getElem.1 h j i hj hi h3; omega
theorem Al.col {sets : List (List Int)} {y : Int} (h : Al sets y) {a : Nat} {piv σ : Nat → Nat} {C : List (List Int)} (hI : Inv (matL sets) C (namesL sets).length a (namesL sets).length piv σ) :
    ∃ p c, ∃ (hc : c < (namesL sets).length) (hp : p < C.length), p < a ∧ piv p = c ∧ (namesL sets)[c] = y ∧ loneL C[p] = c := by
  obtain ⟨t, d, hd, hz⟩ := h
  have hy : y ∈ namesL sets := by
    refine Classical.byContradiction fun hno => hd ?_
    have h1 := hz y
    rw [if_pos rfl] at h1
    rw [← h1]
    refine sm_zero fun s hs => ?_
    have : inS sets s y = 0 := by
      unfold inS
      rw [if_neg fun hm => hno (namesL_mem.2 ⟨_, List.getElem_mem hs, by rwa [getD_get _ _ hs] at hm⟩)]
    rw [this]; omega
  obtain ⟨c, hc, e⟩ := List.getElem_of_mem hy
  obtain ⟨p, hp, h1, h2⟩ := hI.alone t hd (c := c) fun j => by
    rw [matL_len2]
    rcases Nat.lt_or_ge j (namesL sets).length with hj | hj
    · have h3 := hz (namesL sets)[j]
      have h4 : sm sets.length (fun s => t s * ent (matL sets) s j) = sm sets.length fun s => t s * inS sets s (namesL sets)[j] := sm_congr fun s _ => by rw [ent_mat _ _ hj]
      rw [h4, h3]
      by_cases hjc : j = c
      · subst hjc; rw [if_pos e, if_pos rfl]
      · rw [if_neg hjc, if_neg fun e2 => hjc (names_inj (namesL_lt sets) hj hc (e2.trans e.symm))]
    · rw [if_neg (by omega)]
      exact sm_zero fun s _ => by rw [ent_mat_out _ _ hj]; omega
  have hpl : p < C.length := by rw [hI.len]; have := hI.am; omega
  refine ⟨p, c, hc, hpl, hp, h1, e, (loneL_iff _ _).2 ⟨?_, fun j hj => ?_⟩⟩
  · have := hI.pnz p hp
    rwa [h1, ent_getD hpl] at this
  · have := h2 j hj
    rwa [ent_getD hpl] at this
theorem Al.of_col {sets : List (List Int)} {a : Nat} {piv σ : Nat → Nat} {C : List (List Int)} (hI : Inv (matL sets) C (namesL sets).length a (namesL sets).length piv σ) {q : Nat} (hq : q < C.length) (h : 0 ≤ loneL C[q]) :
    q < a ∧ loneL C[q] = piv q ∧ ∃ hc : piv q < (namesL sets).length, Al sets (namesL sets)[piv q] := by
  obtain ⟨c, hc⟩ : ∃ c : Nat, loneL C[q] = c := ⟨_, (Int.toNat_of_nonneg h).symm⟩
  obtain ⟨h1, h2⟩ := (loneL_iff _ _).1 hc
  have hqm : q < (matL sets).length := by rw [← hI.len]; exact hq
  have hqa : q < a := Nat.lt_of_not_le fun h3 => h1 (by have := hI.rest q h3 hqm c; rwa [ent_getD hq] at this)
  have hpc : piv q = c := Classical.byContradiction fun h3 => hI.pnz q hqa (by rw [ent_getD hq]; exact h2 _ h3)
  have hcn : c < (namesL sets).length := Nat.lt_of_not_le fun h3 => h1 (getD_out (by rw [hI.rows _ (List.getElem_mem hq)]; exact h3))
  subst hpc
  refine ⟨hqa, hc, hcn, ?_⟩
  obtain ⟨d, t, hd, ht⟩ := hI.fw q hqm
  refine ⟨t, d * ent C q (piv q), Int.mul_ne_zero hd (by rw [ent_getD hq]; exact h1), fun z => ?_⟩
  by_cases hz : z ∈ namesL sets
  · obtain ⟨j, hj, rfl⟩ := List.getElem_of_mem hz
    have h3 : sm sets.length (fun s => t s * inS sets s (namesL sets)[j]) = sm sets.length fun s => t s * ent (matL sets) s j := sm_congr fun s _ => by rw [ent_mat _ _ hj]
    have h4 := ht j
    rw [matL_len2] at h4
    rw [h3, ← h4]
    by_cases hjc : j = piv q
    · subst hjc; rw [if_pos rfl]
    · rw [if_neg fun e2 => hjc (names_inj (namesL_lt sets) hj hcn e2), ent_getD hq, h2 j hjc]; omega
  · have hne : z ≠ (namesL sets)[piv q] := fun e => hz (e ▸ List.getElem_mem hcn)
    rw [if_neg hne]
    refine sm_zero fun s hs => ?_
    have : inS sets s z = 0 := by
      unfold inS
      rw [if_neg fun hm => hz (namesL_mem.2 ⟨_, List.getElem_mem hs, by rwa [getD_get _ _ hs] at hm⟩)]
    rw [this]; omega
theorem exposed_spec (sets : List (List Int)) : (∃ y, Al sets y ∧ (∀ z, Al sets z → y ≤ z) ∧ exposedL sets = (y, true)) ∨ ((∀ y, ¬ Al sets y) ∧ exposedL sets = (0, false)) := by
  obtain ⟨piv, σ, hI⟩ := mat_inv sets (namesL sets).length
  obtain ⟨C, hC⟩ : ∃ C, C = (redTo (matL sets) (namesL sets).length).1 := ⟨_, rfl⟩
  unfold exposedL
  rw [← hC] at hI ⊢
  by_cases h : ∃ q, ∃ hq : q < C.length, 0 ≤ loneL C[q]
  · have hmin : ∀ n q, ∀ hq : q < C.length, q ≤ n → 0 ≤ loneL C[q] → ∃ k, ∃ hk : k < C.length, 0 ≤ loneL C[k] ∧ ∀ q (hq : q < C.length), q < k → loneL C[q] < 0 := by
      intro n
      induction n with
      | zero => intro q hq hle h0; exact ⟨q, hq, h0, fun q' _ h => by omega⟩
      | succ n ih =>
        intro q hq hle h0
        by_cases h2 : ∃ q', ∃ hq' : q' < C.length, q' ≤ n ∧ 0 ≤ loneL C[q']
        · obtain ⟨q', hq', h3, h4⟩ := h2
          exact ih q' hq' h3 h4
        · exact ⟨q, hq, h0, fun q' hq' h3 => Int.lt_of_not_ge fun h4 => h2 ⟨q', hq', by omega, h4⟩⟩
    obtain ⟨q, hq, h0⟩ := h
    obtain ⟨k, hk, h1, h2⟩ := hmin q q hq (Nat.le_refl _) h0
    obtain ⟨h3, h4, hc, h5⟩ := Al.of_col hI hk h1
    refine .inl ⟨_, h5, fun z hz => ?_, ?_⟩
    · obtain ⟨p, c, hc2, hp, hpa, hpc, e, hl⟩ := hz.col hI
      have hkp : k ≤ p := Nat.le_of_not_lt fun h6 => by have := h2 p hp h6; omega
      rw [← e]
      rcases Nat.eq_or_lt_of_le hkp with h6 | h6
      · subst h6; subst hpc; exact Int.le_refl _
      · have h7 := hI.pinc k p h6 hpa
        exact Int.le_of_lt (List.pairwise_iff_getElem.1 (namesL_lt sets) _ _ hc hc2 (by omega))
    · rw [answerL_at hk h1 h2, h4]
      rw [Int.toNat_natCast, getD_get _ _ hc]
  · refine .inr ⟨fun y hy => ?_, answerL_none fun q hq => Int.lt_of_not_ge fun h2 => h ⟨q, hq, h2⟩⟩
    obtain ⟨p, c, hc2, hp, hpa, hpc, e, hl⟩ := hy.col hI
    exact h ⟨p, hp, by omega⟩
/-! What follows from it. -/
theorem Al.more {sets : List (List Int)} {y : Int} (h : Al sets y) (x : List Int) : Al (sets ++ [x]) y := by
  obtain ⟨t, d, hd, hz⟩ := h
  refine ⟨fun s => if s < sets.length then t s else 0, d, hd, fun z => ?_⟩
  rw [List.length_append, List.length_singleton, sm, ← hz z]
  have e1 : (if sets.length < sets.length then t sets.length else 0) = 0 := if_neg (Nat.lt_irrefl _)
  have e2 : sm sets.length (fun s => (if s < sets.length then t s else 0) * inS (sets ++ [x]) s z) = sm sets.length fun s => t s * inS sets s z := sm_congr fun s hs => by
    rw [if_pos hs]
    have eg : (sets ++ [x]).getD s [] = sets.getD s [] := by simp [List.getD, List.getElem?_append_left hs]
    have : inS (sets ++ [x]) s z = inS sets s z := by unfold inS; rw [eg]
    rw [this]
  rw [e2]
  show _ + (if sets.length < sets.length then t sets.length else 0) * _ = _
  rw [e1]; omega
theorem sm_first (n : Nat) (f : Nat → Int) : sm (n + 1) f = f 0 + sm n fun i => f (i + 1) := by
  induction n with
  | zero => simp [sm]
  | succ n ih => rw [sm, ih, sm]; omega
theorem sm_rev (n : Nat) (f : Nat → Int) : sm n (fun i => f (n - 1 - i)) = sm n f := by
  induction n generalizing f with
  | zero => rfl
  | succ n ih =>
    rw [sm_first n f, sm, ← ih fun i => f (i + 1)]
    have e1 : n + 1 - 1 - n = 0 := by omega
    rw [e1, Int.add_comm]
    congr 1
    exact sm_congr fun i hi => by rw [show n + 1 - 1 - i = n - 1 - i + 1 by omega]
theorem Al.rev {sets : List (List Int)} {y : Int} (h : Al sets y) : Al sets.reverse y := by
  obtain ⟨t, d, hd, hz⟩ := h
  refine ⟨fun s => t (sets.length - 1 - s), d, hd, fun z => ?_⟩
  rw [List.length_reverse, ← hz z, ← sm_rev sets.length fun s => t s * inS sets s z]
  refine sm_congr fun s hs => ?_
  have : inS sets.reverse s z = inS sets (sets.length - 1 - s) z := by
    unfold inS
    rw [getD_get _ _ (show s < sets.reverse.length by rw [List.length_reverse]; exact hs), getD_get _ _ (show sets.length - 1 - s < sets.length by omega), List.getElem_reverse]
  rw [this]
theorem exposed_more (sets : List (List Int)) (x : List Int) : (exposedL sets).2 = true → (exposedL (sets ++ [x])).2 = true ∧ (exposedL (sets ++ [x])).1 ≤ (exposedL sets).1 := by
  intro h
  rcases exposed_spec sets with ⟨y, h1, -, e⟩ | ⟨-, e⟩
  · rcases exposed_spec (sets ++ [x]) with ⟨y2, -, g2, e2⟩ | ⟨g, -⟩
    · rw [e, e2]; exact ⟨rfl, g2 y (h1.more x)⟩
    · exact absurd (h1.more x) (g y)
  · rw [e] at h; cases h
theorem exposed_rev (sets : List (List Int)) : exposedL sets.reverse = exposedL sets := by
  have hr : ∀ y, Al sets.reverse y → Al sets y := fun y h => by have := h.rev; rwa [List.reverse_reverse] at this
  rcases exposed_spec sets with ⟨y, h1, h2, e⟩ | ⟨h1, e⟩
  · rcases exposed_spec sets.reverse with ⟨y2, g1, g2, e2⟩ | ⟨g, -⟩
    · have h3 := g2 y h1.rev
      have h4 := h2 y2 (hr _ g1)
      rw [e, e2, show y2 = y by omega]
    · exact absurd h1.rev (g y)
  · rcases exposed_spec sets.reverse with ⟨y2, g1, -, -⟩ | ⟨-, e2⟩
    · exact absurd (hr _ g1) (h1 y2)
    · rw [e, e2]
/-- A set, each with a twin. -/
def twinL (s : List Int) : List Int := s.flatMap fun x => [2 * x, 2 * x + 1]
theorem twinL_mem {s : List Int} {z : Int} : z ∈ twinL s ↔ z / 2 ∈ s := by
  unfold twinL
  simp only [List.mem_flatMap, List.mem_cons, List.not_mem_nil, or_false]
  constructor
  · rintro ⟨x, hx, rfl | rfl⟩
    · rwa [show 2 * x / 2 = x by omega]
    · rwa [show (2 * x + 1) / 2 = x by omega]
  · intro h
    exact ⟨_, h, by omega⟩
theorem exposed_twins (sets : List (List Int)) : (exposedL (sets.map twinL)).2 = false := by
  rcases exposed_spec (sets.map twinL) with ⟨y, ⟨t, d, hd, hz⟩, -, e⟩ | ⟨-, e⟩
  · exfalso
    obtain ⟨y2, hy2⟩ : ∃ y2, y2 = 4 * (y / 2) + 1 - y := ⟨_, rfl⟩
    have h1 := hz y
    have h2 := hz y2
    rw [if_pos rfl] at h1
    rw [if_neg (by omega)] at h2
    apply hd
    rw [← h1, ← h2]
    refine sm_congr fun s hs => ?_
    have hs2 : s < sets.length := by simpa using hs
    have : inS (sets.map twinL) s y = inS (sets.map twinL) s y2 := by
      unfold inS
      have e3 : (sets.map twinL).getD s [] = twinL sets[s] := by simp [List.getD, hs2]
      have e4 : y ∈ twinL sets[s] ↔ y2 ∈ twinL sets[s] := by rw [twinL_mem, twinL_mem, show y2 / 2 = y / 2 by omega]
      rw [e3]
      by_cases h3 : y ∈ twinL sets[s]
      · rw [if_pos h3, if_pos (e4.1 h3)]
      · rw [if_neg h3, if_neg fun h => h3 (e4.2 h)]
    rw [this]
  · rw [e]
theorem twinL_right {s : List Int} (h : rightM 0 s = true) : rightM 0 (twinL s) = true := by
  rw [rightM_iff] at h ⊢
  refine ⟨fun x hx => ?_, ?_⟩
  · have := h.1 _ (twinL_mem.1 hx); omega
  · unfold twinL
    rw [List.pairwise_flatMap]
    refine ⟨fun x _ => by simp; omega, h.2.imp fun {a b} hab x hx y hy => ?_⟩
    simp at hx hy; omega
theorem twinL_len (s : List Int) : (twinL s).length = 2 * s.length := by
  unfold twinL
  induction s with
  | nil => rfl
  | cons x s ih => rw [List.flatMap_cons, List.length_append, ih]; simp; omega
theorem twinL_snoc (s : List Int) (x : Int) : twinL (s ++ [x]) = twinL s ++ [2 * x, 2 * x + 1] := by unfold twinL; simp
/-! Sets that share little. -/
theorem cover : ∀ (us : List (List Int)) (s : List Int) (r : Nat), (∀ x ∈ s, ∃ u ∈ us, x ∈ u) → (∀ u ∈ us, s.countP (fun x => decide (x ∈ u)) ≤ r) → s.length ≤ us.length * r
  | [], s, r, h, _ => by
    cases s with
    | nil => simp
    | cons x s => obtain ⟨u, hu, -⟩ := h x (by simp); simp at hu
  | u :: us, s, r, h, h2 => by
    have h3 := cover us (s.filter fun x => decide (x ∉ u)) r (fun x hx => by
      obtain ⟨hx1, hx2⟩ := List.mem_filter.1 hx
      obtain ⟨v, hv, hxv⟩ := h x hx1
      rcases List.mem_cons.1 hv with rfl | hv
      · simp at hx2; exact absurd hxv hx2
      · exact ⟨v, hv, hxv⟩) fun v hv => Nat.le_trans (List.filter_sublist.countP_le) (h2 v (by simp [hv]))
    have h4 := h2 u (by simp)
    have h5 : s.length = s.countP (fun x => decide (x ∈ u)) + (s.filter fun x => decide (x ∉ u)).length := by
      rw [← List.countP_eq_length_filter]
      have := List.length_eq_countP_add_countP (fun x => decide (x ∈ u)) (l := s)
      rw [this]
      congr 1
      exact List.countP_congr fun x _ => by simp
    rw [List.length_cons, Nat.add_mul]; omega
theorem exposed_safe {sets : List (List Int)} {k r b : Int} (hr : ∀ s ∈ sets, rightM 0 s = true) (hk : ∀ s ∈ sets, k ≤ s.length) (hs : ∀ i j (hi : i < sets.length) (hj : j < sets.length), j < i → sharedM sets[i] sets[j] ≤ r)
    (hb : (sets.length : Int) ≤ b) (hr0 : 0 ≤ r) (hc : (b - 1) * r < k - 1) : (exposedL sets).2 = false := by
  rcases exposed_spec sets with ⟨y, ⟨t, d, hd, hz⟩, -, e⟩ | ⟨-, e⟩
  · exfalso
    have h1 : ∃ s, s < sets.length ∧ t s ≠ 0 := Classical.byContradiction fun hno => hd (by
      have h1 := hz y
      rw [if_pos rfl] at h1
      rw [← h1]
      exact sm_zero fun s hs => by rw [show t s = 0 from Classical.byContradiction fun h => hno ⟨s, hs, h⟩]; omega)
    obtain ⟨s, hsl, hts⟩ := h1
    have hsh : ∀ u (hu : u < sets.length), u ≠ s → sharedM sets[s] sets[u] ≤ r := fun u hu hne => by
      rcases Nat.lt_or_gt_of_ne hne with h2 | h2
      · exact hs s u hsl hu h2
      · rw [sharedM_comm]; exact hs u s hu hsl h2
    have hR := hr _ (List.getElem_mem hsl)
    have hK := hk _ (List.getElem_mem hsl)
    obtain ⟨others, ho⟩ : ∃ others, others = sets.eraseIdx s := ⟨_, rfl⟩
    have hol : others.length = sets.length - 1 := by rw [ho, List.length_eraseIdx, if_pos hsl]
    have hom : ∀ v ∈ others, ∃ u, ∃ hu : u < sets.length, u ≠ s ∧ sets[u] = v := fun v hv => by
      rw [ho, List.mem_eraseIdx_iff_getElem] at hv
      obtain ⟨u, hu, e⟩ := hv
      exact ⟨u, hu, e.1, e.2⟩
    have hcov := cover others (sets[s].filter fun x => decide (x ≠ y)) r.toNat (fun x hx => by
      obtain ⟨hx1, hx2⟩ := List.mem_filter.1 hx
      have hxy : x ≠ y := by simpa using hx2
      have h3 := hz x
      rw [if_neg hxy] at h3
      refine Classical.byContradiction fun hno => hts ?_
      rw [sm_one hsl fun u hu hne => by
        have : inS sets u x = 0 := by
          unfold inS
          rw [if_neg fun hm => hno ⟨sets[u], by rw [ho, List.mem_eraseIdx_iff_getElem]; exact ⟨u, hu, hne, rfl⟩, by rwa [getD_get _ _ hu] at hm⟩]
        rw [this]; omega] at h3
      have h4 : inS sets s x = 1 := by
        unfold inS
        rw [if_pos (by rw [getD_get _ _ hsl]; exact hx1)]
      rw [h4] at h3; omega) fun v hv => by
        obtain ⟨u, hu, hne, rfl⟩ := hom v hv
        have h5 := hsh u hu hne
        rw [sharedM_filter hR (hr _ (List.getElem_mem hu)), ← List.countP_eq_length_filter] at h5
        have h6 : (sets[s].filter fun x => decide (x ≠ y)).countP (fun x => decide (x ∈ sets[u])) ≤ sets[s].countP fun x => decide (x ∈ sets[u]) := List.filter_sublist.countP_le
        omega
    have hone : sets[s].length ≤ (sets[s].filter fun x => decide (x ≠ y)).length + 1 := by
      have h7 := List.length_eq_countP_add_countP (fun x => decide (x ≠ y)) (l := sets[s])
      have h8 : sets[s].countP (fun x => decide ¬ decide (x ≠ y) = true) ≤ 1 := by
        have h9 : sets[s].countP (fun x => decide ¬ decide (x ≠ y) = true) = sets[s].count y := by
          rw [List.count_eq_countP]
          exact List.countP_congr fun x _ => by simp
        have hnd : sets[s].Nodup := ((rightM_iff _ _).1 hR).2.imp fun h => by omega
        rw [h9, hnd.count]; split <;> omega
      rw [← List.countP_eq_length_filter]; omega
    have hm : ((sets.length - 1 : Nat) : Int) ≤ b - 1 := by omega
    have h10 : (((sets.length - 1) * r.toNat : Nat) : Int) ≤ (b - 1) * r := by
      rw [Int.natCast_mul, Int.toNat_of_nonneg hr0]
      exact Int.mul_le_mul_of_nonneg_right hm hr0
    rw [hol] at hcov
    omega
  · rw [e]
end Go.Proofs.Ytpchodnknkdlgaa
