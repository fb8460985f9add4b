import Derived.Test.YtpchodnknkdlgaaInAJ
namespace Go.Proofs.Ytpchodnknkdlgaa
open Go.RowKit

/-! Sets and the same but one. -/
theorem place_at {names : List Int} (h : names.Pairwise (· < ·)) (j : Nat) (hj : j < names.length) : names.countP (· < names[j]) = j := by
  have hx : ∃ x, x = names[j] := ⟨_, rfl⟩
  obtain ⟨x, hx⟩ := hx
  rw [← hx]
  conv => lhs; rw [← List.take_append_drop j names]
  rw [List.countP_append]
  have h1 : (names.take j).countP (fun y => decide (y < x)) = (names.take j).length := List.countP_eq_length.2 fun y hy => by
    obtain ⟨i, hi, rfl⟩ := List.getElem_of_mem hy
    have hi2 : i < j := by simp at hi; omega
    rw [List.getElem_take, hx]
    simpa using List.pairwise_iff_getElem.1 h i j (by omega) hj hi2
  have h2 : (names.drop j).countP (fun y => decide (y < x)) = 0 := List.countP_eq_zero.2 fun y hy => by
    obtain ⟨i, hi, rfl⟩ := List.getElem_of_mem hy
    rw [List.getElem_drop, hx]
    by_cases e : i = 0
    · subst e; simp
    · have := List.pairwise_iff_getElem.1 h j (j + i) hj (by simp at hi; omega) (by omega)
      simp; omega
  rw [h1, h2, List.length_take]; omega
theorem mrow_at {names s : List Int} (h : names.Pairwise (· < ·)) (hs : ∀ x ∈ s, x ∈ names) (k : Nat) (hk : k ≤ s.length) : mrowTo names s k = names.map fun x => if x ∈ s.take k then 1 else 0 := by
  induction k with
  | zero =>
    simp only [List.take_zero, List.not_mem_nil, if_false]
    unfold mrowTo
    rw [List.take_zero, List.foldl_nil]
    exact (List.map_const (l := names) (b := (0 : Int))).symm
  | succ k ih =>
    rw [mrowTo_succ names s k (by omega), ih (by omega)]
    obtain ⟨p, hp, e⟩ := List.getElem_of_mem (hs _ (List.getElem_mem (show k < s.length by omega)))
    have hpl := place_at h p hp
    rw [e] at hpl
    rw [hpl, List.take_succ_eq_append_getElem (show k < s.length by omega)]
    apply List.ext_getElem (by simp)
    intro j h1 h2
    have hj : j < names.length := by simpa using h2
    rw [List.getElem_set, List.getElem_map, List.getElem_map]
    by_cases hpj : p = j
    · subst hpj
      rw [if_pos rfl, if_pos (by rw [e]; exact List.mem_append_right _ (List.mem_singleton.2 rfl))]
    · rw [if_neg hpj]
      have hne : names[j] ≠ s[k] := by
        rw [← e]
        intro e2
        rcases Nat.lt_or_gt_of_ne hpj with h3 | h3
        · have := List.pairwise_iff_getElem.1 h p j hp hj h3; omega
        · have := List.pairwise_iff_getElem.1 h j p hj hp h3; omega
      have hiff : names[j] ∈ s.take k ++ [s[k]] ↔ names[j] ∈ s.take k := by rw [List.mem_append, List.mem_singleton]; exact or_iff_left hne
      by_cases hm : names[j] ∈ s.take k
      · rw [if_pos hm, if_pos (hiff.2 hm)]
      · rw [if_neg hm, if_neg fun h => hm (hiff.1 h)]
theorem matL_at (sets : List (List Int)) : matL sets = sets.map fun s => (namesL sets).map fun x => if x ∈ s then 1 else 0 := by
  unfold matL
  apply List.map_congr_left
  intro s hs
  have := mrow_at (namesL_lt sets) (s := s) (fun x hx => namesL_mem.2 ⟨s, hs, hx⟩) s.length (Nat.le_refl _)
  rw [List.take_length] at this
  exact this
/-- a row, by its entries. -/
def Rw (n : Nat) (f : Nat → Int) : List Int := (List.range n).map f
theorem Rw_len (n : Nat) (f : Nat → Int) : (Rw n f).length = n := by simp [Rw]
theorem Rw_get {n : Nat} {f : Nat → Int} {j : Nat} (hj : j < n) : (Rw n f)[j]? = some (f j) := by simp [Rw, hj]
theorem Rw_getD {n : Nat} {f : Nat → Int} {j : Nat} (hj : j < n) : (Rw n f).getD j 0 = f j := by simp [Rw, hj]
theorem Rw_congr {n : Nat} {f g : Nat → Int} (h : ∀ j, j < n → f j = g j) : Rw n f = Rw n g := List.map_congr_left fun j hj => h j (List.mem_range.1 hj)
theorem Rw_map (n : Nat) (f : Nat → Int) (g : Int → Int) : (Rw n f).map g = Rw n (fun j => g (f j)) := by simp [Rw]
theorem combL_Rw {n c : Nat} (hc : c < n) (f g : Nat → Int) : combL (Rw n f) (Rw n g) c = Rw n (fun j => f j * g c - g j * f c) := by
  unfold combL
  rw [Rw_getD hc, Rw_getD hc]
  apply List.ext_getElem (by simp [Rw])
  intro j h1 h2
  simp [Rw]
theorem mem_Rw {n : Nat} {f : Nat → Int} {x : Int} : x ∈ Rw n f ↔ ∃ j, j < n ∧ f j = x := by simp [Rw]
/-- entries that are 0 or e, e one of 1 and -1. -/
theorem gcdL_unit {e : Int} (he : e = 1 ∨ e = -1) {xs : List Int} (h : ∀ x ∈ xs, x = 0 ∨ x = e) : gcdL xs = if e ∈ xs then e else 0 := by
  have h00 : gcdI 0 0 = 0 := by decide
  have h0e : gcdI 0 e = e := by rcases he with rfl | rfl <;> decide
  have he0 : gcdI e 0 = e := by rcases he with rfl | rfl <;> decide
  have hee : gcdI e e = e := by rcases he with rfl | rfl <;> decide
  have hne : e ≠ 0 := by omega
  unfold gcdL
  have key : ∀ (ys : List Int) (a : Int), (∀ x ∈ ys, x = 0 ∨ x = e) → (a = 0 ∨ a = e) → ys.foldl gcdI a = if a = e ∨ e ∈ ys then e else 0 := by
    intro ys
    induction ys with
    | nil => intro a _ ha; rcases ha with rfl | rfl <;> simp [Ne.symm hne]
    | cons y ys ih =>
      intro a hy ha
      rw [List.foldl_cons]
      have hys := fun x hx => hy x (List.mem_cons_of_mem _ hx)
      rcases ha with rfl | rfl <;> rcases hy y (by simp) with rfl | rfl
      · rw [h00, ih 0 hys (.inl rfl)]; simp [hne, Ne.symm hne]
      · rw [h0e, ih _ hys (.inr rfl)]; simp
      · rw [he0, ih _ hys (.inr rfl)]; simp
      · rw [hee, ih _ hys (.inr rfl)]; simp
  rw [key xs 0 h (.inl rfl)]
  simp [Ne.symm hne]
theorem shrinkL_unit {e : Int} (he : e = 1 ∨ e = -1) {n : Nat} {f : Nat → Int} (h : ∀ j, j < n → f j = 0 ∨ f j = e) : shrinkL (Rw n f) = Rw n fun j => f j * e := by
  have hg := gcdL_unit he (xs := Rw n f) (by intro x hx; obtain ⟨j, hj, rfl⟩ := mem_Rw.1 hx; exact h j hj)
  unfold shrinkL
  rw [hg]
  by_cases hm : e ∈ Rw n f
  · rw [if_pos hm, if_neg (by omega), Rw_map]
    exact Rw_congr fun j hj => by rcases he with rfl | rfl <;> rcases h j hj with e | e <;> rw [e] <;> decide
  · rw [if_neg hm, if_pos rfl]
    exact Rw_congr fun j hj => by
      rcases h j hj with e2 | e2
      · rw [e2]; simp
      · exact absurd (mem_Rw.2 ⟨j, hj, e2⟩) hm
theorem loneL_one {n i : Nat} (hi : i < n) {f : Nat → Int} (h : ∀ j, j < n → (f j ≠ 0 ↔ j = i)) : loneL (Rw n f) = i := by
  show (match nz (Rw n f) (Rw n f).length with | [p] => (p : Int) | _ => -1) = (i : Int)
  have e : nz (Rw n f) (Rw n f).length = [i] := by
    unfold nz
    rw [Rw_len]
    have h2 : (List.range n).filter (fun j => decide ((Rw n f).getD j 0 ≠ 0)) = (List.range n).filter fun j => decide (j = i) :=
      List.filter_congr fun j hj => by rw [Rw_getD (List.mem_range.1 hj)]; exact decide_eq_decide.2 (h j (List.mem_range.1 hj))
    rw [h2]
    obtain ⟨m, rfl⟩ : ∃ m, n = i + 1 + m := ⟨n - i - 1, by omega⟩
    rw [List.range_add, List.filter_append, List.range_succ, List.filter_append]
    have e1 : (List.range i).filter (fun j => decide (j = i)) = [] := List.filter_eq_nil_iff.2 fun j hj => by have := List.mem_range.1 hj; simp; omega
    have e2 : ((List.range m).map fun x => i + 1 + x).filter (fun j => decide (j = i)) = [] := List.filter_eq_nil_iff.2 fun j hj => by
      obtain ⟨x, _, rfl⟩ := List.mem_map.1 hj; simp; omega
    rw [e1, e2]; simp
  rw [e]
theorem loneL_two {n i k : Nat} (hi : i < n) (hk : k < n) (hik : i ≠ k) {f : Nat → Int} (h1 : f i ≠ 0) (h2 : f k ≠ 0) : loneL (Rw n f) = -1 := by
  refine loneL_many (k := (Rw n f).length) (Nat.le_refl _) ?_
  have hmem : ∀ p, p < n → f p ≠ 0 → p ∈ nz (Rw n f) (Rw n f).length := fun p hp hf => by
    unfold nz; rw [List.mem_filter, Rw_len]; exact ⟨List.mem_range.2 hp, by rw [Rw_getD hp]; simpa using hf⟩
  have m1 := hmem i hi h1
  have m2 := hmem k hk h2
  generalize nz (Rw n f) (Rw n f).length = l at m1 m2
  match l, m1, m2 with
  | [x], m1, m2 => exact absurd ((List.mem_singleton.1 m1).trans (List.mem_singleton.1 m2).symm) hik
  | x :: y :: l, _, _ => simp
theorem loneL_none {n : Nat} {f : Nat → Int} (h : ∀ j, j < n → f j = 0) : loneL (Rw n f) = -1 := by
  show (match nz (Rw n f) (Rw n f).length with | [i] => (i : Int) | _ => -1) = -1
  have e : nz (Rw n f) (Rw n f).length = [] := List.filter_eq_nil_iff.2 fun j hj => by
    have hj := List.mem_range.1 hj
    rw [Rw_len] at hj
    rw [Rw_getD hj, h j hj]; simp
  rw [e]
theorem cleanL0 (p q : List Int) (c : Nat) : cleanL [p, q] 0 c = [p, if q.getD c 0 = 0 then q else shrinkL (combL q p c)] := by simp [cleanL, rowL]
theorem cleanL1 (p q : List Int) (c : Nat) : cleanL [p, q] 1 c = [if p.getD c 0 = 0 then p else shrinkL (combL p q c), q] := by simp [cleanL, rowL]
theorem redTo_stay {M : List (List Int)} {s : List (List Int) × Nat} {k : Nat} (h : redTo M k = s) : ∀ m, (∀ c, k ≤ c → c < k + m → findRow s.1 c s.2 = none) → redTo M (k + m) = s
  | 0, _ => h
  | m + 1, hz => by
    rw [← Nat.add_assoc, redTo_succ, redTo_stay h m fun c h1 h2 => hz c h1 (by omega)]
    unfold redStep
    rw [hz (k + m) (by omega) (by omega)]
theorem findRow_two {p q : List Int} {c : Nat} : findRow [p, q] c 2 = none := findRow_none fun k h1 h2 => by simp at h2; omega
theorem findRow_one {p q : List Int} {c : Nat} (h : q.getD c 0 = 0) : findRow [p, q] c 1 = none := findRow_none fun k h1 h2 => by
  have : k = 1 := by simp at h2; omega
  subst this
  simpa [ent] using h
theorem findRow_at0 {p q : List Int} {c : Nat} (h : p.getD c 0 ≠ 0) : findRow [p, q] c 0 = some 0 := findRow_some (Nat.le_refl _) (by simp) (by simpa [ent] using h) fun k h1 h2 => by omega
theorem findRow_at1 {p q : List Int} {c : Nat} (h : q.getD c 0 ≠ 0) : findRow [p, q] c 1 = some 1 := findRow_some (Nat.le_refl _) (by simp) (by simpa [ent] using h) fun k h1 h2 => by omega
abbrev Jf : Nat → Int := fun _ => 1
abbrev Ef (i : Nat) : Nat → Int := fun j => if j = i then 1 else 0
abbrev Df (i : Nat) : Nat → Int := fun j => if j = i then 0 else 1
/-- J and J without i, i behind the first. -/
theorem redA {n i : Nat} (h1 : 0 < i) (h2 : i < n) (k : Nat) : redTo [Rw n Jf, Rw n (Df i)] k = if k = 0 then ([Rw n Jf, Rw n (Df i)], 0) else if k ≤ i then ([Rw n Jf, Rw n (Ef i)], 1) else if k ≤ n then ([Rw n (Df i), Rw n (Ef i)], 2) else ([Rw n (Df i), Rw n (Ef i)], 2) := by
  have e1 : redTo [Rw n Jf, Rw n (Df i)] 1 = ([Rw n Jf, Rw n (Ef i)], 1) := by
    rw [redTo_succ]
    show redStep ([Rw n Jf, Rw n (Df i)], 0) 0 = _
    unfold redStep
    simp only
    rw [findRow_at0 (by rw [Rw_getD (by omega)]; decide)]
    show (cleanL [Rw n Jf, Rw n (Df i)] 0 0, 0 + 1) = _
    rw [cleanL0, Rw_getD (by omega), if_neg (by simp [Df]; omega), combL_Rw (by omega), shrinkL_unit (e := -1) (.inr rfl) (by intro j hj; by_cases e : j = i <;> simp [Jf, Df, e]; omega; omega)]
    congr 3
    exact Rw_congr fun j hj => by by_cases e : j = i <;> simp [Jf, Ef, Df, e] <;> omega
  have e2 : redTo [Rw n Jf, Rw n (Df i)] i = ([Rw n Jf, Rw n (Ef i)], 1) := by
    have := redTo_stay e1 (i - 1) fun c h3 h4 => findRow_one (by rw [Rw_getD (by omega)]; simp [Ef]; omega)
    rwa [show 1 + (i - 1) = i by omega] at this
  have e3 : redTo [Rw n Jf, Rw n (Df i)] (i + 1) = ([Rw n (Df i), Rw n (Ef i)], 2) := by
    rw [redTo_succ, e2]
    unfold redStep
    simp only
    rw [findRow_at1 (by rw [Rw_getD h2]; simp [Ef])]
    show (cleanL [Rw n Jf, Rw n (Ef i)] 1 i, 1 + 1) = _
    rw [cleanL1, Rw_getD h2, if_neg (by simp [Jf]), combL_Rw h2, shrinkL_unit (e := 1) (.inl rfl) (by intro j hj; by_cases e : j = i <;> simp [Jf, Ef, e])]
    congr 2
    exact Rw_congr fun j hj => by by_cases e : j = i <;> simp [Jf, Ef, Df, e]
  by_cases k0 : k = 0
  · rw [if_pos k0, k0]; rfl
  · rw [if_neg k0]
    by_cases k1 : k ≤ i
    · rw [if_pos k1]
      have := redTo_stay e1 (k - 1) fun c h3 h4 => findRow_one (by rw [Rw_getD (by omega)]; simp [Ef]; omega)
      rwa [show 1 + (k - 1) = k by omega] at this
    · rw [if_neg k1, ite_self]
      have := redTo_stay e3 (k - (i + 1)) fun c h3 h4 => findRow_two
      rwa [show i + 1 + (k - (i + 1)) = k by omega] at this
/-- J and J without the first. -/
theorem redB {n : Nat} (h : 0 < n) (k : Nat) (hk : k ≤ n) : redTo [Rw n Jf, Rw n (Df 0)] k = if k = 0 then ([Rw n Jf, Rw n (Df 0)], 0) else if k = 1 then ([Rw n Jf, Rw n (Df 0)], 1) else ([Rw n (Ef 0), Rw n (Df 0)], 2) := by
  have e1 : redTo [Rw n Jf, Rw n (Df 0)] 1 = ([Rw n Jf, Rw n (Df 0)], 1) := by
    rw [redTo_succ]
    show redStep ([Rw n Jf, Rw n (Df 0)], 0) 0 = _
    unfold redStep
    simp only
    rw [findRow_at0 (by rw [Rw_getD h]; decide)]
    show (cleanL [Rw n Jf, Rw n (Df 0)] 0 0, 0 + 1) = _
    rw [cleanL0, Rw_getD h, if_pos (by decide)]
  by_cases k0 : k = 0
  · rw [if_pos k0, k0]; rfl
  · rw [if_neg k0]
    by_cases k1 : k = 1
    · rw [if_pos k1, k1]; exact e1
    · rw [if_neg k1]
      have h1 : 1 < n := by omega
      have e3 : redTo [Rw n Jf, Rw n (Df 0)] 2 = ([Rw n (Ef 0), Rw n (Df 0)], 2) := by
        rw [redTo_succ, e1]
        unfold redStep
        simp only
        rw [findRow_at1 (by rw [Rw_getD h1]; decide)]
        show (cleanL [Rw n Jf, Rw n (Df 0)] 1 1, 1 + 1) = _
        rw [cleanL1, Rw_getD h1, if_neg (by decide), combL_Rw h1, shrinkL_unit (e := 1) (.inl rfl) (by intro j hj; by_cases e : j = 0 <;> simp [Jf, Df, e])]
        congr 2
        exact Rw_congr fun j hj => by by_cases e : j = 0 <;> simp [Jf, Ef, Df, e]
      have := redTo_stay e3 (k - 2) fun c h3 h4 => findRow_two
      rwa [show 2 + (k - 2) = k by omega] at this
/-- J twice. -/
theorem redC {n : Nat} (h : 0 < n) (k : Nat) (hk : k ≤ n) : redTo [Rw n Jf, Rw n Jf] k = if k = 0 then ([Rw n Jf, Rw n Jf], 0) else ([Rw n Jf, Rw n fun _ => 0], 1) := by
  have e1 : redTo [Rw n Jf, Rw n Jf] 1 = ([Rw n Jf, Rw n fun _ => 0], 1) := by
    rw [redTo_succ]
    show redStep ([Rw n Jf, Rw n Jf], 0) 0 = _
    unfold redStep
    simp only
    rw [findRow_at0 (by rw [Rw_getD h]; decide)]
    show (cleanL [Rw n Jf, Rw n Jf] 0 0, 0 + 1) = _
    rw [cleanL0, Rw_getD h, if_neg (by decide), combL_Rw h, shrinkL_unit (e := 1) (.inl rfl) (by intro j hj; simp [Jf])]
    congr 3
  by_cases k0 : k = 0
  · rw [if_pos k0, k0]; rfl
  · rw [if_neg k0]
    have := redTo_stay e1 (k - 1) fun c h3 h4 => findRow_one (by rw [Rw_getD (by omega)])
    rwa [show 1 + (k - 1) = k by omega] at this
theorem bd_Rw {n : Nat} {f : Nat → Int} (h : ∀ j, f j = 0 ∨ f j = 1) : Bd 16777216 (Rw n f) := by
  intro x hx
  obtain ⟨j, _, rfl⟩ := mem_Rw.1 hx
  rcases h j with e | e <;> rw [e] <;> decide
theorem bd_two {p q : List Int} (h1 : Bd 16777216 p) (h2 : Bd 16777216 q) : ∀ r ∈ [p, q], Bd 16777216 r := by
  intro r hr
  rcases List.mem_cons.1 hr with rfl | hr
  · exact h1
  · rw [List.mem_singleton.1 hr]; exact h2
theorem bdE (n i : Nat) : Bd 16777216 (Rw n (Ef i)) := bd_Rw fun j => by by_cases e : j = i <;> simp [Ef, e]
theorem bdD (n i : Nat) : Bd 16777216 (Rw n (Df i)) := bd_Rw fun j => by by_cases e : j = i <;> simp [Df, e]
theorem bdJ (n : Nat) : Bd 16777216 (Rw n Jf) := bd_Rw fun _ => .inr rfl
theorem bd0 (n : Nat) : Bd 16777216 (Rw n fun _ => 0) := bd_Rw fun _ => .inl rfl
theorem bdA {n i : Nat} (h1 : 0 < i) (h2 : i < n) (k : Nat) : ∀ r ∈ (redTo [Rw n Jf, Rw n (Df i)] k).1, Bd 16777216 r := by
  rw [redA h1 h2]
  split
  · exact bd_two (bdJ n) (bdD n i)
  · split
    · exact bd_two (bdJ n) (bdE n i)
    · split <;> exact bd_two (bdD n i) (bdE n i)
theorem bdB {n : Nat} (h : 0 < n) (k : Nat) (hk : k ≤ n) : ∀ r ∈ (redTo [Rw n Jf, Rw n (Df 0)] k).1, Bd 16777216 r := by
  rw [redB h k hk]
  split
  · exact bd_two (bdJ n) (bdD n 0)
  · split
    · exact bd_two (bdJ n) (bdD n 0)
    · exact bd_two (bdE n 0) (bdD n 0)
theorem bdC {n : Nat} (h : 0 < n) (k : Nat) (hk : k ≤ n) : ∀ r ∈ (redTo [Rw n Jf, Rw n Jf] k).1, Bd 16777216 r := by
  rw [redC h k hk]
  split
  · exact bd_two (bdJ n) (bdJ n)
  · exact bd_two (bdJ n) (bd0 n)
end Go.Proofs.Ytpchodnknkdlgaa
