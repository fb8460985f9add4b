import Derived.Test.YtpchodnknkdlgaaInH
namespace Go.Proofs.Ytpchodnknkdlgaa

theorem rightM_mono {l m : Int} {xs : List Int} (h : rightM m xs = true) (hl : l ≤ m) : rightM l xs = true := by
  cases xs with
  | nil => rfl
  | cons x xs =>
    rw [rightM] at h ⊢
    split at h
    · simp at h
    · rw [if_neg (by omega)]; exact h
theorem rightM_cons {l x : Int} {xs : List Int} (h : rightM l (x :: xs) = true) : l < x ∧ rightM x xs = true := by
  rw [rightM] at h
  split at h
  · simp at h
  · exact ⟨by omega, h⟩
theorem rightM_filter {l : Int} {xs : List Int} (p : Int → Bool) (h : rightM l xs = true) : rightM l (xs.filter p) = true := by
  induction xs generalizing l with
  | nil => rfl
  | cons x xs ih =>
    obtain ⟨h1, h2⟩ := rightM_cons h
    rw [List.filter_cons]
    split
    · rw [rightM, if_neg (by omega)]; exact ih h2
    · exact rightM_mono (ih h2) (by omega)

theorem mergeN_comm (x y : List Int) : mergeN x y = mergeN y x := by
  fun_induction mergeN x y with
  | case1 y => cases y <;> simp [mergeN]
  | case2 a x => simp [mergeN]
  | case3 a x b y h ih => rw [ih]; conv => rhs; rw [mergeN, if_neg (by omega), if_pos h]
  | case4 a x b y h1 h2 ih => rw [ih]; conv => rhs; rw [mergeN, if_pos h2]
  | case5 a x b y h1 h2 ih => rw [ih]; conv => rhs; rw [mergeN, if_neg (by omega), if_neg (by omega)]

theorem mergeN_filter {l m : Int} (x y : List Int) (hx : rightM l x = true) (hy : rightM m y = true) : mergeN x y = (x.filter (fun n => decide (n ∈ y))).length := by
  fun_induction mergeN x y generalizing l m with
  | case1 y => simp
  | case2 a x => rw [List.filter_eq_nil_iff.2 (by simp)]; rfl
  | case3 a x b y h ih =>
    have h1 := rightM_cons hx
    have h2 := rightM_cons hy
    rw [ih h1.2 hy, List.filter_cons]
    have : ¬ a ∈ b :: y := by
      intro hm
      rcases List.mem_cons.1 hm with rfl | hm
      · omega
      · have := rightM_pos b y h2.2 a hm; omega
    simp [this]
  | case4 a x b y h1 h2 ih =>
    have g1 := rightM_cons hx
    have g2 := rightM_cons hy
    rw [ih hx g2.2]
    congr 2
    apply List.filter_congr
    intro n hn
    have : n ≠ b := by
      rcases List.mem_cons.1 hn with rfl | hn
      · omega
      · have := rightM_pos a x g1.2 n hn; omega
    simp [this]
  | case5 a x b y h1 h2 ih =>
    have g1 := rightM_cons hx
    have g2 := rightM_cons hy
    have hab : a = b := by omega
    subst hab
    rw [ih g1.2 g2.2, List.filter_cons, if_pos (by simp)]
    have : x.filter (fun n => decide (n ∈ a :: y)) = x.filter (fun n => decide (n ∈ y)) := by
      apply List.filter_congr
      intro n hn
      have := rightM_pos a x g1.2 n hn
      have hne : n ≠ a := by omega
      simp [hne]
    rw [this]; simp; omega

theorem sharedM_filter {x y : List Int} (hx : rightM 0 x = true) (hy : rightM 0 y = true) : sharedM x y = (x.filter (fun n => decide (n ∈ y))).length := by
  unfold sharedM; rw [hx, hy]; exact mergeN_filter x y hx hy
theorem sharedM_comm (x y : List Int) : sharedM x y = sharedM y x := by
  unfold sharedM; rw [Bool.and_comm, mergeN_comm]

theorem filter_len_compl (xs : List Int) (p : Int → Bool) : (xs.filter p).length + (xs.filter (fun x => !p x)).length = xs.length := by
  induction xs with
  | nil => rfl
  | cons x xs ih => simp only [List.filter_cons]; cases p x <;> simp <;> omega

theorem parts_pure {a b : List Int} (ha : rightM 0 a = true) (hb : rightM 0 b = true) :
    sharedM a b = ((a.filter (fun n => decide (n ∈ b))).length : Int) ∧ sharedM a (a.filter (fun n => decide (n ∈ b))) = sharedM a b ∧ sharedM b (a.filter (fun n => decide (n ∈ b))) = sharedM a b ∧
    sharedM (a.filter (fun n => !decide (n ∈ b))) b = 0 ∧ sharedM (a.filter (fun n => !decide (n ∈ b))) (a.filter (fun n => decide (n ∈ b))) = 0 ∧ sharedM a (a.filter (fun n => !decide (n ∈ b))) + sharedM a b = a.length ∧
    rightM 0 (a.filter (fun n => decide (n ∈ b))) = true ∧ rightM 0 (a.filter (fun n => !decide (n ∈ b))) = true := by
  have h1 := rightM_filter (fun n => decide (n ∈ b)) ha
  have h2 := rightM_filter (fun n => !decide (n ∈ b)) ha
  have e0 := sharedM_filter ha hb
  refine ⟨e0, ?_, ?_, ?_, ?_, ?_, h1, h2⟩
  · rw [sharedM_filter ha h1, e0]
    congr 2
    apply List.filter_congr
    intro n hn; simp [hn]
  · rw [sharedM_comm, sharedM_filter h1 hb, e0, List.filter_filter]; simp
  · rw [sharedM_filter h2 hb, List.filter_filter]; simp
  · rw [sharedM_filter h2 h1, List.filter_filter]
    have : a.filter (fun x => decide (x ∈ a.filter (fun n => decide (n ∈ b))) && !decide (x ∈ b)) = [] := by
      rw [List.filter_eq_nil_iff]; intro x hx; simp
    simp only [this]; rfl
  · rw [sharedM_filter ha h2, e0]
    have : a.filter (fun n => decide (n ∈ a.filter (fun n => !decide (n ∈ b)))) = a.filter (fun n => !decide (n ∈ b)) := by
      apply List.filter_congr; intro n hn; simp [hn]
    rw [this]
    have := filter_len_compl a (fun n => decide (n ∈ b))
    omega
end Go.Proofs.Ytpchodnknkdlgaa
