import Derived.Test.YtpchodnknkdlgaaInAI
namespace Go.Proofs.Ytpchodnknkdlgaa
open Go.RowKit
attribute [local go_sem] World.cell?_alloc_some

theorem exp1 (W : World) (v : Value) (h : IsII 0 0 (fun _ => 0) W v [[1, 2, 3], [2, 3]]) : Calls Try.prog 8 #[v] W fun e W' => e = .returned (.tuple #[.int .i64 1, .bool true]) ∧ Below W.heap.size W W' := by
  have := exposed_calls W v _ h (by simp) (by simp) (by decide) (by rw [names1, mat1]; exact bd1)
  rwa [exposed1] at this
theorem exp2 (W : World) (v : Value) (h : IsII 0 0 (fun _ => 0) W v [[1, 2, 3], [3, 4, 5]]) : Calls Try.prog 8 #[v] W fun e W' => e = .returned (.tuple #[.int .i64 0, .bool false]) ∧ Below W.heap.size W W' := by
  have := exposed_calls W v _ h (by simp) (by simp) (by decide) (by rw [names2, mat2]; exact bd2)
  rwa [exposed2] at this
theorem below_lit3 {W W2 : World} {o o2 o3 : Obj} (h : Below (((W.alloc o).alloc o2).alloc o3).heap.size (((W.alloc o).alloc o2).alloc o3) W2) : Below W.heap.size W W2 := below_lit (below_lit (below_lit h))
set_option maxRecDepth 100000 in
set_option maxHeartbeats 4000000 in
theorem alive_calls (w : World) : Calls Try.prog 6 #[] w fun e w' => e = .returned (.bool true) ∧ Below w.heap.size w w' := by
  have c1 : Hid (checkM 2 1 2 = 43) := by show _ = _; decide
  have c2 : Hid (checkM 3 1 2 = 0) := by show _ = _; decide
  have a1 : Hid (askM 3 1 2 [] [1, 2, 3] 9 = 0) := by show _ = _; simp [askM, rightM, mostM]
  have a2 : Hid (askM 3 1 2 [[1, 2, 3]] [1, 2] 9 = 34) := by show _ = _; simp [askM, rightM]
  have m1 : mostM [1, 2, 4] [[1, 2, 3]] = 2 := by simp [mostM, sharedM, rightM, mergeN]; rfl
  have m2 : mostM [3, 4, 5] [[1, 2, 3]] = 1 := by simp [mostM, sharedM, rightM, mergeN]; rfl
  have a3 : Hid (askM 3 1 2 [[1, 2, 3]] [1, 2, 4] 9 = 35) := by show _ = _; unfold askM; rw [m1]; simp [rightM]
  have a4 : Hid (askM 3 1 2 [[1, 2, 3]] [3, 4, 5] 9 = 0) := by show _ = _; unfold askM; rw [m2]; simp [rightM]
  have a5 : Hid (askM 3 1 2 [[1, 2, 3], [3, 4, 5]] [6, 7, 8] 9 = 33) := by show _ = _; simp [askM, rightM]
  clear m1 m2
  go_enter Try.func6, Try.ntmps6
  go_wp2_with fail
  refine (exp1 _ _ (isII_lit2 ((isI_lit [1, 2, 3] (by simp) rfl (by simp)).alloc _) (isI_lit [2, 3] (by simp) rfl (by simp)) (by simp))).mono ?_
  rintro e W1 ⟨rfl, hq⟩
  have B1 : Below w.heap.size w W1 := below_lit3 hq
  clear hq
  go_wp2_with fail
  refine (exp2 _ _ (isII_lit2 ((isI_lit [1, 2, 3] (by simp) rfl (by simp)).alloc _) (isI_lit [3, 4, 5] (by simp) rfl (by simp)) (by simp))).mono ?_
  rintro e W2 ⟨rfl, hq⟩
  have B2 := B1.trans ((below_lit3 hq).mono B1.size)
  clear hq B1
  go_wp2_with fail
  refine (check_calls W2 2 1 2).mono ?_
  rintro e W3 ⟨rfl, rfl⟩
  rw [c1.out]
  go_wp2_with fail
  refine (new_yes W3 3 1 2 c2).mono ?_
  rintro e W4 ⟨rfl, rfl⟩
  obtain ⟨χ, hI⟩ := ci_new B2 3 1 2
  obtain ⟨W5, hW5⟩ : ∃ W5, W5 = W3.alloc (.cells #[.int .i64 3, .int .i64 1, .int .i64 2, .slice none 0 0] 53) := ⟨_, rfl⟩
  rw [← hW5] at hI ⊢
  clear hW5 B2
  obtain ⟨pb, hpb⟩ : ∃ pb, pb = W3.heap.size := ⟨_, rfl⟩
  rw [← hpb] at hI ⊢
  clear hpb
  go_wp2_with fail
  have I0 := hI.step ((Below.refl _ _).alloc (Nat.le_refl _) (.cells #[.int .i64 1, .int .i64 2, .int .i64 3] 3))
  refine (ask_yes _ pb _ [1, 2, 3] 9 I0.1 (by simp) (by omega) (by omega) (isI_lit [1, 2, 3] rfl rfl (by simp)) (by simp) (by omega) a1.out).mono ?_
  rintro e W6 ⟨rfl, hq⟩
  obtain ⟨χ2, -, -, I1⟩ := I0.ask (by omega) hq
  clear hq I0 hI
  rw [show ([] ++ [[1, 2, 3]] : List (List Int)) = [[1, 2, 3]] from rfl] at I1
  go_wp2_with fail
  refine (ask_no _ pb _ [1, 2] 9 (I1.step ((Below.refl _ _).alloc (Nat.le_refl _) _)).1 (by simp) (by omega) (by omega) (isI_lit [1, 2] rfl rfl (by simp)) (by omega) (by rw [a2.out]; omega)).mono ?_
  rintro e W7 ⟨rfl, hq⟩
  have I2 := I1.step (below_lit (quiet_below hq))
  rw [a2.out]
  clear hq I1
  go_wp2_with fail
  refine (ask_no _ pb _ [1, 2, 4] 9 (I2.step ((Below.refl _ _).alloc (Nat.le_refl _) _)).1 (by simp) (by omega) (by omega) (isI_lit [1, 2, 4] rfl rfl (by simp)) (by omega) (by rw [a3.out]; omega)).mono ?_
  rintro e W8 ⟨rfl, hq⟩
  have I3 := I2.step (below_lit (quiet_below hq))
  rw [a3.out]
  clear hq I2
  go_wp2_with fail
  have I4 := I3.step ((Below.refl _ _).alloc (Nat.le_refl _) (.cells #[.int .i64 3, .int .i64 4, .int .i64 5] 3))
  refine (ask_yes _ pb _ [3, 4, 5] 9 I4.1 (by simp) (by omega) (by omega) (isI_lit [3, 4, 5] rfl rfl (by simp)) (by simp) (by omega) a4.out).mono ?_
  rintro e W9 ⟨rfl, hq⟩
  obtain ⟨χ5, -, -, I5⟩ := I4.ask (by omega) hq
  clear hq I4 I3
  rw [show ([[1, 2, 3]] ++ [[3, 4, 5]] : List (List Int)) = [[1, 2, 3], [3, 4, 5]] from rfl] at I5
  go_wp2_with fail
  refine (ask_no _ pb _ [6, 7, 8] 9 (I5.step ((Below.refl _ _).alloc (Nat.le_refl _) _)).1 (by simp) (by omega) (by omega) (isI_lit [6, 7, 8] rfl rfl (by simp)) (by omega) (by rw [a5.out]; omega)).mono ?_
  rintro e W10 ⟨rfl, hq⟩
  have I6 := I5.step (below_lit (quiet_below hq))
  rw [a5.out]
  clear hq I5
  go_wp2_with fail
  refine (left_calls _ pb I6.1 (by simp) (by omega)).mono ?_
  rintro e W11 ⟨rfl, hq⟩
  have I7 := I6.step (quiet_below hq)
  rw [show ((2 : Int) - ([[1, 2, 3], [3, 4, 5]] : List (List Int)).length) = 0 from rfl]
  clear hq I6
  go_wp2_with fail
  refine (told_calls _ pb 9 (cO := 5) (cI := 6) I7.1.1 (by simp) (by simp) (by omega)).mono ?_
  rintro e W12 ⟨v, χ10, rfl, h1, h2, h3⟩
  obtain ⟨A, cap, rfl⟩ := h2.isII
  have I8 := I7.step h3
  rw [show ((([[1, 2, 3], [3, 4, 5]] : List (List Int)).take (9 : Int).toNat).length) = 2 from rfl]
  clear h1 h2 h3 I7
  go_wp2_with fail
  refine (check_calls W12 3 1 2).mono ?_
  rintro e W13 ⟨rfl, rfl⟩
  rw [c2.out]
  go_wp2
  go_ret
  exact ⟨rfl, I8.2.1⟩
end Go.Proofs.Ytpchodnknkdlgaa
