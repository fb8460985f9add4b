import Derived.Test.YtokknppnnddihaaOvF
import Derived.Test.YtokknppnnddihaaOvG
namespace Go.Proofs.Ytokknppnnddihaa
open Go.RowKit

theorem recAt_new (w : World) (c : Nat) (χ : Col) (hc : χ w.heap.size = c) : RecAt c χ (w.alloc (.cells #[.slice none 0 0] 27)) w.heap.size [] :=
  ⟨.slice none 0 0, [], hc, by simp, by simp, World.ownsRow_nil _ _ _ _, fun b e => (by cases e), fun i hi => by simp at hi⟩

/-- What holds of a record through a law: its sets; nothing that lay when the law was called has turned. -/
def RInv (w : World) (χ : Col) (sets : List (List Int)) (W : World) : Prop :=
  RecAt 1 χ W w.heap.size sets ∧ Below w.heap.size w W ∧ ∀ b, b < w.heap.size → ¬ χ b = 1
theorem RInv.step {w : World} {χ : Col} {sets : List (List Int)} {W W2 : World} (h : RInv w χ sets W) (hb : Below W.heap.size W W2) : RInv w χ sets W2 :=
  ⟨h.1.keep (Same.below' hb), h.2.1.trans (hb.mono h.2.1.size), h.2.2⟩
theorem RInv.add {w : World} {χ : Col} {sets sets' : List (List Int)} {W W2 : World} (h : RInv w χ sets W)
    (hb : ∃ χ', (∀ b, b < W.heap.size → χ' b = χ b) ∧ RecAt 1 χ' W2 w.heap.size sets' ∧ Chg χ (· = 1) W W2) : ∃ χ', RInv w χ' sets' W2 := by
  obtain ⟨χ', h1, h2, h3⟩ := hb
  have hs := h.2.1.size
  exact ⟨χ', h2, h.2.1.trans (h3.below (C := (· = 1)) h.2.2 hs), fun b hb => by rw [h1 b (by omega)]; exact h.2.2 b hb⟩
theorem rinv_new (w : World) : RInv w (fun b => if b < w.heap.size then 0 else 1) [] (w.alloc (.cells #[.slice none 0 0] 27)) :=
  ⟨recAt_new w 1 _ (by simp), (Below.refl _ _).alloc (Nat.le_refl _) _, fun b hb => by simp [hb]⟩

set_option maxHeartbeats 4000000 in
theorem alive_calls (w : World) : Calls Try.prog 8 #[] w fun e w' => e = .returned (.bool true) ∧ Below w.heap.size w w' := by
  have hI := rinv_new w
  generalize (fun b => if b < w.heap.size then 0 else 1 : Col) = χ at hI
  have m1 : Hid (sharedM [1, 2, 3] [2, 3, 4] = 2) := by show _ = _; simp [sharedM, rightM, mergeN]
  have m2 : Hid (mostM [2, 3, 4] [[1, 2, 3]] = 2) := by show _ = _; simp [mostM, sharedM, rightM, mergeN]; rfl
  have r1 : Hid (rightM 0 [1, 2, 3] = true) := rfl
  have r2 : Hid (rightM 0 [2, 2] = false) := rfl
  have r3 : Hid (rightM 0 [1, 5] = true) := rfl
  have r4 : Hid (rightM 0 [0] = false) := rfl
  go_enter Try.func8, Try.ntmps8
  go_wp2_with fail
  refine (shared_calls _ _ _ [1, 2, 3] [2, 3, 4] ((isI_lit [1, 2, 3] (by simp) rfl (by simp)).alloc _) (isI_lit [2, 3, 4] (by simp) rfl (by simp))).mono ?_
  rintro e W1 ⟨rfl, hq⟩
  rw [m1.out]
  have I1 := hI.step (below_lit (below_lit (quiet_below hq)))
  clear hq hI
  go_wp2_with fail
  refine (add_yes _ _ _ [1, 2, 3] (I1.step ((Below.refl _ _).alloc (Nat.le_refl _) _)).1 (isI_lit [1, 2, 3] rfl rfl (by simp)) (by simp) (by simp) r1).mono ?_
  rintro e W2 ⟨rfl, hq⟩
  obtain ⟨χ2, I2⟩ := (I1.step ((Below.refl _ _).alloc (Nat.le_refl _) _)).add hq
  clear hq I1
  go_wp2_with fail
  refine (add_no _ _ _ [2, 2] (isI_lit [2, 2] rfl rfl (by simp)) r2).mono ?_
  rintro e W3 ⟨rfl, hq⟩
  have I3 := I2.step (below_lit (same_below hq))
  clear hq I2
  go_wp2_with fail
  refine (most_calls _ _ _ [2, 3, 4] (I3.step ((Below.refl _ _).alloc (Nat.le_refl _) _)).1 (isI_lit [2, 3, 4] rfl rfl (by simp)) (by simp)).mono ?_
  rintro e W4 ⟨rfl, hq⟩
  have I4 := I3.step (below_lit (quiet_below hq))
  clear hq I3
  rw [show ([] ++ [[1, 2, 3]] : List (List Int)) = [[1, 2, 3]] from rfl] at I4 ⊢
  rw [m2.out]
  go_wp2_with fail
  refine (test_calls _ _ _ [2, 3, 4] 2 (I4.step ((Below.refl _ _).alloc (Nat.le_refl _) _)).1 (isI_lit [2, 3, 4] rfl rfl (by simp)) (by simp)).mono ?_
  rintro e W5 ⟨rfl, hq⟩
  have I5 := I4.step (below_lit (quiet_below hq))
  clear hq I4
  rw [m2.out]
  go_wp2_with fail
  refine (test_calls _ _ _ [2, 3, 4] 1 (I5.step ((Below.refl _ _).alloc (Nat.le_refl _) _)).1 (isI_lit [2, 3, 4] rfl rfl (by simp)) (by simp)).mono ?_
  rintro e W6 ⟨rfl, hq⟩
  have I6 := I5.step (below_lit (quiet_below hq))
  clear hq I5
  rw [m2.out]
  go_wp2_with fail
  refine (len_calls _ _ I6.1 (by simp)).mono ?_
  rintro e W7 ⟨rfl, rfl⟩
  go_wp2_with fail
  refine (right_calls _ _ [1, 5] (isI_lit [1, 5] rfl rfl (by simp))).mono ?_
  rintro e W8 ⟨rfl, hq⟩
  have I8 := I6.step (below_lit (same_below hq))
  clear hq I6
  rw [r3.out]
  go_wp2_with fail
  refine (right_calls _ _ [0] (isI_lit [0] rfl rfl (by simp))).mono ?_
  rintro e W9 ⟨rfl, hq⟩
  have I9 := I8.step (below_lit (same_below hq))
  clear hq I8
  rw [r4.out]
  go_wp2_with fail
  refine (allf_calls _ _ 9 (cO := 0) (cI := 1) I9.1 (by simp) (by simp) (by omega)).mono ?_
  rintro e W10 ⟨v, χ10, rfl, h1, h2, h3⟩
  obtain ⟨A, cap, rfl⟩ := h2.isII
  have I10 := I9.step h3
  go_wp2
  go_ret
  exact ⟨rfl, I10.2.1⟩
end Go.Proofs.Ytokknppnnddihaa
