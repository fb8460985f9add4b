import Derived.Test.YtpchodnknkdlgaaInG
namespace Go.Proofs.Ytpchodnknkdlgaa
open Go.RowKit

theorem rightM_pos (l : Int) (xs : List Int) (h : rightM l xs = true) : ∀ x ∈ xs, l < x := by
  induction xs generalizing l with
  | nil => simp
  | cons a xs ih =>
    rw [rightM] at h
    split at h
    · simp at h
    · intro x hx
      rcases List.mem_cons.1 hx with rfl | hx
      · omega
      · have := ih a h x hx; omega

theorem rightM_at (l : Int) (xs : List Int) (h : rightM l xs = true) (i j : Nat) (hij : i < j) (hj : j < xs.length) : xs[i] < xs[j] := by
  induction xs generalizing l i j with
  | nil => simp at hj
  | cons a xs ih =>
    rw [rightM] at h
    split at h
    · simp at h
    · cases j with
      | zero => omega
      | succ j =>
        cases i with
        | zero => simp; exact rightM_pos a xs h _ (List.getElem_mem _)
        | succ i => simp; exact ih a h i j (by omega) (by simpa using hj)

set_option maxHeartbeats 1000000 in
theorem refRight_calls (w : World) (v : Value) (xs : List Int) {χ : Col} {cl : Nat} (h : IsI cl χ w v xs) :
    Calls Try.prog 7 #[v] w fun e w' => e = .returned (.bool (rightM 0 xs)) ∧ ∃ d, w' = w.drewN d := by
  obtain ⟨A, c, rfl, h1, h2, h3, -⟩ := id h
  unfold maxLen at h2
  obtain ⟨r, hr⟩ : ∃ r, r = rightM 0 xs := ⟨_, rfl⟩
  rw [← hr]
  have HR := Lib.hid hr; clear hr
  go_enter Try.func7, Try.ntmps7
  go_wp2
  go_loopw [3] (fun i wr => ∃ (k : Nat) (l : Int), k ≤ xs.length ∧ 0 ≤ l ∧ Hid (r = rightM l (xs.drop k)) ∧ ((k = 0 ∧ l = 0 ∧ i = .int .i64 0) ∨ (0 < k ∧ 1 ≤ l ∧ xs[k - 1]? = some l ∧ i = .int .i64 k)) ∧ ∃ d, wr = w.drewN d) (fun i _ => xs.length - (intOf i).toNat)
  case atStart => exact ⟨0, 0, by omega, by omega, HR, .inl ⟨rfl, rfl, rfl⟩, 0, rfl⟩
  case round =>
    obtain ⟨k, l, hk, hl0, hm, HL, d, rfl⟩ := hrel
    by_cases hlt : k < xs.length
    · obtain ⟨b, o, rfl, hcell⟩ := h.getI k hlt
      have hm2 : Hid (r = if xs[k] ≤ l then false else rightM xs[k] (xs.drop (k + 1))) := by show _ = _; rw [hm.out, rightM_drop _ _ _ hlt]
      rcases HL with ⟨rfl, rfl, rfl⟩ | ⟨hk0, hl1, hle, rfl⟩
      · rw [Nat.add_zero] at hcell
        have i2 : (0 : Int) < (xs.length : Int) := by omega
        by_cases hx : xs[0] < 1
        · have hr : Hid (r = false) := by show _ = _; rw [hm2.out, if_pos (by omega)]
          go_wp2
          go_quiet (fail)
          go_wp2
          go_ret
          exact ⟨ret_bool hr.out.symm, (by first | exact ⟨_, rfl⟩ | exact drewN_ex _ _ _ | exact drew_ex _ _)⟩
        · have hr : Hid (r = rightM xs[0] (xs.drop (0 + 1))) := by show _ = _; rw [hm2.out, if_neg (by omega)]
          have hd : decide (xs[0] < 1) = false := by simpa using hx
          go_wp2
          go_quiet (fail)
          go_wp2
          go_roundw
          case rel => exact ⟨1, xs[0], hlt, by omega, hr, .inr ⟨by omega, by omega, by simp, rfl⟩, (by first | exact ⟨_, rfl⟩ | exact drewN_ex _ _ _ | exact drew_ex _ _)⟩
          case measure => simp [intOf]; omega
      · obtain ⟨j, rfl⟩ : ∃ j, k = j + 1 := ⟨k - 1, by omega⟩
        obtain ⟨hlt2, rfl⟩ := List.getElem?_eq_some_iff.1 hle
        simp only [Nat.add_sub_cancel] at hlt2 hl1 hl0 hm2
        have HLE : Hid (xs[j + 1 - 1]? = some xs[j + 1 - 1]) := hle
        clear hle
        obtain ⟨b', o', e, hcell2⟩ := h.getI j (by omega)
        cases e
        have i1 : (0 : Int) ≤ (j : Int) := by omega
        have i2 : (j : Int) < (xs.length : Int) := by omega
        have i3 : (0 : Int) < ((j + 1 : Nat) : Int) := by omega
        by_cases hx : xs[j + 1] < 1
        · have hr : Hid (r = false) := by show _ = _; rw [hm2.out, if_pos (by omega)]
          go_wp2
          go_quiet (fail)
          go_wp2
          go_ret
          exact ⟨ret_bool hr.out.symm, (by first | exact ⟨_, rfl⟩ | exact drewN_ex _ _ _ | exact drew_ex _ _)⟩
        · have hd : decide (xs[j + 1] < 1) = false := by simpa using hx
          by_cases hy : xs[j + 1] ≤ xs[j]
          · have hr : Hid (r = false) := by show _ = _; rw [hm2.out, if_pos (by omega)]
            go_wp2
            go_quiet (fail)
            go_wp2
            go_ret
            exact ⟨ret_bool hr.out.symm, (by first | exact ⟨_, rfl⟩ | exact drewN_ex _ _ _ | exact drew_ex _ _)⟩
          · have hr : Hid (r = rightM xs[j + 1] (xs.drop (j + 1 + 1))) := by show _ = _; rw [hm2.out, if_neg (by omega)]
            go_wp2
            go_quiet (fail)
            go_wp2
            go_roundw
            case rel => exact ⟨j + 1 + 1, xs[j + 1], hlt, by omega, hr, .inr ⟨by omega, by omega, by simp, by go_num⟩, (by first | exact ⟨_, rfl⟩ | exact drewN_ex _ _ _ | exact drew_ex _ _)⟩
            case measure => simp [intOf]; omega
    · have hr : Hid (r = true) := by show _ = _; rw [hm.out, List.drop_eq_nil_of_le (by omega)]; rfl
      have hkk : k = xs.length := by omega
      rcases HL with ⟨rfl, rfl, rfl⟩ | ⟨hk0, hl1, hle, rfl⟩
      all_goals clear hm
      all_goals have i1 : (xs.length : Int) ≤ 0 ∨ 0 < xs.length := by omega
      all_goals clear hkk
      all_goals go_wp2
      all_goals go_ret
      all_goals exact ⟨ret_bool hr.out.symm, (by first | exact ⟨_, rfl⟩ | exact drewN_ex _ _ _ | exact drew_ex _ _)⟩
end Go.Proofs.Ytpchodnknkdlgaa
