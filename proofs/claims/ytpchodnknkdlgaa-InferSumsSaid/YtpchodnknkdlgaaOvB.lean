import Derived.Test.YtpchodnknkdlgaaOvA
namespace Go.Proofs.Ytpchodnknkdlgaa
open Go.RowKit

def mergeN : List Int → List Int → Int
  | [], _ => 0
  | _ :: _, [] => 0
  | a :: x, b :: y => if a < b then mergeN x (b :: y) else if b < a then mergeN (a :: x) y else 1 + mergeN x y
termination_by x y => x.length + y.length

theorem mergeN_bound (x y : List Int) : 0 ≤ mergeN x y ∧ mergeN x y ≤ x.length := by
  fun_induction mergeN x y <;> simp_all <;> omega

def sharedM (a b : List Int) : Int := if rightM 0 a && rightM 0 b then mergeN a b else 0

set_option maxHeartbeats 400000 in
theorem shared_yes (w : World) (v u : Value) (a b : List Int) {χ χ2 : Col} {ca cb : Nat} (ha : IsI ca χ w v a) (hb : IsI cb χ2 w u b) (HR : Hid (rightM 0 a = true)) (HR2 : Hid (rightM 0 b = true)) :
    Calls Try.prog 14 #[v, u] w fun e w' => e = .returned (.int .i64 (mergeN a b)) ∧ ∃ d, w' = w.drewN d := by
  obtain ⟨A, c, rfl, a1, a2, a3, -⟩ := id ha
  obtain ⟨B, d, rfl, b1, b2, b3, -⟩ := id hb
  unfold maxLen at a2 b2
  go_enter Try.func14, Try.ntmps14
  go_wp2_with fail
  refine (right_calls _ _ _ ha).mono ?_
  rintro e w' ⟨rfl, rfl⟩
  rw [HR.out]
  go_wp2_with fail
  refine (right_calls _ _ _ hb).mono ?_
  rintro e w' ⟨rfl, rfl⟩
  rw [HR2.out]
  go_wp2
  go_loopw [0, 1, 5] (fun s t n wr => ∃ (x y : List Int) (q : Nat), IsI ca χ w' s x ∧ IsI cb χ2 w' t y ∧ n = .int .i64 q ∧ q + x.length ≤ a.length ∧ Hid (q + mergeN x y = mergeN a b) ∧ ∃ d, wr = w'.drewN d)
    (fun s t _ _ => (match s with | .slice _ n _ => n | _ => 0) + (match t with | .slice _ n _ => n | _ => 0))
  case atStart => exact ⟨a, b, 0, ha, hb, rfl, by omega, by show _ = _; omega, 0, rfl⟩
  case round =>
    obtain ⟨x, y, q, hx, hy, rfl, hq, HM, e, rfl⟩ := hrel
    obtain ⟨A', c', rfl, x1, x2, x3, -⟩ := id hx
    obtain ⟨B', d', rfl, y1, y2, y3, -⟩ := id hy
    unfold maxLen at x2 y2
    cases x with
    | nil =>
      go_wp2
      go_ret
      exact ⟨ret_int (by rw [← HM.out]; simp [mergeN]), _, rfl⟩
    | cons x0 x =>
      cases y with
      | nil =>
        go_wp2
        go_ret
        exact ⟨ret_int (by rw [← HM.out]; simp [mergeN]), _, rfl⟩
      | cons y0 y =>
        obtain ⟨p1, o1, rfl, hcx⟩ := hx.getI 0 (by simp)
        obtain ⟨p2, o2, rfl, hcy⟩ := hy.getI 0 (by simp)
        simp only [List.getElem_cons_zero, Nat.add_zero, List.length_cons] at hcx hcy x1 y1 x3 y3 hq
        by_cases h1 : x0 < y0
        · have HM2 : Hid (q + mergeN x (y0 :: y) = mergeN a b) := by show _ = _; rw [← HM.out, mergeN, if_pos h1]
          have hx' := hx.tail
          go_wp2
          go_quiet (fail)
          go_wp2
          go_roundw
          case rel => exact ⟨x, y0 :: y, q, hx', hy, rfl, by omega, HM2, _, rfl⟩
          case measure => simp
        · by_cases h2 : y0 < x0
          · have HM2 : Hid (q + mergeN (x0 :: x) y = mergeN a b) := by show _ = _; rw [← HM.out, mergeN, if_neg h1, if_pos h2]
            have hy' := hy.tail
            go_wp2
            go_quiet (fail)
            go_wp2
            go_quiet (fail)
            go_wp2
            go_roundw
            case rel => exact ⟨x0 :: x, y, q, hx, hy', rfl, by simp; omega, HM2, _, rfl⟩
            case measure => simp
          · have HM2 : Hid ((q + 1 : Nat) + mergeN x y = mergeN a b) := by show _ = _; rw [← HM.out, mergeN, if_neg h1, if_neg h2]; omega
            have hx' := hx.tail
            have hy' := hy.tail
            go_wp2
            go_quiet (fail)
            go_wp2
            go_quiet (fail)
            go_wp2
            go_region
            all_goals go_wp2
            all_goals go_roundw
            case rel => exact ⟨x, y, q + 1, hx', hy', by go_num, by omega, HM2, drew_ex _ _⟩
            case measure => simp; omega

theorem shared_calls (w : World) (v u : Value) (a b : List Int) {χ χ2 : Col} {ca cb : Nat} (ha : IsI ca χ w v a) (hb : IsI cb χ2 w u b) :
    Calls Try.prog 14 #[v, u] w fun e w' => e = .returned (.int .i64 (sharedM a b)) ∧ ∃ d, w' = w.drewN d := by
  unfold sharedM
  by_cases hr : rightM 0 a = true
  · by_cases hr2 : rightM 0 b = true
    · rw [hr, hr2]
      exact shared_yes w v u a b ha hb hr hr2
    · rw [hr, Bool.eq_false_iff.2 hr2]
      have HR : Hid (rightM 0 a = true) := hr
      have HR2 : Hid (rightM 0 b = false) := Bool.eq_false_iff.2 hr2
      clear hr hr2
      go_enter Try.func14, Try.ntmps14
      go_wp2_with fail
      refine (right_calls _ _ _ ha).mono ?_
      rintro e w' ⟨rfl, rfl⟩
      rw [HR.out]
      go_wp2_with fail
      refine (right_calls _ _ _ hb).mono ?_
      rintro e w' ⟨rfl, rfl⟩
      rw [HR2.out]
      go_wp2
      go_ret
      exact ⟨rfl, 0, rfl⟩
  · rw [Bool.eq_false_iff.2 hr]
    have HR : Hid (rightM 0 a = false) := Bool.eq_false_iff.2 hr
    clear hr
    go_enter Try.func14, Try.ntmps14
    go_wp2_with fail
    refine (right_calls _ _ _ ha).mono ?_
    rintro e w' ⟨rfl, rfl⟩
    rw [HR.out]
    go_wp2
    go_ret
    exact ⟨rfl, 0, rfl⟩
end Go.Proofs.Ytpchodnknkdlgaa
