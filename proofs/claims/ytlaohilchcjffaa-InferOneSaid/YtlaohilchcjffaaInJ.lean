import Derived.Test.YtlaohilchcjffaaInI
namespace Go.Proofs.Ytlaohilchcjffaa
open Go.RowKit

set_option maxHeartbeats 2000000 in
theorem refShared_calls (w : World) (v u : Value) (a b : List Int) {χ χ2 : Col} {ca cb : Nat} (ha : IsI ca χ w v a) (hb : IsI cb χ2 w u b) :
    Calls Try.prog 30 #[v, u] w fun e w' => e = .returned (.int .i64 (sharedM a b)) ∧ ∃ d, w' = w.drewN d := by
  obtain ⟨A, c, rfl, a1, a2, a3, -⟩ := id ha
  obtain ⟨B, d, rfl, b1, b2, b3, -⟩ := id hb
  unfold maxLen at a2 b2
  by_cases hr : rightM 0 a = true ∧ rightM 0 b = true
  · have HR := Lib.hid hr.1
    have HR2 := Lib.hid hr.2
    have HS := Lib.hid (sharedM_filter hr.1 hr.2)
    clear hr
    go_enter Try.func30, Try.ntmps30
    go_wp2
    go_loopw [5, 6] (fun n i wr => ∃ k : Nat, k ≤ a.length ∧ i = .int .i64 k ∧ n = .int .i64 ((a.take k).filter (fun n => decide (n ∈ b))).length ∧ ∃ d, wr = w.drewN d) (fun _ i _ => a.length - (intOf i).toNat)
    case atStart => exact ⟨0, by omega, rfl, rfl, 0, rfl⟩
    case round =>
      obtain ⟨k, hk, rfl, rfl, d, rfl⟩ := hrel
      by_cases hlt : k < a.length
      · obtain ⟨gb, go, rfl, hcell⟩ := ha.getI k hlt
        have hfl : ((a.take k).filter (fun n => decide (n ∈ b))).length ≤ k := Nat.le_trans (List.length_filter_le _ _) (by simp; omega)
        have HF : Hid ((a.take (k + 1)).filter (fun n => decide (n ∈ b)) = (a.take k).filter (fun n => decide (n ∈ b)) ++ [a[k]].filter (fun n => decide (n ∈ b))) := by
          show _ = _; rw [List.take_succ_eq_append_getElem hlt, List.filter_append]
        go_wp2_with fail
        refine (refRight_calls _ _ _ (by exact ha)).mono ?_
        rw [HR.out]
        rintro e w2 ⟨rfl, d2, rfl⟩
        go_wp2_with fail
        refine (refRight_calls _ _ _ (by exact hb)).mono ?_
        rw [HR2.out]
        rintro e w3 ⟨rfl, d3, rfl⟩
        by_cases hm : decide (a[k] ∈ b) = true
        · have HM := Lib.hid hm
          clear hm
          go_wp2_with fail
          refine (in_calls _ _ _ _ (by exact hb)).mono ?_
          rw [HM.out]
          rintro e w4 ⟨rfl, rfl⟩
          go_wp2
          go_roundw
          case rel => exact ⟨k + 1, hlt, by go_num, val_int (by rw [HF.out, List.length_append, List.filter_cons, if_pos HM.out]; simp), (by first | exact ⟨_, rfl⟩ | exact drewN_ex _ _ _ | exact drew_ex _ _)⟩
          case measure => simp [intOf]; omega
        · have HM := Lib.hid (Bool.eq_false_iff.2 hm)
          clear hm
          go_wp2_with fail
          refine (in_calls _ _ _ _ (by exact hb)).mono ?_
          rw [HM.out]
          rintro e w4 ⟨rfl, rfl⟩
          go_wp2
          go_roundw
          case rel => exact ⟨k + 1, hlt, by go_num, val_int (by rw [HF.out, List.length_append, List.filter_cons, if_neg (by rw [HM.out]; simp)]; simp), (by first | exact ⟨_, rfl⟩ | exact drewN_ex _ _ _ | exact drew_ex _ _)⟩
          case measure => simp [intOf]; omega
      · have hkk : a.take k = a := List.take_of_length_le (by omega)
        rw [hkk]
        clear hkk
        go_wp2
        go_ret
        exact ⟨ret_int HS.out.symm, (by first | exact ⟨_, rfl⟩ | exact drewN_ex _ _ _ | exact drew_ex _ _)⟩
  · have HS : Hid (sharedM a b = 0) := by
      show _ = _; unfold sharedM; rw [if_neg]; simpa using hr
    by_cases hl : a.length = 0
    · have hl' : a.length ≤ 0 := by omega
      clear hl hr
      go_enter Try.func30, Try.ntmps30
      go_wp2
      refine wp_loop_rounds 1 ?_
      rw [rounds_succ]
      go_wp2
      go_ret
      exact ⟨ret_int HS.out.symm, 0, rfl⟩
    · have hl' : 0 < a.length := by omega
      clear hl
      cases h1 : rightM 0 a with
      | false =>
        have H1 := Lib.hid h1
        clear h1 hr
        go_enter Try.func30, Try.ntmps30
        go_wp2
        refine wp_loop_rounds 1 ?_
        rw [rounds_succ]
        go_wp2_with fail
        refine (refRight_calls _ _ _ (by exact ha)).mono ?_
        rw [H1.out]
        rintro e w2 ⟨rfl, d2, rfl⟩
        go_wp2
        go_ret
        exact ⟨ret_int HS.out.symm, (by first | exact ⟨_, rfl⟩ | exact drewN_ex _ _ _ | exact drew_ex _ _)⟩
      | true =>
        have h2 : rightM 0 b = false := by
          cases h2 : rightM 0 b with
          | false => rfl
          | true => exact absurd ⟨h1, h2⟩ hr
        have H1 := Lib.hid h1
        have H2 := Lib.hid h2
        clear h1 h2 hr
        go_enter Try.func30, Try.ntmps30
        go_wp2
        refine wp_loop_rounds 1 ?_
        rw [rounds_succ]
        go_wp2_with fail
        refine (refRight_calls _ _ _ (by exact ha)).mono ?_
        rw [H1.out]
        rintro e w2 ⟨rfl, d2, rfl⟩
        go_wp2_with fail
        refine (refRight_calls _ _ _ (by exact hb)).mono ?_
        rw [H2.out]
        rintro e w3 ⟨rfl, d3, rfl⟩
        go_wp2
        go_ret
        exact ⟨ret_int HS.out.symm, (by first | exact ⟨_, rfl⟩ | exact drewN_ex _ _ _ | exact drew_ex _ _)⟩

set_option maxHeartbeats 2000000 in
/-- over the rows of a list whose i-th lies as h tells. -/
theorem refMost_calls (w : World) (g cap : Nat) (u : Value) (l : List (List Int)) (a : List Int) {χ2 : Col} {cb : Nat} (hcap : l.length ≤ cap) (hmax : cap ≤ maxLen)
    (hl : ∀ i (hi : i < l.length), ∃ x, w.cell? ⟨g, i, none⟩ = some x ∧ IsI 0 (fun _ => 0) w x l[i]) (ha : IsI cb χ2 w u a) :
    Calls Try.prog 20 #[.slice (some ⟨g, 0, none⟩) l.length cap, u] w fun e w' => e = .returned (.int .i64 (mostM a l)) ∧ ∃ d, w' = w.drewN d := by
  obtain ⟨B, d, rfl, b1, b2, b3, -⟩ := id ha
  unfold maxLen at hmax
  have HL := Lib.hid hl; clear hl
  go_enter Try.func20, Try.ntmps20
  go_wp2
  go_loopw [5, 6] (fun n i wr => ∃ k : Nat, k ≤ l.length ∧ i = .int .i64 k ∧ n = .int .i64 (mostM a (l.take k)) ∧ ∃ d, wr = w.drewN d) (fun _ i _ => l.length - (intOf i).toNat)
  case atStart => exact ⟨0, by omega, rfl, rfl, 0, rfl⟩
  case round =>
    obtain ⟨k, hk, rfl, rfl, d, rfl⟩ := hrel
    by_cases hlt : k < l.length
    · obtain ⟨x, hcell, hx⟩ := HL.out k hlt
      have HM := Lib.hid (mostM_take a l k hlt)
      by_cases hgt : mostM a (l.take k) < sharedM a l[k]
      all_goals go_wp2_with fail
      all_goals refine (refShared_calls _ _ _ _ _ (by exact ha) (by exact hx)).mono ?_
      all_goals rintro e w2 ⟨rfl, d2, rfl⟩
      all_goals go_wp2
      all_goals go_roundw
      all_goals first | exact ⟨k + 1, hlt, by go_num, val_int (by rw [HM.out]; omega), (by first | exact ⟨_, rfl⟩ | exact drewN_ex _ _ _ | exact drew_ex _ _)⟩ | (simp [intOf]; omega)
    · have hkk : l.take k = l := List.take_of_length_le (by omega)
      rw [hkk]
      clear hkk
      go_wp2
      go_ret
      exact ⟨rfl, (by first | exact ⟨_, rfl⟩ | exact drewN_ex _ _ _ | exact drew_ex _ _)⟩
end Go.Proofs.Ytlaohilchcjffaa
