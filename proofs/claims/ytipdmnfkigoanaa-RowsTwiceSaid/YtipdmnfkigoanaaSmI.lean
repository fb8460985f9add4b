import Derived.Test.YtipdmnfkigoanaaBase
namespace Go.Proofs.Ytipdmnfkigoanaa
open Go.RowKit

/-! Numbers: is one in a row, are two rows the same. -/
set_option maxHeartbeats 1000000 in
theorem in_calls (w : World) (v : Value) (n : Int) (xs : List Int) {χ : Col} {cl : Nat} (h : IsI cl χ w v xs) :
    Calls Try.prog 26 #[v, .int .i64 n] w fun e w' => e = .returned (.bool (decide (n ∈ xs))) ∧ w' = w := by
  obtain ⟨A, c, rfl, h1, h2, h3, -⟩ := id h
  unfold maxLen at h2
  obtain ⟨r, hr⟩ : ∃ r, r = decide (n ∈ xs) := ⟨_, rfl⟩
  rw [← hr]
  have HR := Lib.hid hr; clear hr
  go_enter Try.func26, Try.ntmps26
  go_wp2
  go_loop [5] (fun i => ∃ k : Nat, k ≤ xs.length ∧ i = .int .i64 k ∧ Hid (r = decide (n ∈ xs.drop k))) (fun i => xs.length - (intOf i).toNat)
  case atStart => exact ⟨0, by omega, rfl, HR⟩
  case round =>
    obtain ⟨k, hk, rfl, hm⟩ := hrel
    by_cases hlt : k < xs.length
    · obtain ⟨b, o, rfl, hcell⟩ := h.getI k hlt
      have hm2 : Hid (r = decide (n = xs[k] ∨ n ∈ xs.drop (k + 1))) := by
        show _ = _; rw [hm.out, List.drop_eq_getElem_cons hlt]; exact decide_eq_decide.2 List.mem_cons
      by_cases hx : (xs[k] == n) = true
      · have hr : Hid (r = true) := by show _ = _; rw [hm2.out]; simp at hx; simp [hx]
        go_wp2
        go_ret
        exact ⟨ret_bool hr.out.symm, rfl⟩
      · have hx := Bool.eq_false_iff.2 hx
        have hm' : Hid (r = decide (n ∈ xs.drop (k + 1))) := by
          show _ = _; rw [hm2.out]; simp at hx; simp [Ne.symm hx]
        go_wp2
        go_round
        case rel => exact ⟨k+1, hlt, by go_num, hm'⟩
        case measure => simp [intOf]; omega
    · have hr : Hid (r = false) := by show _ = _; rw [hm.out, List.drop_eq_nil_of_le (by omega)]; simp
      go_wp2
      go_ret
      exact ⟨ret_bool hr.out.symm, rfl⟩

set_option maxHeartbeats 1000000 in
theorem sameInts_calls (w : World) (v u : Value) (a b : List Int) {χ χ2 : Col} {ca cb : Nat} (ha : IsI ca χ w v a) (hb : IsI cb χ2 w u b) :
    Calls Try.prog 21 #[v, u] w fun e w' => e = .returned (.bool (decide (a = b))) ∧ ∃ d, w' = w.drewN d := by
  obtain ⟨A, c, rfl, a1, a2, a3, -⟩ := id ha
  obtain ⟨B, d, rfl, b1, b2, b3, -⟩ := id hb
  unfold maxLen at a2 b2
  obtain ⟨r, hr⟩ : ∃ r, r = decide (a = b) := ⟨_, rfl⟩
  rw [← hr]
  have HR := Lib.hid hr; clear hr
  by_cases hl : ((a.length : Int) == (b.length : Int)) = true
  · have hle : Hid (a.length = b.length) := by show _ = _; have := beq_iff_eq.1 hl; omega
    have hl' : ((a.length : Int) != (b.length : Int)) = false := by simpa using hl
    clear hl
    have hle1 : a.length ≤ b.length := by rw [hle.out]; exact Nat.le_refl _
    go_enter Try.func21, Try.ntmps21
    go_wp2
    go_loopw [5] (fun i wr => ∃ k : Nat, k ≤ a.length ∧ i = .int .i64 k ∧ Hid (r = decide (a.drop k = b.drop k)) ∧ ∃ d, wr = w.drewN d) (fun i _ => a.length - (intOf i).toNat)
    case atStart => exact ⟨0, by omega, rfl, HR, 0, rfl⟩
    case round =>
      obtain ⟨k, hk, rfl, hm, d, rfl⟩ := hrel
      by_cases hlt : k < a.length
      · obtain ⟨b1', o1, rfl, hc1⟩ := ha.getI k hlt
        obtain ⟨b2', o2, rfl, hc2⟩ := hb.getI k (by omega)
        have hm2 : Hid (r = decide (a[k] = b[k] ∧ a.drop (k + 1) = b.drop (k + 1))) := by
          show _ = _; rw [hm.out, List.drop_eq_getElem_cons hlt, List.drop_eq_getElem_cons (show k < b.length by omega)]; exact decide_eq_decide.2 (by rw [List.cons.injEq])
        have i1 : (k : Int) < (b.length : Int) := by omega
        by_cases hx : (a[k] != b[k]) = true
        · have hr : Hid (r = false) := by show _ = _; rw [hm2.out]; simp at hx; simp [hx]
          go_wp2
          go_quiet (fail)
          go_wp2
          go_ret
          exact ⟨ret_bool hr.out.symm, drewN_ex _ _ _⟩
        · have hx := Bool.eq_false_iff.2 hx
          have hm' : Hid (r = decide (a.drop (k + 1) = b.drop (k + 1))) := by
            show _ = _; rw [hm2.out]; simp at hx; simp [hx]
          go_wp2
          go_quiet (fail)
          go_wp2
          go_roundw
          case rel => exact ⟨k+1, hlt, by go_num, hm', _, rfl⟩
          case measure => simp [intOf]; omega
      · have hr : Hid (r = true) := by show _ = _; rw [hm.out, List.drop_eq_nil_of_le (by omega), List.drop_eq_nil_of_le (by have := hle.out; omega)]; simp
        go_wp2
        go_ret
        exact ⟨ret_bool hr.out.symm, _, rfl⟩
  · have hl' : ((a.length : Int) != (b.length : Int)) = true := by simpa using hl
    have hr : Hid (r = false) := by
      show _ = _; rw [HR.out]; simp only [decide_eq_false_iff_not]; intro e; exact hl (by rw [e]; simp)
    clear hl
    go_enter Try.func21, Try.ntmps21
    go_wp2
    go_ret
    exact ⟨ret_bool hr.out.symm, 0, rfl⟩

theorem sameInts_self (w : World) (v u : Value) (a : List Int) {χ χ2 : Col} {ca cb : Nat} (ha : IsI ca χ w v a) (hb : IsI cb χ2 w u a) :
    Calls Try.prog 21 #[v, u] w fun e w' => e = .returned (.bool true) ∧ ∃ d, w' = w.drewN d := by
  have := sameInts_calls w v u a a ha hb
  rwa [decide_eq_true rfl] at this

end Go.Proofs.Ytipdmnfkigoanaa
