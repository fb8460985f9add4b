import Derived.Test.YtlaohilchcjffaaInAJ
namespace Go.Proofs.Ytlaohilchcjffaa
open Go.RowKit
attribute [local go_sem] World.cell?_alloc_some
theorem checkM_of {k r b : Int} (h1 : 1 ≤ k) (h2 : k ≤ 4096) (h3 : 0 ≤ r) (h4 : r ≤ 4096) (h5 : 0 ≤ b) (h6 : b ≤ 4096) (h7 : (b - 1) * r < k - 1) : checkM k r b = 0 := by
  unfold checkM; rw [if_neg (by omega)]
theorem checkM_no {k r b : Int} (h7 : k - 1 ≤ (b - 1) * r) : checkM k r b = 43 := by
  unfold checkM; rw [if_pos (by omega)]
set_option maxRecDepth 100000 in
set_option maxHeartbeats 4000000 in
theorem checks_law (w : World) (k r b : Int) (_ : (Lit.int .i64 k).wf = true) (_ : (Lit.int .i64 r).wf = true) (_ : (Lit.int .i64 b).wf = true) : Calls Try.prog 5 #[.int .i64 k, .int .i64 r, .int .i64 b] w fun e w' => e = .returned (.bool true) ∧ Below w.heap.size w w' := by
  go_enter Try.func5, Try.ntmps5
  go_wp2_with fail
  refine (alive_calls _).mono ?_
  rintro e W1 ⟨rfl, B1⟩
  go_wp2_with fail
  refine (check_calls W1 k r b).mono ?_
  rintro e W2 ⟨rfl, rfl⟩
  rcases checkM_or k r b with h | h
  · have HC := Lib.hid h
    rw [h]
    obtain ⟨k1, k2, r1, r2, b1, b2, hlt⟩ := checkM_ok h
    clear h
    have e1 : Hid (k ≠ 4096 → ∀ W, Calls Try.prog 11 #[.int .i64 (k + 1), .int .i64 r, .int .i64 b] W fun e w' => e = .returned (.int .i64 0) ∧ w' = W) := fun h W => by
      have := check_calls W (k + 1) r b
      rwa [checkM_of (by omega) (by omega) r1 r2 b1 b2 (by omega)] at this
    have e2 : Hid (r ≠ 0 → b ≠ 0 → ∀ W, Calls Try.prog 11 #[.int .i64 k, .int .i64 (r - 1), .int .i64 b] W fun e w' => e = .returned (.int .i64 0) ∧ w' = W) := fun h h2 W => by
      have := check_calls W k (r - 1) b
      have hm : (b - 1) * (r - 1) = (b - 1) * r - (b - 1) := by rw [Int.mul_sub, Int.mul_one]
      rwa [checkM_of k1 k2 (by omega) (by omega) b1 b2 (by omega)] at this
    have e3 : Hid (1 < b → ∀ W, Calls Try.prog 11 #[.int .i64 k, .int .i64 r, .int .i64 (b - 1)] W fun e w' => e = .returned (.int .i64 0) ∧ w' = W) := fun h W => by
      have := check_calls W k r (b - 1)
      have hm : (b - 1 - 1) * r = (b - 1) * r - r := by rw [Int.sub_mul (b - 1) 1 r, Int.one_mul]
      rwa [checkM_of k1 k2 r1 r2 (by omega) (by omega) (by omega)] at this
    have hp : b ≠ 0 → 0 ≤ (b - 1) * r := fun h => Int.mul_nonneg (by omega) r1
    have e4 : Hid (b ≠ 0 → ∀ W, Calls Try.prog 11 #[.int .i64 1, .int .i64 r, .int .i64 b] W fun e w' => e = .returned (.int .i64 43) ∧ w' = W) := fun h W => by
      have := check_calls W 1 r b
      rwa [checkM_no (by have := hp h; omega)] at this
    have hk2 : b ≠ 0 → 2 ≤ k := fun h => by have := hp h; omega
    clear hlt hp HC
    by_cases hb0 : b = 0
    · subst hb0
      by_cases hr0 : r = 0
      · subst hr0
        by_cases hk4 : k = 4096
        · subst hk4
          go_wp2
          go_ret
          exact ⟨rfl, B1⟩
        · have gk : (k == 4096) = false := by simpa using hk4
          have E1 := Lib.hid (e1.out hk4)
          go_wp2_with fail
          refine (E1.out _).mono ?_
          rintro e w' ⟨rfl, rfl⟩
          go_wp2
          go_ret
          exact ⟨rfl, B1⟩
      · have gr : (r == 0) = false := by simpa using hr0
        by_cases hk4 : k = 4096
        · subst hk4
          go_wp2
          go_ret
          exact ⟨rfl, B1⟩
        · have gk : (k == 4096) = false := by simpa using hk4
          have E1 := Lib.hid (e1.out hk4)
          go_wp2_with fail
          refine (E1.out _).mono ?_
          rintro e w' ⟨rfl, rfl⟩
          go_wp2
          go_ret
          exact ⟨rfl, B1⟩
    · have hk3 := hk2 hb0
      have gb : (b == 0) = false := by simpa using hb0
      have E4 := Lib.hid (e4.out hb0)
      by_cases hr0 : r = 0
      · subst hr0
        by_cases hbb : b ≤ 1
        · by_cases hk4 : k = 4096
          · subst hk4
            go_wp2_with fail
            refine (E4.out _).mono ?_
            rintro e w' ⟨rfl, rfl⟩
            go_wp2
            go_ret
            exact ⟨rfl, B1⟩
          · have gk : (k == 4096) = false := by simpa using hk4
            have E1 := Lib.hid (e1.out hk4)
            go_wp2_with fail
            refine (E1.out _).mono ?_
            rintro e w' ⟨rfl, rfl⟩
            go_wp2_with fail
            refine (E4.out _).mono ?_
            rintro e w' ⟨rfl, rfl⟩
            go_wp2
            go_ret
            exact ⟨rfl, B1⟩
        · have E3 := Lib.hid (e3.out (by omega))
          by_cases hk4 : k = 4096
          · subst hk4
            go_wp2_with fail
            refine (E3.out _).mono ?_
            rintro e w' ⟨rfl, rfl⟩
            go_wp2_with fail
            refine (E4.out _).mono ?_
            rintro e w' ⟨rfl, rfl⟩
            go_wp2
            go_ret
            exact ⟨rfl, B1⟩
          · have gk : (k == 4096) = false := by simpa using hk4
            have E1 := Lib.hid (e1.out hk4)
            go_wp2_with fail
            refine (E1.out _).mono ?_
            rintro e w' ⟨rfl, rfl⟩
            go_wp2_with fail
            refine (E3.out _).mono ?_
            rintro e w' ⟨rfl, rfl⟩
            go_wp2_with fail
            refine (E4.out _).mono ?_
            rintro e w' ⟨rfl, rfl⟩
            go_wp2
            go_ret
            exact ⟨rfl, B1⟩
      · have gr : (r == 0) = false := by simpa using hr0
        have E2 := Lib.hid (e2.out hr0 hb0)
        by_cases hbb : b ≤ 1
        · by_cases hk4 : k = 4096
          · subst hk4
            go_wp2_with fail
            refine (E2.out _).mono ?_
            rintro e w' ⟨rfl, rfl⟩
            go_wp2_with fail
            refine (E4.out _).mono ?_
            rintro e w' ⟨rfl, rfl⟩
            go_wp2
            go_ret
            exact ⟨rfl, B1⟩
          · have gk : (k == 4096) = false := by simpa using hk4
            have E1 := Lib.hid (e1.out hk4)
            go_wp2_with fail
            refine (E1.out _).mono ?_
            rintro e w' ⟨rfl, rfl⟩
            go_wp2_with fail
            refine (E2.out _).mono ?_
            rintro e w' ⟨rfl, rfl⟩
            go_wp2_with fail
            refine (E4.out _).mono ?_
            rintro e w' ⟨rfl, rfl⟩
            go_wp2
            go_ret
            exact ⟨rfl, B1⟩
        · have E3 := Lib.hid (e3.out (by omega))
          by_cases hk4 : k = 4096
          · subst hk4
            go_wp2_with fail
            refine (E2.out _).mono ?_
            rintro e w' ⟨rfl, rfl⟩
            go_wp2_with fail
            refine (E3.out _).mono ?_
            rintro e w' ⟨rfl, rfl⟩
            go_wp2_with fail
            refine (E4.out _).mono ?_
            rintro e w' ⟨rfl, rfl⟩
            go_wp2
            go_ret
            exact ⟨rfl, B1⟩
          · have gk : (k == 4096) = false := by simpa using hk4
            have E1 := Lib.hid (e1.out hk4)
            go_wp2_with fail
            refine (E1.out _).mono ?_
            rintro e w' ⟨rfl, rfl⟩
            go_wp2_with fail
            refine (E2.out _).mono ?_
            rintro e w' ⟨rfl, rfl⟩
            go_wp2_with fail
            refine (E3.out _).mono ?_
            rintro e w' ⟨rfl, rfl⟩
            go_wp2_with fail
            refine (E4.out _).mono ?_
            rintro e w' ⟨rfl, rfl⟩
            go_wp2
            go_ret
            exact ⟨rfl, B1⟩
  · rw [h]
    go_wp2
    go_ret
    exact ⟨rfl, B1⟩
end Go.Proofs.Ytlaohilchcjffaa
