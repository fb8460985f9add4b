import Derived.Test.YtpchodnknkdlgaaInF
import Derived.Test.YtpchodnknkdlgaaCel
namespace Go.Proofs.Ytpchodnknkdlgaa
open Go.RowKit
attribute [local go_sem] World.cell?_alloc_some

/-! A control. -/
def checkM (k r b : Int) : Int := if k < 1 ∨ 4096 < k ∨ r < 0 ∨ 4096 < r ∨ b < 0 ∨ 4096 < b ∨ k - 1 ≤ (b - 1) * r then 43 else 0
theorem check_calls (w : World) (k r b : Int) : Calls Try.prog 16 #[.int .i64 k, .int .i64 r, .int .i64 b] w fun e w' => e = .returned (.int .i64 (checkM k r b)) ∧ w' = w := by
  obtain ⟨q, hq⟩ : ∃ q, q = checkM k r b := ⟨_, rfl⟩
  rw [← hq]
  have HQ := Lib.hid hq
  clear hq
  go_enter Try.func16, Try.ntmps16
  by_cases h1 : k < 1
  · have e : Hid (q = 43) := by show _ = _; rw [HQ.out]; unfold checkM; rw [if_pos (by omega)]
    go_wp2
    go_ret
    exact ⟨ret_int e.out.symm, rfl⟩
  by_cases h2 : 4096 < k
  · have e : Hid (q = 43) := by show _ = _; rw [HQ.out]; unfold checkM; rw [if_pos (by omega)]
    go_wp2
    go_ret
    exact ⟨ret_int e.out.symm, rfl⟩
  by_cases h3 : r < 0
  · have e : Hid (q = 43) := by show _ = _; rw [HQ.out]; unfold checkM; rw [if_pos (by omega)]
    go_wp2
    go_ret
    exact ⟨ret_int e.out.symm, rfl⟩
  by_cases h4 : 4096 < r
  · have e : Hid (q = 43) := by show _ = _; rw [HQ.out]; unfold checkM; rw [if_pos (by omega)]
    go_wp2
    go_ret
    exact ⟨ret_int e.out.symm, rfl⟩
  by_cases h5 : b < 0
  · have e : Hid (q = 43) := by show _ = _; rw [HQ.out]; unfold checkM; rw [if_pos (by omega)]
    go_wp2
    go_ret
    exact ⟨ret_int e.out.symm, rfl⟩
  by_cases h6 : 4096 < b
  · have e : Hid (q = 43) := by show _ = _; rw [HQ.out]; unfold checkM; rw [if_pos (by omega)]
    go_wp2
    go_ret
    exact ⟨ret_int e.out.symm, rfl⟩
  have hm : ((b - 1) * r).natAbs ≤ 4096 * 4096 := by rw [Int.natAbs_mul]; exact Nat.mul_le_mul (by omega) (by omega)
  obtain ⟨p, hp⟩ : ∃ p, p = (b - 1) * r := ⟨_, rfl⟩
  have w1 : wrap64 ((b - 1) * r) = p := by rw [hp]; unfold wrap64; omega
  rw [← hp] at hm
  have HP := Lib.hid hp
  clear hp
  by_cases h7 : k - 1 ≤ p
  · have e : Hid (q = 43) := by show _ = _; rw [HQ.out]; unfold checkM; rw [if_pos (by rw [← HP.out]; omega)]
    go_wp2
    go_ret
    exact ⟨ret_int e.out.symm, rfl⟩
  · have e : Hid (q = 0) := by show _ = _; rw [HQ.out]; unfold checkM; rw [if_neg (by rw [← HP.out]; omega)]
    go_wp2
    go_ret
    exact ⟨ret_int e.out.symm, rfl⟩
theorem checkM_ok {k r b : Int} (h : checkM k r b = 0) : 1 ≤ k ∧ k ≤ 4096 ∧ 0 ≤ r ∧ r ≤ 4096 ∧ 0 ≤ b ∧ b ≤ 4096 ∧ (b - 1) * r < k - 1 := by
  unfold checkM at h
  split at h
  · cases h
  · omega
theorem checkM_or (k r b : Int) : checkM k r b = 0 ∨ checkM k r b = 43 := by
  unfold checkM; split
  · exact .inr rfl
  · exact .inl rfl

/-- A control at block pb. -/
def CtlAt (c : Nat) (χ : Col) (w : World) (pb : Nat) (k r b : Int) (sets : List (List Int)) : Prop :=
  RecAt c χ w pb sets ∧ w.cell? ⟨pb, 0, none⟩ = some (.int .i64 k) ∧ w.cell? ⟨pb, 1, none⟩ = some (.int .i64 r) ∧ w.cell? ⟨pb, 2, none⟩ = some (.int .i64 b)
theorem RecAt.col {c : Nat} {χ : Col} {w : World} {pb : Nat} {sets : List (List Int)} (h : RecAt c χ w pb sets) : χ pb = c ∧ pb < w.heap.size := by
  obtain ⟨rv, vs, h1, h2, -⟩ := h
  exact ⟨h1, by have := World.block_lt_of_cell? w _ h2; simpa using this⟩
theorem CtlAt.keep {c : Nat} {χ χ' : Col} {w w' : World} {pb : Nat} {k r b : Int} {sets : List (List Int)} (h : CtlAt c χ w pb k r b sets) (hs : Same (fun x => x = c ∨ x = c + 1) χ χ' w w') : CtlAt c χ' w' pb k r b sets := by
  obtain ⟨h1, h2, h3, h4⟩ := h
  obtain ⟨c1, c2⟩ := h1.col
  have hp := (hs pb c2 (.inl c1)).2
  exact ⟨h1.keep hs, (World.cell?_of_block hp).trans h2, (World.cell?_of_block hp).trans h3, (World.cell?_of_block hp).trans h4⟩
theorem left_calls (w : World) (pb : Nat) {c : Nat} {χ : Col} {k r b : Int} {sets : List (List Int)} (h : CtlAt c χ w pb k r b sets) (hn : sets.length ≤ 1000000) (hb : 0 ≤ b ∧ b ≤ 4096) :
    Calls Try.prog 17 #[.pointer (some ⟨pb, 0, none⟩)] w fun e w' => e = .returned (.int .i64 (b - sets.length)) ∧ ∃ d, w' = w.drewN d := by
  obtain ⟨h1, -, -, h4⟩ := h
  have HL := Lib.hid (fun W (hW : Below w.heap.size w W) => len_calls W pb (h1.keep (Same.below' hW)) hn)
  clear h1
  go_enter Try.func17, Try.ntmps17
  go_wp2
  go_quiet ((go_at_call 28; exact Calls.quiet_of_same (HL.out _ (below_drewN _ _ _))))
  go_wp2
  go_ret
  exact ⟨ret_int (by omega), _, rfl⟩
theorem new_no (w : World) (k r b : Int) (HR : Hid (checkM k r b = 43)) : Calls Try.prog 11 #[.int .i64 k, .int .i64 r, .int .i64 b] w fun e w' => e = .returned (.tuple #[.pointer none, .int .i64 43]) ∧ w' = w := by
  go_enter Try.func11, Try.ntmps11
  go_wp2_with fail
  refine (check_calls w k r b).mono ?_
  rintro e w1 ⟨rfl, rfl⟩
  rw [HR.out]
  go_wp2
  exact bodyPost_ret (v := .tuple #[.pointer none, .int .i64 43]) (by simp [results, Try.results11, go_sem, *]) rfl ⟨rfl, rfl⟩
theorem new_yes (w : World) (k r b : Int) (HR : Hid (checkM k r b = 0)) : Calls Try.prog 11 #[.int .i64 k, .int .i64 r, .int .i64 b] w fun e w' => e = .returned (.tuple #[.pointer (some ⟨w.heap.size, 0, none⟩), .int .i64 0]) ∧ w' = w.alloc (.cells #[.int .i64 k, .int .i64 r, .int .i64 b, .slice none 0 0] 53) := by
  go_enter Try.func11, Try.ntmps11
  go_wp2_with fail
  refine (check_calls w k r b).mono ?_
  rintro e w1 ⟨rfl, rfl⟩
  rw [HR.out]
  go_wp2
  exact bodyPost_ret (v := .tuple #[.pointer (some ⟨w1.heap.size, 0, none⟩), .int .i64 0]) (by simp [results, Try.results11, go_sem, *]) rfl ⟨rfl, rfl⟩
theorem ctlAt_new (w : World) (c : Nat) (χ : Col) (k r b : Int) (hc : χ w.heap.size = c) : CtlAt c χ (w.alloc (.cells #[.int .i64 k, .int .i64 r, .int .i64 b, .slice none 0 0] 53)) w.heap.size k r b [] := by
  obtain ⟨⟨a0, a1, a2, a3⟩, -, -, -, f3⟩ := cells4 (heap_alloc_at w (.cells #[.int .i64 k, .int .i64 r, .int .i64 b, .slice none 0 0] 53))
  exact ⟨⟨.slice none 0 0, [], hc, a3, f3, World.ownsRow_nil _ _ _ _, fun b e => (by cases e), fun i hi => by simp at hi⟩, a0, a1, a2⟩
/-- What is answered to an asker. -/
def askM (k r b : Int) (sets : List (List Int)) (s : List Int) (live : Int) : Int :=
  if rightM 0 s = false then 21 else if b - sets.length = 0 then 33 else if s.length < k ∨ live < k ∨ live - k < s.length then 34 else if r < mostM s sets then 35 else 0
set_option maxHeartbeats 2000000 in
theorem ask_no (w : World) (pb : Nat) (v : Value) (s : List Int) (live : Int) {c cl : Nat} {χ χa : Col} {k r b : Int} {sets : List (List Int)} (h : CtlAt c χ w pb k r b sets) (hn : sets.length ≤ 1000000) (hb : 0 ≤ b ∧ b ≤ 4096) (hk : 1 ≤ k ∧ k ≤ 4096) (hs : IsI cl χa w v s) (hlv : -9223372036854775808 ≤ live ∧ live ≤ 9223372036854775807)
    (hno : askM k r b sets s live ≠ 0) :
    Calls Try.prog 12 #[.pointer (some ⟨pb, 0, none⟩), v, .int .i64 live] w fun e w' => e = .returned (.int .i64 (askM k r b sets s live)) ∧ ∃ d, w' = w.drewN d := by
  obtain ⟨A, cap, rfl, a1, a2, a3, -⟩ := id hs
  obtain ⟨q, hq⟩ : ∃ q, q = askM k r b sets s live := ⟨_, rfl⟩
  rw [← hq] at hno ⊢
  unfold askM at hq
  have h1 := h.2.1
  have h2 := h.2.2.1
  have HC := Lib.hid h
  have HS := Lib.hid hs
  clear h hs
  unfold maxLen at a2
  go_enter Try.func12, Try.ntmps12
  by_cases hr : rightM 0 s = false
  · rw [if_pos hr] at hq
    subst hq
    have HR := Lib.hid hr
    clear hr
    go_wp2_with fail
    refine (right_calls _ _ _ HS.out).mono ?_
    rintro e w1 ⟨rfl, rfl⟩
    rw [HR.out]
    go_wp2
    go_ret
    exact ⟨rfl, 0, rfl⟩
  · rw [if_neg hr] at hq
    have HR : Hid (rightM 0 s = true) := by show _ = _; simpa using hr
    clear hr
    go_wp2_with fail
    refine (right_calls _ _ _ HS.out).mono ?_
    rintro e w1 ⟨rfl, rfl⟩
    rw [HR.out]
    go_wp2_with fail
    refine (left_calls _ _ HC.out hn hb).mono ?_
    rintro e w2 ⟨rfl, d, rfl⟩
    by_cases h3 : b - sets.length = 0
    · rw [if_pos h3] at hq
      subst hq
      rw [h3]
      go_wp2
      go_ret
      exact ⟨rfl, d, rfl⟩
    · rw [if_neg h3] at hq
      have hx1 : (w1.drewN d).cell? ⟨pb, 0, none⟩ = some (.int .i64 k) := h1
      have hx2 : (w1.drewN d).cell? ⟨pb, 1, none⟩ = some (.int .i64 r) := h2
      have g3 : (b - (sets.length : Int) == 0) = false := by simpa using h3
      by_cases h4 : (s.length : Int) < k
      · rw [if_pos (.inl h4)] at hq
        subst hq
        go_wp2
        go_ret
        exact ⟨rfl, d, rfl⟩
      by_cases h5 : live < k
      · rw [if_pos (.inr (.inl h5))] at hq
        subst hq
        go_wp2
        go_ret
        exact ⟨rfl, d, rfl⟩
      by_cases h6 : live - k < s.length
      · rw [if_pos (.inr (.inr h6))] at hq
        subst hq
        go_wp2
        go_ret
        exact ⟨rfl, d, rfl⟩
      rw [if_neg (by omega)] at hq
      by_cases h7 : r < mostM s sets
      · rw [if_pos h7] at hq
        subst hq
        have HT : Hid (∀ n, Calls Try.prog 25 #[.pointer (some ⟨pb, 3, none⟩), .slice A s.length cap, .int .i64 r] (w1.drewN (d + n)) fun e w'' => e = .returned (.int .i64 35) ∧ ∃ m, w'' = w1.drewN (d + m)) := fun n => by
          refine (test_calls (w1.drewN (d + n)) pb _ s r (HC.out.1.keep (Same.below' (below_drewN _ _ _))) (IsI.keep HS.out (Same.below' (below_drewN _ _ _))) hn).mono ?_
          rintro e w' ⟨rfl, m, rfl⟩
          rw [if_pos h7]
          exact ⟨rfl, n + m, by rw [World.drewN_drewN, Nat.add_assoc]⟩
        clear h7
        go_wp2
        go_quiet ((go_at_call 25; exact HT.out _))
        go_wp2
        go_ret
        exact ⟨rfl, _, rfl⟩
      · rw [if_neg h7] at hq
        exact absurd hq hno
set_option maxHeartbeats 2000000 in
theorem ask_yes (w : World) (pb : Nat) (v : Value) (s : List Int) (live : Int) {c cl : Nat} {χ χa : Col} {k r b : Int} {sets : List (List Int)} (h : CtlAt c χ w pb k r b sets) (hn : sets.length ≤ 1000000) (hb : 0 ≤ b ∧ b ≤ 4096) (hk : 1 ≤ k ∧ k ≤ 4096) (hs : IsI cl χa w v s) (hsl : s.length ≤ 1000000) (hlv : -9223372036854775808 ≤ live ∧ live ≤ 9223372036854775807)
    (hyes : askM k r b sets s live = 0) :
    Calls Try.prog 12 #[.pointer (some ⟨pb, 0, none⟩), v, .int .i64 live] w fun e w' => e = .returned (.int .i64 0) ∧ ∃ χ', (∀ b, b < w.heap.size → χ' b = χ b) ∧ CtlAt c χ' w' pb k r b (sets ++ [s]) ∧ Chg χ (· = c) w w' := by
  obtain ⟨A, cap, rfl, a1, a2, a3, -⟩ := id hs
  unfold askM at hyes
  have h1 := h.2.1
  have h2 := h.2.2.1
  have HC := Lib.hid h
  have HS := Lib.hid hs
  clear h hs
  unfold maxLen at a2
  by_cases hr : rightM 0 s = false
  · rw [if_pos hr] at hyes; cases hyes
  rw [if_neg hr] at hyes
  by_cases h3 : b - sets.length = 0
  · rw [if_pos h3] at hyes; cases hyes
  rw [if_neg h3] at hyes
  by_cases h4 : (s.length : Int) < k ∨ live < k ∨ live - k < s.length
  · rw [if_pos h4] at hyes; cases hyes
  rw [if_neg h4] at hyes
  by_cases h7 : r < mostM s sets
  · rw [if_pos h7] at hyes; cases hyes
  have HR : Hid (rightM 0 s = true) := by show _ = _; simpa using hr
  have g3 : (b - (sets.length : Int) == 0) = false := by simpa using h3
  have g4 : ¬ (s.length : Int) < k := by omega
  have g5 : ¬ live < k := by omega
  have g6 : ¬ live - k < s.length := by omega
  clear hr h4 hyes
  go_enter Try.func12, Try.ntmps12
  go_wp2_with fail
  refine (right_calls _ _ _ HS.out).mono ?_
  rintro e w1 ⟨rfl, rfl⟩
  rw [HR.out]
  go_wp2_with fail
  refine (left_calls _ _ HC.out hn hb).mono ?_
  rintro e w2 ⟨rfl, d, rfl⟩
  have hx1 : (w1.drewN d).cell? ⟨pb, 0, none⟩ = some (.int .i64 k) := h1
  have hx2 : (w1.drewN d).cell? ⟨pb, 1, none⟩ = some (.int .i64 r) := h2
  have HT : Hid (∀ n, Calls Try.prog 25 #[.pointer (some ⟨pb, 3, none⟩), .slice A s.length cap, .int .i64 r] (w1.drewN (d + n)) fun e w'' => e = .returned (.int .i64 0) ∧ ∃ m, w'' = w1.drewN (d + m)) := fun n => by
    refine (test_calls (w1.drewN (d + n)) pb _ s r (HC.out.1.keep (Same.below' (below_drewN _ _ _))) (IsI.keep HS.out (Same.below' (below_drewN _ _ _))) hn).mono ?_
    rintro e w' ⟨rfl, m, rfl⟩
    rw [if_neg (by omega)]
    exact ⟨rfl, n + m, by rw [World.drewN_drewN, Nat.add_assoc]⟩
  clear h7
  go_wp2
  go_quiet ((go_at_call 25; exact HT.out _))
  go_wp2_with fail
  refine (add_yes _ pb _ s (HC.out.1.keep (Same.below' (below_drewN _ _ _))) (IsI.keep HS.out (Same.below' (below_drewN _ _ _))) hsl hn HR).mono ?_
  rintro e w3 ⟨rfl, χ', x1, x2, x3, x4⟩
  have hfin : ∃ χ', (∀ b, b < w1.heap.size → χ' b = χ b) ∧ CtlAt c χ' w3 pb k r b (sets ++ [s]) ∧ Chg χ (· = c) w1 w3 :=
    ⟨χ', x1, ⟨x2, (x4 0 (by omega)).trans HC.out.2.1, (x4 1 (by omega)).trans HC.out.2.2.1, (x4 2 (by omega)).trans HC.out.2.2.2⟩, ⟨x3.os, x3.tape, x3.output, x3.size, x3.blk⟩⟩
  clear x1 x2 x3 x4
  go_wp2
  go_ret
  exact ⟨rfl, hfin⟩
end Go.Proofs.Ytpchodnknkdlgaa
