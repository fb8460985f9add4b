import Derived.Test.YtcdldjiogoapkaaSgAM
namespace Go.Proofs.Ytcdldjiogoapkaa
open Go.RowKit
attribute [local go_sem] World.cell?_alloc_some frozen_alloc_some

/-- How many beginnings keys have. -/
def nodesI (ks : List Nat) : Nat → Nat
  | 0 => 0
  | i + 1 => nodesI ks i + lackL (ks.take i) (ks.getD i 0)
theorem nodesI_le (ks : List Nat) (i : Nat) : nodesI ks i ≤ 33 * i := by
  induction i with
  | zero => exact Nat.le_refl _
  | succ i ih => have := lackL_le (ks.take i) (ks.getD i 0); show nodesI ks i + _ ≤ _; omega
theorem nodesI_append (ks : List Nat) (x : Nat) : ∀ i, i ≤ ks.length → nodesI (ks ++ [x]) i = nodesI ks i := by
  intro i
  induction i with
  | zero => intro _; rfl
  | succ i ih =>
    intro hi
    show nodesI (ks ++ [x]) i + _ = nodesI ks i + _
    rw [ih (by omega), List.take_append_of_le_length (by omega)]
    congr 2
    rw [List.getD_eq_getElem?_getD, List.getD_eq_getElem?_getD, List.getElem?_append_left (by omega)]
theorem nodesI_snoc (ks : List Nat) (x : Nat) : nodesI (ks ++ [x]) (ks ++ [x]).length = nodesI ks ks.length + lackL ks x := by
  rw [List.length_append]
  show nodesI (ks ++ [x]) ks.length + lackL ((ks ++ [x]).take ks.length) ((ks ++ [x]).getD ks.length 0) = _
  rw [nodesI_append ks x _ (Nat.le_refl _)]
  congr 2
  · simp
  · simp

set_option maxRecDepth 100000 in
set_option maxHeartbeats 4000000 in
theorem refNodes_calls (w : World) (v : Value) (ks : List Nat) {c : Nat} {χ : Col} (hr : IsU c χ w v ks) (hn : ks.length ≤ 1000) :
    Calls Try.prog 21 #[v] w fun e w' => e = .returned (.int .i64 (nodesI ks ks.length)) ∧ ∃ d, w' = w.drewN d := by
  obtain ⟨A, cap, rfl, a1, a2, a3, -⟩ := id hr
  unfold maxLen at a2
  have HR := Lib.hid hr
  clear hr
  go_enter Try.func21, Try.ntmps21
  go_wp2
  go_loopw [3, 4] (fun n i wr => ∃ k : Nat, k ≤ ks.length ∧ i = .int .i64 k ∧ n = .int .i64 (nodesI ks k) ∧ ∃ d, wr = w.drewN d) (fun _ i _ => ks.length - (intOf i).toNat)
  case atStart => exact ⟨0, by omega, rfl, rfl, 0, rfl⟩
  case round =>
    obtain ⟨i, hi, rfl, rfl, d, rfl⟩ := hrel
    by_cases hlt : i < ks.length
    · obtain ⟨gb, go, rfl, hcell, hkl⟩ := HR.out.getU i hlt
      have hle := nodesI_le ks i
      have hE : Hid (nodesI ks (i + 1) = nodesI ks i + lackL (ks.take i) ks[i]) := by show nodesI ks i + lackL (ks.take i) (ks.getD i 0) = _; simp [hlt]
      go_wp2
      go_loopw [5, 6] (fun m j wr => ∃ j' : Nat, j' ≤ i ∧ j = .int .i64 j' ∧ m = .int .i64 (32 - (lackL (ks.take j') ks[i] : Int)) ∧ ∃ d, wr = w.drewN d) (fun _ j _ => i - (intOf j).toNat)
      case atStart => exact ⟨0, by omega, rfl, rfl, d, rfl⟩
      case round =>
        obtain ⟨j, hj, rfl, rfl, d2, rfl⟩ := hrel
        have hl33 := lackL_le (ks.take j) ks[i]
        by_cases hlt2 : j < i
        · obtain ⟨gb2, go2, e2, hcell2, hkl2⟩ := HR.out.getU j (by omega)
          cases e2
          have hjl : j < ks.length := by omega
          have hjli : (j : Int) < ks.length := by omega
          have hEj : Hid (lackL (ks.take (j + 1)) ks[i] = min (lackL (ks.take j) ks[i]) (distF 32 ks[j] ks[i])) := by
            show _ = _; rw [List.take_succ_eq_append_getElem (by omega), lackL_append]
          have hds := (distF_spec 32 ks[j] ks[i] (by simpa using hkl2) (by simpa using hkl)).1
          have hc := Lib.hid fun W => alike_calls W ks[j] ks[i] hkl2 hkl
          obtain ⟨D, hD⟩ : ∃ D, D = distF 32 ks[j] ks[i] := ⟨_, rfl⟩
          obtain ⟨M, hM⟩ : ∃ M, M = lackL (ks.take j) ks[i] := ⟨_, rfl⟩
          rw [← hD] at hEj hds hc
          rw [← hM] at hEj hl33 ⊢
          clear hD hM
          have hsub : ((32 - D : Nat) : Int) = 32 - (D : Int) := by omega
          rw [hsub] at hc
          by_cases hlt3 : D < M
          · go_wp2
            go_region_with (go_at_call 38; refine (hc.out _).mono ?_; rintro e w2 ⟨rfl, d3, rfl⟩)
            all_goals go_wp2
            all_goals refine ⟨⟨j + 1, by omega, by go_num, by rw [hEj.out]; exact val_int (by omega), (by first | exact ⟨_, rfl⟩ | exact drewN_ex _ _ _ | exact drew_ex _ _)⟩, by simp [intOf]; omega⟩
          · go_wp2
            go_region_with (go_at_call 38; refine (hc.out _).mono ?_; rintro e w2 ⟨rfl, d3, rfl⟩)
            all_goals go_wp2
            all_goals refine ⟨⟨j + 1, by omega, by go_num, by rw [hEj.out]; exact val_int (by omega), (by first | exact ⟨_, rfl⟩ | exact drewN_ex _ _ _ | exact drew_ex _ _)⟩, by simp [intOf]; omega⟩
        · have e : j = i := by omega
          subst e
          go_wp2
          refine ⟨⟨j + 1, by omega, by go_num, by rw [hE.out]; exact val_int (by omega), (by first | exact ⟨_, rfl⟩ | exact drewN_ex _ _ _ | exact drew_ex _ _)⟩, by simp [intOf]; omega⟩
    · have e : i = ks.length := by omega
      subst e
      go_wp2
      go_ret
      exact ⟨rfl, (by first | exact ⟨_, rfl⟩ | exact drewN_ex _ _ _ | exact drew_ex _ _)⟩
end Go.Proofs.Ytcdldjiogoapkaa
