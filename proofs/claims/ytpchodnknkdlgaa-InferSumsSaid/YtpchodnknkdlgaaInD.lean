import Derived.Test.YtpchodnknkdlgaaInC
namespace Go.Proofs.Ytpchodnknkdlgaa
open Go.RowKit

def mostM (a : List Int) (sets : List (List Int)) : Int := sets.foldl (fun n x => max n (sharedM a x)) 0
theorem mostM_snoc (a : List Int) (p : List (List Int)) (x : List Int) : mostM a (p ++ [x]) = max (mostM a p) (sharedM a x) := by simp [mostM]
theorem mostM_take (a : List Int) (s : List (List Int)) (k : Nat) (h : k < s.length) : mostM a (s.take (k + 1)) = max (mostM a (s.take k)) (sharedM a s[k]) := by
  rw [List.take_succ_eq_append_getElem h, mostM_snoc]
theorem sharedM_bd (a b : List Int) : 0 ≤ sharedM a b ∧ sharedM a b ≤ a.length := by
  unfold sharedM; have := mergeN_bound a b; split <;> omega
theorem mostM_bd (a : List Int) (s : List (List Int)) : 0 ≤ mostM a s ∧ mostM a s ≤ a.length := by
  refine snoc_ind (P := fun s => 0 ≤ mostM a s ∧ mostM a s ≤ a.length) (by simp [mostM]) (fun s x ih => ?_) s
  rw [mostM_snoc]; have := sharedM_bd a x; omega

set_option maxHeartbeats 1000000 in
theorem most_calls (w : World) (pb : Nat) (v : Value) (a : List Int) {cl c : Nat} {χ χa : Col} {sets : List (List Int)} (hR : RecAt c χ w pb sets) (h : IsI cl χa w v a) (hn : sets.length ≤ 1000000) :
    Calls Try.prog 36 #[.pointer (some ⟨pb, 3, none⟩), v] w fun e w' => e = .returned (.int .i64 (mostM a sets)) ∧ ∃ d, w' = w.drewN d := by
  obtain ⟨rv, hc, hII⟩ := hR.isII hn
  obtain ⟨A, cap, rfl, h1, h2, h3, -⟩ := id hII
  obtain ⟨A', cap', rfl, -, -, k3, -⟩ := id h
  unfold maxLen at h2
  go_enter Try.func36, Try.ntmps36
  go_wp2
  go_loopw [5, 13] (fun n i wr => ∃ k : Nat, k ≤ sets.length ∧ i = .int .i64 k ∧ n = .int .i64 (mostM a (sets.take k)) ∧ ∃ d, wr = w.drewN d) (fun _ i _ => sets.length - (intOf i).toNat)
  case atStart => exact ⟨0, by omega, rfl, rfl, 0, rfl⟩
  case round =>
    obtain ⟨k, hk, rfl, rfl, d, rfl⟩ := hrel
    by_cases hlt : k < sets.length
    · obtain ⟨b, o, s, rfl, hcell, hs⟩ := hII.getS k hlt
      have HM := Lib.hid (mostM_take a sets k hlt)
      obtain ⟨m, hm⟩ : ∃ m, m = mostM a (sets.take k) := ⟨_, rfl⟩
      rw [← hm]
      have HM2 := Lib.hid hm; clear hm
      have hs' : IsI (c + 1) χ (w.drewN d) s sets[k] := hs
      have h' : IsI cl χa (w.drewN d) (.slice A' a.length cap') a := h
      go_wp2_with (go_at_call 14; refine (shared_calls _ _ _ _ _ h' hs').mono ?_; rintro e w' ⟨rfl, d2, rfl⟩)
      go_roundw
      case rel => exact ⟨k + 1, hlt, by go_num, val_int (by rw [HM.out, ← HM2.out]; split <;> omega), d + d2, rfl⟩
      case measure => simp [intOf]; omega
    · have hkk : k = sets.length := by omega
      have hk2 : sets.take k = sets := List.take_of_length_le (by omega)
      rw [hk2]
      clear hk2 hkk
      go_wp2
      go_ret
      exact ⟨rfl, d, rfl⟩

set_option maxHeartbeats 1000000 in
theorem test_calls (w : World) (pb : Nat) (v : Value) (a : List Int) (m : Int) {cl c : Nat} {χ χa : Col} {sets : List (List Int)} (hR : RecAt c χ w pb sets) (h : IsI cl χa w v a) (hn : sets.length ≤ 1000000) :
    Calls Try.prog 25 #[.pointer (some ⟨pb, 3, none⟩), v, .int .i64 m] w fun e w' => e = .returned (.int .i64 (if m < mostM a sets then 35 else 0)) ∧ ∃ d, w' = w.drewN d := by
  obtain ⟨q, hq⟩ : ∃ q, q = mostM a sets := ⟨_, rfl⟩
  rw [← hq]
  have HQ := Lib.hid hq; clear hq
  by_cases hlt : m < q
  · rw [if_pos hlt]
    go_enter Try.func25, Try.ntmps25
    go_wp2_with (go_at_call 36; refine (most_calls _ _ _ _ hR h hn).mono ?_; rw [← HQ.out]; rintro e w' ⟨rfl, d, rfl⟩)
    go_ret
    exact ⟨rfl, d, rfl⟩
  · rw [if_neg hlt]
    go_enter Try.func25, Try.ntmps25
    go_wp2_with (go_at_call 36; refine (most_calls _ _ _ _ hR h hn).mono ?_; rw [← HQ.out]; rintro e w' ⟨rfl, d, rfl⟩)
    go_ret
    exact ⟨rfl, d, rfl⟩

theorem len_calls (w : World) (pb : Nat) {c : Nat} {χ : Col} {sets : List (List Int)} (hR : RecAt c χ w pb sets) (hn : sets.length ≤ 1000000) :
    Calls Try.prog 28 #[.pointer (some ⟨pb, 3, none⟩)] w fun e w' => e = .returned (.int .i64 sets.length) ∧ w' = w := by
  obtain ⟨rv, hc, hII⟩ := hR.isII hn
  obtain ⟨A, cap, rfl, h1, h2, h3, -⟩ := id hII
  go_enter Try.func28, Try.ntmps28
  go_wp2
  go_ret
  exact ⟨rfl, rfl⟩
end Go.Proofs.Ytpchodnknkdlgaa
