import Derived.Test.YtlaohilchcjffaaInJ
import Derived.Test.YtlaohilchcjffaaInAJ
namespace Go.Proofs.Ytlaohilchcjffaa
open Go.RowKit
attribute [local go_sem] World.cell?_alloc_some

/-! The document's control. -/
theorem refCheck_calls (w : World) (k r b : Int) : Calls Try.prog 10 #[.int .i64 k, .int .i64 r, .int .i64 b] w fun e w' => e = .returned (.int .i64 (checkM k r b)) ∧ w' = w := by
  obtain ⟨q, hq⟩ : ∃ q, q = checkM k r b := ⟨_, rfl⟩
  rw [← hq]
  have HQ := Lib.hid hq
  clear hq
  go_enter Try.func10, Try.ntmps10
  by_cases h1 : k < 1
  · have e : Hid (q = 43) := by show _ = _; rw [HQ.out]; unfold checkM; rw [if_pos (by omega)]
    go_wp2
    go_ret
    exact ⟨ret_int e.out.symm, rfl⟩
  by_cases h2 : 4096 < k
  · have e : Hid (q = 43) := by show _ = _; rw [HQ.out]; unfold checkM; rw [if_pos (by omega)]
    go_wp2
    go_ret
    exact ⟨ret_int e.out.symm, rfl⟩
  by_cases h3 : r < 0
  · have e : Hid (q = 43) := by show _ = _; rw [HQ.out]; unfold checkM; rw [if_pos (by omega)]
    go_wp2
    go_ret
    exact ⟨ret_int e.out.symm, rfl⟩
  by_cases h4 : 4096 < r
  · have e : Hid (q = 43) := by show _ = _; rw [HQ.out]; unfold checkM; rw [if_pos (by omega)]
    go_wp2
    go_ret
    exact ⟨ret_int e.out.symm, rfl⟩
  by_cases h5 : b < 0
  · have e : Hid (q = 43) := by show _ = _; rw [HQ.out]; unfold checkM; rw [if_pos (by omega)]
    go_wp2
    go_ret
    exact ⟨ret_int e.out.symm, rfl⟩
  by_cases h6 : 4096 < b
  · have e : Hid (q = 43) := by show _ = _; rw [HQ.out]; unfold checkM; rw [if_pos (by omega)]
    go_wp2
    go_ret
    exact ⟨ret_int e.out.symm, rfl⟩
  have hm : ((b - 1) * r).natAbs ≤ 4096 * 4096 := by rw [Int.natAbs_mul]; exact Nat.mul_le_mul (by omega) (by omega)
  obtain ⟨p, hp⟩ : ∃ p, p = (b - 1) * r := ⟨_, rfl⟩
  have w1 : wrap64 ((b - 1) * r) = p := by rw [hp]; unfold wrap64; omega
  rw [← hp] at hm
  have HP := Lib.hid hp
  clear hp
  by_cases h7 : k - 1 ≤ p
  · have e : Hid (q = 43) := by show _ = _; rw [HQ.out]; unfold checkM; rw [if_pos (by rw [← HP.out]; omega)]
    go_wp2
    go_ret
    exact ⟨ret_int e.out.symm, rfl⟩
  · have e : Hid (q = 0) := by show _ = _; rw [HQ.out]; unfold checkM; rw [if_neg (by rw [← HP.out]; omega)]
    go_wp2
    go_ret
    exact ⟨ret_int e.out.symm, rfl⟩
set_option maxHeartbeats 2000000 in
theorem refMostA_calls (w : World) (A : Option Addr) (cap : Nat) (u : Value) (l : List (List Int)) (a : List Int) {χ2 : Col} {cb : Nat} (hmax : l.length ≤ 1000000)
    (hl : ∀ i (hi : i < l.length), ∃ g o x, A = some ⟨g, o, none⟩ ∧ w.cell? ⟨g, o + i, none⟩ = some x ∧ IsI 0 (fun _ => 0) w x l[i]) (ha : IsI cb χ2 w u a) :
    Calls Try.prog 20 #[.slice A l.length cap, u] w fun e w' => e = .returned (.int .i64 (mostM a l)) ∧ ∃ d, w' = w.drewN d := by
  obtain ⟨B, d, rfl, b1, b2, b3, -⟩ := id ha
  have HL := Lib.hid hl; clear hl
  go_enter Try.func20, Try.ntmps20
  go_wp2
  go_loopw [5, 6] (fun n i wr => ∃ k : Nat, k ≤ l.length ∧ i = .int .i64 k ∧ n = .int .i64 (mostM a (l.take k)) ∧ ∃ d, wr = w.drewN d) (fun _ i _ => l.length - (intOf i).toNat)
  case atStart => exact ⟨0, by omega, rfl, rfl, 0, rfl⟩
  case round =>
    obtain ⟨k, hk, rfl, rfl, d, rfl⟩ := hrel
    by_cases hlt : k < l.length
    · obtain ⟨g, o, x, rfl, hcell, hx⟩ := HL.out k hlt
      have HM := Lib.hid (mostM_take a l k hlt)
      by_cases hgt : mostM a (l.take k) < sharedM a l[k]
      all_goals go_wp2_with fail
      all_goals refine (refShared_calls _ _ _ _ _ (by exact ha) (by exact hx)).mono ?_
      all_goals rintro e w2 ⟨rfl, d2, rfl⟩
      all_goals go_wp2
      all_goals go_roundw
      all_goals first | exact ⟨k + 1, hlt, by go_num, val_int (by rw [HM.out]; omega), (by first | exact ⟨_, rfl⟩ | exact drewN_ex _ _ _ | exact drew_ex _ _)⟩ | (simp [intOf]; omega)
    · have hkk : l.take k = l := List.take_of_length_le (by omega)
      rw [hkk]
      clear hkk
      go_wp2
      go_ret
      exact ⟨rfl, (by first | exact ⟨_, rfl⟩ | exact drewN_ex _ _ _ | exact drew_ex _ _)⟩
end Go.Proofs.Ytlaohilchcjffaa
