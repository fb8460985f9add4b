import Derived.Test.YtcdldjiogoapkaaSgAK
namespace Go.Proofs.Ytcdldjiogoapkaa
open Go.RowKit
attribute [local go_sem] World.cell?_alloc_some frozen_alloc_some

set_option maxRecDepth 100000 in
set_option maxHeartbeats 4000000 in
theorem same_calls (w : World) (v u : Value) (xs : List (Nat × Int)) {c c' : Nat} {χ χ' : Col} (h1 : RdP c χ w v xs) (h2 : RdP c' χ' w u xs) :
    Calls Try.prog 22 #[v, u] w fun e w' => e = .returned (.bool true) ∧ ∃ d, w' = w.drewN d := by
  obtain ⟨A, cap, rfl, a1, a2, a3, -⟩ := id h1
  obtain ⟨B, cap2, rfl, b1, b2, b3, -⟩ := id h2
  unfold maxLen at a2 b2
  have H1 := Lib.hid h1
  have H2 := Lib.hid h2
  clear h1 h2
  go_enter Try.func22, Try.ntmps22
  go_wp2
  go_loopw [13] (fun i wr => ∃ k : Nat, k ≤ xs.length ∧ i = .int .i64 k ∧ ∃ d, wr = w.drewN d) (fun i _ => xs.length - (intOf i).toNat)
  case atStart => exact ⟨0, by omega, rfl, 0, rfl⟩
  case round =>
    obtain ⟨k, hk, rfl, d, rfl⟩ := hrel
    by_cases hlt : k < xs.length
    · obtain ⟨gb, go, rfl, p0, p1⟩ := H1.out.getP k hlt
      obtain ⟨gb2, go2, rfl, q0, q1⟩ := H2.out.getP k hlt
      go_wp2
      go_quiet (fail)
      go_wp2
      refine ⟨⟨k + 1, hlt, by go_num, (by first | exact ⟨_, rfl⟩ | exact drewN_ex _ _ _ | exact drew_ex _ _)⟩, by simp [intOf]; omega⟩
    · go_wp2
      go_ret
      exact ⟨rfl, (by first | exact ⟨_, rfl⟩ | exact drewN_ex _ _ _ | exact drew_ex _ _)⟩
end Go.Proofs.Ytcdldjiogoapkaa
