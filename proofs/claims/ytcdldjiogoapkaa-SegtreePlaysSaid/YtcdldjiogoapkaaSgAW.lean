import Derived.Test.YtcdldjiogoapkaaSgAV
namespace Go.Proofs.Ytcdldjiogoapkaa
open Go.RowKit
attribute [local go_sem] World.cell?_alloc_some frozen_alloc_some field_na field_ac field_as

set_option maxRecDepth 100000 in
set_option maxHeartbeats 1000000 in
theorem plays_many (w : World) (v : Value) (limit most : Int) (ops : List OpT) (hs : IsL 4 rOp 0 (fun _ => 0) w v ops) (hn : 40 < ops.length) :
    Calls Try.prog 3 #[.int .i64 limit, v, .int .i64 most] w fun e w' => e = .returned (.bool true) ∧ Below w.heap.size w w' := by
  obtain ⟨A, c, rfl, a1, a2, a3, -⟩ := id hs
  unfold maxLen at a2
  have HS := Lib.hid hs
  clear hs
  have k1 : decide ((40 : Int) < ops.length) = true := by simp; omega
  go_enter Try.func3, Try.ntmps3
  go_wp2_with fail
  refine (alive_calls _).mono ?_
  rintro e w1 ⟨rfl, hb⟩
  go_wp2
  go_ret
  exact ⟨rfl, hb⟩

set_option maxRecDepth 100000 in
set_option maxHeartbeats 1000000 in
theorem plays_out (w : World) (v : Value) (limit most : Int) (ops : List OpT) (hs : IsL 4 rOp 0 (fun _ => 0) w v ops) (hn : ops.length ≤ 40) (hl : limit < 1 ∨ 4194304 < limit) :
    Calls Try.prog 3 #[.int .i64 limit, v, .int .i64 most] w fun e w' => e = .returned (.bool true) ∧ Below w.heap.size w w' := by
  obtain ⟨A, c, rfl, a1, a2, a3, -⟩ := id hs
  unfold maxLen at a2
  have HS := Lib.hid hs
  clear hs
  have HL := Lib.hid hl
  by_cases c1 : limit < 1
  all_goals
    first
      | have c2 : decide (limit < 1) = true := by simpa using c1
      | (have c2 : decide (limit < 1) = false := by simpa using c1
         have c3 : decide (4194304 < limit) = true := by simp; omega)
    clear hl c1
    go_enter Try.func3, Try.ntmps3
    go_wp2_with fail
    refine (alive_calls _).mono ?_
    rintro e w1 ⟨rfl, hb⟩
    go_wp2_with fail
    refine (tnew_bad _ _ HL.out).mono ?_
    rintro e w2 ⟨rfl, rfl⟩
    go_wp2
    go_ret
    exact ⟨rfl, hb⟩

theorem plays_law (w : World) (v : Value) (limit : Int) (ops : List OpT) (most : Int) (_ : (Lit.int .i64 limit).wf = true) (hs : IsL 4 rOp 0 (fun _ => 0) w v ops) (_ : (Lit.int .i64 most).wf = true) :
    Calls Try.prog 3 #[.int .i64 limit, v, .int .i64 most] w fun e w' => e = .returned (.bool true) ∧ Below w.heap.size w w' := by
  by_cases h : 40 < ops.length
  · exact plays_many w v limit most ops hs h
  · by_cases hl : limit < 1 ∨ 4194304 < limit
    · exact plays_out w v limit most ops hs (by omega) hl
    · obtain ⟨n, rfl⟩ : ∃ n : Nat, limit = n := ⟨limit.toNat, by omega⟩
      exact plays_yes w v n most ops hs (by omega) (by omega) (by omega)
end Go.Proofs.Ytcdldjiogoapkaa
