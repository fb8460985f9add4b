import Derived.Test.YtcdldjiogoapkaaSgI
namespace Go.Proofs.Ytcdldjiogoapkaa
open Go.RowKit
attribute [local go_sem] World.cell?_alloc_some frozen_alloc_some field_na field_ac field_as

/-- A block of keys: 2 ^ h of them, from lo on. -/
abbrev blk (lo h : Nat) : Value := .agg #[.int .u32 lo, .int .i64 h]
abbrev spn (lo hi : Nat) : Value := .agg #[.int .u32 lo, .int .u32 hi]

theorem hi_calls (w : World) (lo h : Nat) (hh : h ≤ 32) (hl : lo + 2 ^ h ≤ 4294967296) :
    Calls Try.prog 63 #[blk lo h] w fun e w' => e = .returned (.int .u32 ((lo + 2 ^ h - 1 : Nat) : Int)) ∧ Below w.heap.size w w' := by
  go_enter Try.func63, Try.ntmps63
  obtain ⟨P, hP⟩ : ∃ P : Nat, P = 2 ^ h := ⟨_, rfl⟩
  have hP1 : 1 ≤ P := by rw [hP]; exact Nat.one_le_two_pow
  have hPi : (2 : Int) ^ h = (P : Int) := by rw [hP]; push_cast; rfl
  rw [← hP] at hl ⊢
  have e1 : IntKind.u64.wrap (P : Int) = (P : Int) := by rw [IntKind.wrap_u64]; omega
  have e2 : IntKind.u64.wrap ((P : Int) - 1) = (P : Int) - 1 := by rw [IntKind.wrap_u64]; omega
  have e3 : ((lo : Int) + ((P : Int) - 1) % 4294967296) % 4294967296 = ((lo + P - 1 : Nat) : Int) := by omega
  have HE := Lib.hid e3
  clear e3 hP
  go_wp2
  go_quiet (fail)
  go_wp2
  go_ret
  refine ⟨ret_int ?_, ((Below.refl _ w).alloc (Nat.le_refl _) _).trans (below_drewN _ _ _)⟩
  omega

theorem halves_calls (w : World) (lo h : Nat) (hh : h < 32) (hl : lo + 2 ^ (h + 1) ≤ 4294967296) :
    Calls Try.prog 53 #[blk lo (h + 1)] w fun e w' => e = .returned (.tuple #[blk lo h, blk (lo + 2 ^ h) h]) ∧ Below w.heap.size w w' := by
  go_enter Try.func53, Try.ntmps53
  obtain ⟨P, hP⟩ : ∃ P : Nat, P = 2 ^ h := ⟨_, rfl⟩
  have hP1 : 1 ≤ P := by rw [hP]; exact Nat.one_le_two_pow
  have hPi : (2 : Int) ^ h = (P : Int) := by rw [hP]; push_cast; rfl
  rw [Nat.pow_succ, ← hP] at hl
  rw [← hP]
  have e1 : ((lo : Int) + (P : Int)) % 4294967296 = ((lo + P : Nat) : Int) := by omega
  have e2 : (P : Int) % 4294967296 = (P : Int) := by omega
  clear hP
  go_wp2
  go_region
  all_goals go_wp2
  all_goals
    refine bodyPost_ret (v := .tuple #[blk lo h, blk (lo + P) h]) (by simp [results, Try.results53, go_sem, *]) rfl ⟨rfl, ?_⟩
    exact undrew_r ((((Below.refl _ w).alloc (Nat.le_refl _) _).alloc (by simp) _).alloc (by simp; omega) _)

/-- A block that has no key of a span; one of a span's keys alone. -/
def outB (lo h slo shi : Nat) : Bool := decide (shi < lo) || decide (lo + 2 ^ h - 1 < slo) || decide (shi < slo)
def inB (lo h slo shi : Nat) : Bool := decide (slo ≤ lo) && decide (lo + 2 ^ h - 1 ≤ shi)
end Go.Proofs.Ytcdldjiogoapkaa
