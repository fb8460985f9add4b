import Derived.Test.YtcdldjiogoapkaaSgAK
import Derived.Laws.BitsAllLaws
namespace Go.Proofs.Ytcdldjiogoapkaa
open Go.RowKit
attribute [local go_sem] World.cell?_alloc_some frozen_alloc_some

theorem half_calls (w : World) (n : Nat) (h : n < 32) :
    Calls Try.prog 55 #[.int .i64 n] w fun e w' => e = .returned (.int .u32 ((2 ^ (31 - n) : Nat) : Int)) ∧ w' = w := by
  go_enter Try.func55, Try.ntmps55
  go_wp2
  go_loopw [3, 4] (fun p i wr => ∃ k : Nat, k ≤ 31 - n ∧ i = .int .i64 k ∧ p = .int .u32 ((2 ^ k : Nat) : Int) ∧ wr = w) (fun _ i _ => 31 - n - (intOf i).toNat)
  case atStart => exact ⟨0, by omega, rfl, rfl, rfl⟩
  case round =>
    obtain ⟨k, hk, rfl, rfl, rfl⟩ := hrel
    by_cases hlt : k < 31 - n
    · have hp : 2 ^ (k + 1) ≤ 2147483648 := Nat.le_trans (Nat.pow_le_pow_right (by decide) (show k + 1 ≤ 31 by omega)) (by decide)
      rw [Nat.pow_succ] at hp
      have hE : Hid ((2 ^ (k + 1) : Nat) = 2 * 2 ^ k) := by show _ = _; rw [Nat.pow_succ]; omega
      obtain ⟨P, hP⟩ : ∃ P, P = 2 ^ k := ⟨_, rfl⟩
      rw [← hP] at hp hE ⊢
      clear hP
      go_wp2
      go_roundw
      case rel => exact ⟨k + 1, by omega, by go_num, by rw [hE.out]; exact val_int (by omega), by first | rfl | trivial⟩
      case measure => simp [intOf]; omega
    · have e : k = 31 - n := by omega
      subst e
      go_wp2
      go_ret
      exact ⟨rfl, rfl⟩

theorem lackL_append (a : List Nat) (x key : Nat) : lackL (a ++ [x]) key = min (lackL a key) (distF 32 x key) := by
  induction a with
  | nil =>
    show min _ 33 = min 33 _
    exact Nat.min_comm _ _
  | cons y a ih =>
    show min _ (lackL (a ++ [x]) key) = min (min _ (lackL a key)) _
    rw [ih]; omega
theorem lackL_iff (a : List Nat) (key d : Nat) (hd : d < 33) : lackL a key ≤ d ↔ ∃ k ∈ a, distF 32 k key ≤ d := by
  induction a with
  | nil => simp [lackL]; omega
  | cons y a ih =>
    have : min (distF 32 y key) (lackL a key) ≤ d ↔ distF 32 y key ≤ d ∨ lackL a key ≤ d := by omega
    show min _ _ ≤ d ↔ _
    rw [this, ih]
    simp
theorem lackL_congr {a b : List Nat} (h : ∀ x, x ∈ a ↔ x ∈ b) (key : Nat) : lackL a key = lackL b key := by
  have e : ∀ d, d < 33 → (lackL a key ≤ d ↔ lackL b key ≤ d) := fun d hd => by
    rw [lackL_iff a key d hd, lackL_iff b key d hd]
    exact ⟨fun ⟨k, h1, h2⟩ => ⟨k, (h k).1 h1, h2⟩, fun ⟨k, h1, h2⟩ => ⟨k, (h k).2 h1, h2⟩⟩
  have l1 := lackL_le a key
  have l2 := lackL_le b key
  by_cases c1 : lackL a key < 33
  · have := (e _ c1).1 (Nat.le_refl _)
    by_cases c2 : lackL b key < 33
    · have := (e _ c2).2 (Nat.le_refl _); omega
    · omega
  · by_cases c2 : lackL b key < 33
    · have := (e _ c2).2 (Nat.le_refl _); omega
    · omega

set_option maxRecDepth 100000 in
set_option maxHeartbeats 4000000 in
theorem alike_calls (w : World) (a b : Nat) (ha : a < 4294967296) (hb : b < 4294967296) :
    Calls Try.prog 38 #[.int .u32 a, .int .u32 b] w fun e w' => e = .returned (.int .i64 ((32 - distF 32 a b : Nat) : Int)) ∧ ∃ d, w' = w.drewN d := by
  obtain ⟨S, hS, hd⟩ : ∃ S, S = distF 32 a b ∧ (S ≤ 32 ∧ ∀ d, (S ≤ d ↔ a / 2 ^ d = b / 2 ^ d)) := ⟨_, rfl, distF_spec 32 a b (by simpa using ha) (by simpa using hb)⟩
  rw [← hS]
  obtain ⟨h32, hspec⟩ := hd
  have HD := Lib.hid hspec
  clear hspec hS
  go_enter Try.func38, Try.ntmps38
  go_wp2
  go_loopw [5] (fun i wr => ∃ n : Nat, n ≤ 32 ∧ i = .int .i64 n ∧ S ≤ 32 - n ∧ ∃ d, wr = w.drewN d) (fun i _ => 32 - (intOf i).toNat)
  case atStart => exact ⟨0, by omega, rfl, h32, 0, rfl⟩
  case round =>
    obtain ⟨n, hn, rfl, hle, d, rfl⟩ := hrel
    by_cases hlt : n < 32
    · have hp : 0 < 2 ^ (31 - n) := Nat.two_pow_pos _
      have hsp := HD.out (31 - n)
      have hc := Lib.hid fun W => half_calls W n hlt
      obtain ⟨P, hP⟩ : ∃ P, P = 2 ^ (31 - n) := ⟨_, rfl⟩
      rw [← hP] at hp hsp hc
      clear hP
      have hpi : (0 : Int) < (P : Int) := by omega
      have d1 : decide ((n : Int) < 32) = true := by simp; omega
      have hpz : ¬ (P : Int) = 0 := by omega
      obtain ⟨qa, hqa⟩ : ∃ qa, qa = a / P := ⟨_, rfl⟩
      obtain ⟨qb, hqb⟩ : ∃ qb, qb = b / P := ⟨_, rfl⟩
      have hla : qa < 4294967296 := by rw [hqa]; exact Nat.lt_of_le_of_lt (Nat.div_le_self _ _) ha
      have hlb : qb < 4294967296 := by rw [hqb]; exact Nat.lt_of_le_of_lt (Nat.div_le_self _ _) hb
      have hq1 : (a : Int) / (P : Int) = (qa : Int) := by rw [hqa]; push_cast; rfl
      have hq2 : (b : Int) / (P : Int) = (qb : Int) := by rw [hqb]; push_cast; rfl
      have hw1 : IntKind.u32.wrap (qa : Int) = (qa : Int) := by rw [IntKind.wrap_u32']; omega
      have hw2 : IntKind.u32.wrap (qb : Int) = (qb : Int) := by rw [IntKind.wrap_u32']; omega
      rw [← hqa, ← hqb] at hsp
      clear hqa hqb
      by_cases heq : qa = qb
      · have hs := hsp.2 heq
        subst heq
        clear hsp
        go_wp2
        first
          | (go_region_with (go_at_call 55; refine (hc.out _).mono ?_; rintro e w2 ⟨rfl, rfl⟩))
          | fail
        all_goals go_wp2
        all_goals refine ⟨⟨n + 1, by omega, by go_num, by omega, (by first | exact ⟨_, rfl⟩ | exact drewN_ex _ _ _ | exact drew_ex _ _)⟩, by simp [intOf]; omega⟩
      · have hs : ¬ S ≤ 31 - n := fun h => heq (hsp.1 h)
        have hqe : ((qa : Int) == (qb : Int)) = false := by simp; omega
        clear hsp heq
        go_wp2
        first
          | (go_region_with (go_at_call 55; refine (hc.out _).mono ?_; rintro e w2 ⟨rfl, rfl⟩))
          | fail
        all_goals go_wp2
        all_goals go_ret
        all_goals exact ⟨ret_int (by omega), (by first | exact ⟨_, rfl⟩ | exact drewN_ex _ _ _ | exact drew_ex _ _)⟩
    · have e : n = 32 := by omega
      subst e
      go_wp2
      go_quiet (fail)
      go_wp2
      go_ret
      exact ⟨ret_int (by omega), (by first | exact ⟨_, rfl⟩ | exact drewN_ex _ _ _ | exact drew_ex _ _)⟩
end Go.Proofs.Ytcdldjiogoapkaa
