import Derived.Test.YtcdldjiogoapkaaSgJ
namespace Go.Proofs.Ytcdldjiogoapkaa
open Go.RowKit
attribute [local go_sem] World.cell?_alloc_some frozen_alloc_some field_na field_ac field_as

abbrev BoxB (lo h : Nat) : Obj := .cells #[.int .u32 lo, .int .i64 h] 80
abbrev BoxS (lo hi : Nat) : Obj := .cells #[.int .u32 lo, .int .u32 hi] 36

set_option maxRecDepth 100000 in
set_option maxHeartbeats 2000000 in
theorem outside_calls (w : World) (lo h slo shi : Nat) (hh : h ≤ 32) (hl : lo + 2 ^ h ≤ 4294967296) :
    Calls Try.prog 50 #[blk lo h, spn slo shi] w fun e w' => e = .returned (.bool (outB lo h slo shi)) ∧ Below w.heap.size w w' := by
  obtain ⟨H, hH⟩ : ∃ H, H = lo + 2 ^ h - 1 := ⟨_, rfl⟩
  have hb0 : Below w.heap.size w ((w.alloc (BoxB lo h)).alloc (BoxS slo shi)) := ((Below.refl _ w).alloc (Nat.le_refl _) _).alloc (by simp) _
  have o1 : ((w.alloc (BoxB lo h)).alloc (BoxS slo shi)).heap[w.heap.size]? = some (BoxB lo h) := kept_at ((Below.refl _ _).alloc (Nat.le_refl _) _) (heap_alloc_at w _)
  have o2 : ((w.alloc (BoxB lo h)).alloc (BoxS slo shi)).heap[w.heap.size + 1]? = some (BoxS slo shi) := by have := heap_alloc_at (w.alloc (BoxB lo h)) (BoxS slo shi); rwa [World.size_alloc] at this
  have HH := Lib.hid fun W => hi_calls W lo h hh hl
  rw [← hH] at HH
  have hR : outB lo h slo shi = (decide (shi < lo) || decide (H < slo) || decide (shi < slo)) := by unfold outB; rw [hH]
  have HR := Lib.hid hR
  clear hR hH hl
  have hcas : (shi < lo) ∨ (lo ≤ shi ∧ H < slo) ∨ (lo ≤ shi ∧ slo ≤ H) := by omega
  rcases hcas with hc | ⟨hc, hd⟩ | ⟨hc, hd⟩
  · have d1 : decide ((shi : Int) < (lo : Int)) = true := by simp; omega
    go_enter Try.func50, Try.ntmps50
    go_wp2
    obtain ⟨W1, hW1⟩ : ∃ W1, W1 = (w.alloc (BoxB lo h)).alloc (BoxS slo shi) := ⟨_, rfl⟩
    rw [← hW1] at hb0 o1 o2 ⊢
    clear hW1
    obtain ⟨⟨x0, x1⟩, -, -⟩ := cells2 o1
    obtain ⟨⟨z0, z1⟩, -, -⟩ := cells2 o2
    go_quiet (fail)
    go_wp2
    go_ret
    exact ⟨ret_bool (by rw [HR.out]; simp; omega), hb0.trans (below_drewN _ _ _)⟩
  · have d1 : decide ((shi : Int) < (lo : Int)) = false := by simp; omega
    have d2 : decide ((H : Int) < (slo : Int)) = true := by simp; omega
    have d3 : decide (shi < lo) = false := by simp; omega
    have d4 : decide (H < slo) = true := by simp; omega
    have d5 : ¬ (shi < lo) := by omega
    go_enter Try.func50, Try.ntmps50
    go_wp2
    obtain ⟨W1, hW1⟩ : ∃ W1, W1 = (w.alloc (BoxB lo h)).alloc (BoxS slo shi) := ⟨_, rfl⟩
    rw [← hW1] at hb0 o1 o2 ⊢
    clear hW1
    have HX : Hid (∀ W, Below W1.heap.size W1 W → W.cell? ⟨w.heap.size, 0, none⟩ = some (.int .u32 lo) ∧ W.cell? ⟨w.heap.size, 1, none⟩ = some (.int .i64 h) ∧ W.cell? ⟨w.heap.size + 1, 0, none⟩ = some (.int .u32 slo) ∧ W.cell? ⟨w.heap.size + 1, 1, none⟩ = some (.int .u32 shi)) := fun W hb => by
      obtain ⟨⟨x0, x1⟩, -, -⟩ := cells2 (kept_at hb o1)
      obtain ⟨⟨z0, z1⟩, -, -⟩ := cells2 (kept_at hb o2)
      exact ⟨x0, x1, z0, z1⟩
    have hB1 : Below W1.heap.size W1 W1.drew := undrew_r (Below.refl _ _)
    clear o1 o2
    obtain ⟨x0, x1, z0, z1⟩ := HX.out _ hB1
    first
    | (go_region_law (go_simp; go_at_call 63; refine (HH.out _).mono ?_; rintro e w2 ⟨rfl, hb2⟩; have hB2 := hB1.trans hb2; obtain ⟨a0, a1, b0, b1⟩ := HX.out _ hB2))
    | fail
    all_goals go_wp2
    all_goals go_ret
    all_goals exact ⟨ret_bool (by rw [HR.out]; simp; omega), hb0.trans (hB2.mono hb0.size)⟩
  · have d1 : decide ((shi : Int) < (lo : Int)) = false := by simp; omega
    have d2 : decide ((H : Int) < (slo : Int)) = false := by simp; omega
    have d3 : decide (shi < lo) = false := by simp; omega
    have d4 : decide (H < slo) = false := by simp; omega
    have d5 : ¬ (shi < lo) := by omega
    have d6 : ¬ (H < slo) := by omega
    go_enter Try.func50, Try.ntmps50
    go_wp2
    obtain ⟨W1, hW1⟩ : ∃ W1, W1 = (w.alloc (BoxB lo h)).alloc (BoxS slo shi) := ⟨_, rfl⟩
    rw [← hW1] at hb0 o1 o2 ⊢
    clear hW1
    have HX : Hid (∀ W, Below W1.heap.size W1 W → W.cell? ⟨w.heap.size, 0, none⟩ = some (.int .u32 lo) ∧ W.cell? ⟨w.heap.size, 1, none⟩ = some (.int .i64 h) ∧ W.cell? ⟨w.heap.size + 1, 0, none⟩ = some (.int .u32 slo) ∧ W.cell? ⟨w.heap.size + 1, 1, none⟩ = some (.int .u32 shi)) := fun W hb => by
      obtain ⟨⟨x0, x1⟩, -, -⟩ := cells2 (kept_at hb o1)
      obtain ⟨⟨z0, z1⟩, -, -⟩ := cells2 (kept_at hb o2)
      exact ⟨x0, x1, z0, z1⟩
    have hB1 : Below W1.heap.size W1 W1.drew := undrew_r (Below.refl _ _)
    clear o1 o2
    first
    | (go_region_held3 (fun W => W.cell? ⟨w.heap.size, 0, none⟩ = some (.int .u32 lo) ∧ W.cell? ⟨w.heap.size, 1, none⟩ = some (.int .i64 h) ∧ W.cell? ⟨w.heap.size + 1, 0, none⟩ = some (.int .u32 slo) ∧ W.cell? ⟨w.heap.size + 1, 1, none⟩ = some (.int .u32 shi))
      (first | with_reducible exact HX.out _ hB2 | with_reducible exact HX.out _ hB1)
      (first | (go_at_call 63; refine (HH.out _).mono ?_; rintro e w2 ⟨rfl, hb2⟩; have hB2 := hB1.trans hb2)))
    | fail
    all_goals go_wp2
    all_goals go_ret
    all_goals exact ⟨ret_bool (by rw [HR.out]; simp; omega), hb0.trans (hB2.mono hb0.size)⟩

set_option maxRecDepth 100000 in
set_option maxHeartbeats 2000000 in
theorem inside_calls (w : World) (lo h slo shi : Nat) (hh : h ≤ 32) (hl : lo + 2 ^ h ≤ 4294967296) :
    Calls Try.prog 51 #[blk lo h, spn slo shi] w fun e w' => e = .returned (.bool (inB lo h slo shi)) ∧ Below w.heap.size w w' := by
  obtain ⟨H, hH⟩ : ∃ H, H = lo + 2 ^ h - 1 := ⟨_, rfl⟩
  have hb0 : Below w.heap.size w ((w.alloc (BoxB lo h)).alloc (BoxS slo shi)) := ((Below.refl _ w).alloc (Nat.le_refl _) _).alloc (by simp) _
  have o1 : ((w.alloc (BoxB lo h)).alloc (BoxS slo shi)).heap[w.heap.size]? = some (BoxB lo h) := kept_at ((Below.refl _ _).alloc (Nat.le_refl _) _) (heap_alloc_at w _)
  have o2 : ((w.alloc (BoxB lo h)).alloc (BoxS slo shi)).heap[w.heap.size + 1]? = some (BoxS slo shi) := by have := heap_alloc_at (w.alloc (BoxB lo h)) (BoxS slo shi); rwa [World.size_alloc] at this
  have HH := Lib.hid fun W => hi_calls W lo h hh hl
  rw [← hH] at HH
  have hR : inB lo h slo shi = (decide (slo ≤ lo) && decide (H ≤ shi)) := by unfold inB; rw [hH]
  have HR := Lib.hid hR
  clear hR hH hl
  by_cases hc : slo ≤ lo
  · have d1 : decide ((slo : Int) ≤ (lo : Int)) = true := by simp; omega
    have d3 : decide (slo ≤ lo) = true := by simp; omega
    go_enter Try.func51, Try.ntmps51
    go_wp2
    obtain ⟨W1, hW1⟩ : ∃ W1, W1 = (w.alloc (BoxB lo h)).alloc (BoxS slo shi) := ⟨_, rfl⟩
    rw [← hW1] at hb0 o1 o2 ⊢
    clear hW1
    have HX : Hid (∀ W, Below W1.heap.size W1 W → W.cell? ⟨w.heap.size, 0, none⟩ = some (.int .u32 lo) ∧ W.cell? ⟨w.heap.size, 1, none⟩ = some (.int .i64 h) ∧ W.cell? ⟨w.heap.size + 1, 0, none⟩ = some (.int .u32 slo) ∧ W.cell? ⟨w.heap.size + 1, 1, none⟩ = some (.int .u32 shi)) := fun W hb => by
      obtain ⟨⟨x0, x1⟩, -, -⟩ := cells2 (kept_at hb o1)
      obtain ⟨⟨z0, z1⟩, -, -⟩ := cells2 (kept_at hb o2)
      exact ⟨x0, x1, z0, z1⟩
    have hB1 : Below W1.heap.size W1 W1.drew := undrew_r (Below.refl _ _)
    clear o1 o2
    first
    | (go_region_held3 (fun W => W.cell? ⟨w.heap.size, 0, none⟩ = some (.int .u32 lo) ∧ W.cell? ⟨w.heap.size, 1, none⟩ = some (.int .i64 h) ∧ W.cell? ⟨w.heap.size + 1, 0, none⟩ = some (.int .u32 slo) ∧ W.cell? ⟨w.heap.size + 1, 1, none⟩ = some (.int .u32 shi))
      (first | with_reducible exact HX.out _ hB2 | with_reducible exact HX.out _ hB1)
      (first | (go_at_call 63; refine (HH.out _).mono ?_; rintro e w2 ⟨rfl, hb2⟩; have hB2 := hB1.trans hb2)))
    | fail
    all_goals go_wp2
    all_goals go_ret
    all_goals exact ⟨ret_bool (by rw [HR.out]; simp; omega), hb0.trans (hB2.mono hb0.size)⟩
  · have d1 : decide ((slo : Int) ≤ (lo : Int)) = false := by simp; omega
    have d3 : decide (slo ≤ lo) = false := by simp; omega
    go_enter Try.func51, Try.ntmps51
    go_wp2
    obtain ⟨W1, hW1⟩ : ∃ W1, W1 = (w.alloc (BoxB lo h)).alloc (BoxS slo shi) := ⟨_, rfl⟩
    rw [← hW1] at hb0 o1 o2 ⊢
    clear hW1
    obtain ⟨⟨x0, x1⟩, -, -⟩ := cells2 o1
    obtain ⟨⟨z0, z1⟩, -, -⟩ := cells2 o2
    go_quiet (fail)
    go_wp2
    go_ret
    exact ⟨ret_bool (by rw [HR.out]; simp; omega), hb0.trans (below_drewN _ _ _)⟩
end Go.Proofs.Ytcdldjiogoapkaa
