import Derived.Test.YtipdmnfkigoanaaArB
namespace Go.Proofs.Ytipdmnfkigoanaa
open Go.RowKit
attribute [local go_sem] World.cell?_alloc_some frozen_alloc_some

/-- a label has keys. -/
def fullB (l : List Sp) : Bool := l.any okSp
theorem fullB_iff {l : List Sp} : fullB l = true ↔ ∃ k, Mem k l := by
  unfold fullB okSp Mem
  simp only [List.any_eq_true, decide_eq_true_eq]
  exact ⟨fun ⟨s, hs, h⟩ => ⟨s.1, s, hs, Nat.le_refl _, h⟩, fun ⟨k, s, hs, h1, h2⟩ => ⟨s, hs, by omega⟩⟩
/-- no label has keys. -/
def emptyB (a : Ar) : Bool := !a.any fullB
theorem emptyB_iff {a : Ar} : emptyB a = true ↔ ∀ i k, ¬ Mem k (atA a i) := by
  unfold emptyB
  rw [Bool.not_eq_true', ← Bool.not_eq_true, List.any_eq_true]
  constructor
  · intro h i k hk
    by_cases c : i < a.length
    · rw [atA_lt c] at hk
      exact h ⟨_, List.getElem_mem c, fullB_iff.2 ⟨k, hk⟩⟩
    · rw [atA_ge (by omega)] at hk; exact mem_nil hk
  · rintro h ⟨l, hl, hf⟩
    obtain ⟨k, hk⟩ := fullB_iff.1 hf
    obtain ⟨i, hi, rfl⟩ := List.getElem_of_mem hl
    exact h i k (by rw [atA_lt hi]; exact hk)

/-- each cell is in another area. -/
def SubA (a b : Ar) : Prop := ∀ i k, Mem k (atA a i) → Mem k (atA b i)
/-- a cell is in an area. -/
def inA (a : Ar) (lab : Int) (key : Nat) : Bool := decide (0 ≤ lab) && memB key (atA a lab.toNat)
set_option maxRecDepth 100000 in
set_option maxHeartbeats 4000000 in
theorem ahas_calls (w : World) (v : Value) (a : Ar) (lab : Int) (key : Nat) (hr : RdA w v a) :
    Calls Try.prog 29 #[v, .agg #[.int .i64 lab, .int .u32 key]] w fun e w' => e = .returned (.bool (inA a lab key)) ∧ Below w.heap.size w w' := by
  obtain ⟨A, cap, rfl, -⟩ := id hr
  by_cases h0 : 0 ≤ lab
  · obtain ⟨n, rfl⟩ : ∃ n : Nat, lab = n := ⟨lab.toNat, by omega⟩
    have hb0 := (Below.refl w.heap.size w).alloc (Nat.le_refl _) (.cells #[.int .i64 n, .int .u32 key] 36)
    have HR := Lib.hid (fun d => (hr.keep hb0).drewN d)
    obtain ⟨q, hq⟩ : ∃ q, q = inA a n key := ⟨_, rfl⟩
    have hq2 : q = memB key (atA a n) := by rw [hq]; unfold inA; simp
    rw [← hq]
    have HQ := Lib.hid hq2
    obtain ⟨W0, hW0⟩ : ∃ W0, W0 = w.alloc (.cells #[.int .i64 n, .int .u32 key] 36) := ⟨_, rfl⟩
    have hcell := cells2 (heap_alloc_at w (.cells #[.int .i64 n, .int .u32 key] 36))
    rw [← hW0] at HR hb0 hcell
    obtain ⟨⟨x0, x1⟩, -⟩ := hcell
    have HW0 := Lib.hid hW0
    clear hq hq2 hr hW0
    go_enter Try.func29, Try.ntmps29
    go_wp2
    rw [← HW0.out]
    have kg : decide ((0 : Int) ≤ (n : Int)) = true := by simp
    have cS : ∀ W', (∃ d, W' = W0.drewN d) → W'.cell? ⟨w.heap.size, 0, none⟩ = some (.int .i64 n) ∧ W'.cell? ⟨w.heap.size, 1, none⟩ = some (.int .u32 key) := by
      rintro W' ⟨d, rfl⟩; exact ⟨x0, x1⟩
    clear HW0 x0 x1
    go_region_held3 (fun W' => W'.cell? ⟨w.heap.size, 0, none⟩ = some (.int .i64 n) ∧ W'.cell? ⟨w.heap.size, 1, none⟩ = some (.int .u32 key))
      (first | exact cS _ (by first | exact ⟨_, rfl⟩ | exact drewN_ex _ _ _ | exact drew_ex _ _) | exact c2)
      (first
        | (go_at_call 37; have hS := R1; refine (has_calls _ _ _ key R1).mono ?_; rw [← HQ.out]; rintro e w2 ⟨rfl, hb2⟩; have c2 : w2.cell? ⟨w.heap.size, 0, none⟩ = some (.int .i64 n) ∧ w2.cell? ⟨w.heap.size, 1, none⟩ = some (.int .u32 key) := ⟨(hb2.cell (World.block_lt_of_cell? _ _ (cS _ ⟨1, rfl⟩).1)).trans (cS _ ⟨1, rfl⟩).1, (hb2.cell (World.block_lt_of_cell? _ _ (cS _ ⟨1, rfl⟩).2)).trans (cS _ ⟨1, rfl⟩).2⟩)
        | (go_at_call 38; refine (at_calls _ _ _ n (HR.out _)).mono ?_; rintro e w1 ⟨u1, A1, c1, rfl, rfl, R1, rfl⟩))
    go_wp2
    go_ret
    exact ⟨rfl, hb0.trans (undrewN (hb2.mono (by simpa using hb0.size)))⟩
  · have hq : inA a lab key = false := by unfold inA; simp [h0]
    rw [hq]
    have kg : decide (0 ≤ lab) = false := by simpa using h0
    have hb0 := (Below.refl w.heap.size w).alloc (Nat.le_refl _) (.cells #[.int .i64 lab, .int .u32 key] 36)
    clear h0 hq
    go_enter Try.func29, Try.ntmps29
    go_wp2
    go_quiet (fail)
    go_wp2
    go_ret
    exact ⟨rfl, hb0.trans (below_drewN _ _ _)⟩
end Go.Proofs.Ytipdmnfkigoanaa
