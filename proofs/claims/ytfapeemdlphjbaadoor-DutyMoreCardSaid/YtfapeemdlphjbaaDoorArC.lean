import Derived.Test.YtfapeemdlphjbaaDoorArB
namespace Go.Proofs.YtfapeemdlphjbaaDoor
open Go.RowKit
attribute [local go_sem] World.cell?_alloc_some frozen_alloc_some

/-- a label has keys. -/
def fullB (l : List Sp) : Bool := l.any okSp
theorem fullB_iff {l : List Sp} : fullB l = true ↔ ∃ k, Mem k l := by
  unfold fullB okSp Mem
  simp only [List.any_eq_true, decide_eq_true_eq]
  exact ⟨fun ⟨s, hs, h⟩ => ⟨s.1, s, hs, Nat.le_refl _, h⟩, fun ⟨k, s, hs, h1, h2⟩ => ⟨s, hs, by omega⟩⟩
/-- no label has keys. -/
def emptyB (a : Ar) : Bool := !a.any fullB
theorem emptyB_iff {a : Ar} : emptyB a = true ↔ ∀ i k, ¬ Mem k (atA a i) := by
  unfold emptyB
  rw [Bool.not_eq_true', ← Bool.not_eq_true, List.any_eq_true]
  constructor
  · intro h i k hk
    by_cases c : i < a.length
    · rw [atA_lt c] at hk
      exact h ⟨_, List.getElem_mem c, fullB_iff.2 ⟨k, hk⟩⟩
    · rw [atA_ge (by omega)] at hk; exact mem_nil hk
  · rintro h ⟨l, hl, hf⟩
    obtain ⟨k, hk⟩ := fullB_iff.1 hf
    obtain ⟨i, hi, rfl⟩ := List.getElem_of_mem hl
    exact h i k (by rw [atA_lt hi]; exact hk)

set_option maxHeartbeats 1000000 in
theorem empty1_calls (w : World) (v : Value) (l : List Sp) (hr : RdS w v l) (hn : l.length ≤ 100000) :
    Calls Tryd.prog 21 #[v] w fun e w' => e = .returned (.bool (fullB l)) ∧ Below w.heap.size w w' := by
  have HR := Lib.hid hr
  clear hr
  go_enter Tryd.func21, Tryd.ntmps21
  go_wp2_with fail
  refine (make_calls _ _ _ HR.out hn).mono ?_
  rintro e w1 ⟨v1, a, rfl, N1, hset, hal, hb1⟩
  obtain ⟨A1, c1, rfl⟩ := N1.form
  have HS := Lib.hid hset
  clear N1 hset
  go_wp2
  go_ret
  refine ⟨ret_bool ?_, hb1⟩
  rw [Bool.eq_iff_iff, fullB_iff, decide_eq_true_iff]
  have h := HS.out.nil_iff
  constructor
  · intro h1
    refine Classical.byContradiction fun h2 => ?_
    have h3 := h.2 (fun k hk => h2 ⟨k, hk⟩)
    rw [h3] at h1; simp at h1
  · rintro ⟨k, hk⟩
    refine Classical.byContradiction fun h2 => ?_
    exact h.1 (List.length_eq_zero_iff.1 (by omega)) k hk

set_option maxRecDepth 100000 in
set_option maxHeartbeats 4000000 in
theorem indexA_calls (w : World) (v : Value) (a : Ar) (hr : RdA w v a) (hs : Sm 100000 a) :
    Calls Tryd.prog 32 #[v, .func (.func 21) #[] #[]] w fun e w' => ∃ r : Int, e = .returned (.int .i64 r) ∧ decide (0 ≤ r) = a.any fullB ∧ Below w.heap.size w w' := by
  obtain ⟨A, cap, rfl, a1, a2, a3, -⟩ := id hr
  unfold maxLen at a2
  have HR := Lib.hid hr
  have HSM := Lib.hid hs
  clear hr hs
  go_enter Tryd.func32, Tryd.ntmps32
  go_wp2
  go_loopw [8] (fun i wr => ∃ k : Nat, k ≤ a.length ∧ i = .int .i64 k ∧ Hid ((a.take k).any fullB = false) ∧ Below w.heap.size w wr) (fun i _ => a.length - (intOf i).toNat)
  case atStart => exact ⟨0, by omega, rfl, rfl, Below.refl _ _⟩
  case round =>
    obtain ⟨k, hk', rfl, HM, hb⟩ := hrel
    by_cases hlt : k < a.length
    · obtain ⟨gb, go, u, rfl, hc, hu⟩ := (HR.out.keep hb).get k hlt
      have HT : Hid (a.take (k + 1) = a.take k ++ [a[k]]) := List.take_succ_eq_append_getElem hlt
      have HD := Lib.hid (split_at a k hlt)
      have hll := HSM.out _ (List.getElem_mem hlt)
      obtain ⟨l, hl⟩ : ∃ l, l = a[k] := ⟨_, rfl⟩
      rw [← hl] at hu HT HD hll
      obtain ⟨A', c', rfl, -⟩ := id hu
      have HU := Lib.hid hu
      clear hl hu
      obtain ⟨q, hq⟩ : ∃ q, q = fullB l := ⟨_, rfl⟩
      have HQ := Lib.hid hq
      clear hq
      go_wp2_with fail
      refine (empty1_calls _ _ _ HU.out hll).mono ?_
      rw [← HQ.out]
      rintro e w1 ⟨rfl, hb1⟩
      cases q with
      | true =>
        have HE : Hid (a.any fullB = true) := by
          show _ = _; rw [HD.out, List.any_append, List.any_cons, ← HQ.out]; simp
        have hbb := hb.trans (hb1.mono hb.size)
        go_wp2
        go_ret
        exact ⟨_, rfl, by rw [HE.out]; simp, hbb⟩
      | false =>
        have HM2 : Hid ((a.take (k + 1)).any fullB = false) := by
          show _ = _; rw [HT.out, List.any_append, HM.out]; simp [← HQ.out]
        go_wp2
        refine ⟨⟨k + 1, hlt, by go_num, HM2, hb.trans (hb1.mono hb.size)⟩, by simp [intOf]; omega⟩
    · have HE : Hid (a.any fullB = false) := by
        show _ = _; have := HM.out; rwa [List.take_of_length_le (by omega)] at this
      go_wp2
      go_ret
      exact ⟨-1, rfl, by rw [HE.out]; rfl, hb⟩

theorem aempty_calls (w : World) (v : Value) (a : Ar) (hr : RdA w v a) (hs : Sm 100000 a) :
    Calls Tryd.prog 9 #[v] w fun e w' => e = .returned (.bool (emptyB a)) ∧ Below w.heap.size w w' := by
  have HC := Lib.hid (indexA_calls w v a hr hs)
  obtain ⟨q, hq⟩ : ∃ q, q = a.any fullB := ⟨_, rfl⟩
  unfold emptyB
  rw [← hq]
  have hC : Calls Tryd.prog 20 #[v, .func (.func 21) #[] #[]] w fun e w' => e = .returned (.bool q) ∧ Below w.heap.size w w' := by
    have HQ := Lib.hid hq
    clear hq hr hs
    go_enter Tryd.func20, Tryd.ntmps20
    go_wp2_with fail
    refine HC.out.mono ?_
    rintro e w1 ⟨r, rfl, hr2, hb⟩
    have HR2 := Lib.hid hr2
    clear hr2
    go_wp2
    go_ret
    exact ⟨ret_bool (by rw [HQ.out]; exact HR2.out), hb⟩
  have HC2 := Lib.hid hC
  clear hC hq hr hs
  go_enter Tryd.func9, Tryd.ntmps9
  go_wp2_with fail
  refine HC2.out.mono ?_
  rintro e w1 ⟨rfl, hb⟩
  go_wp2
  go_ret
  exact ⟨rfl, hb⟩
/-- each cell is in another area. -/
def SubA (a b : Ar) : Prop := ∀ i k, Mem k (atA a i) → Mem k (atA b i)
theorem awithin_calls (w : World) (v u : Value) (a b : Ar) (ha : RdA w v a) (hb : RdA w u b) (la : a.length ≤ 100) (lb : b.length ≤ 100) (sa : Sm 450 a) (sb : Sm 450 b) :
    Calls Tryd.prog 14 #[v, u] w fun e w' => ∃ q, e = .returned (.bool q) ∧ (q = true ↔ SubA a b) ∧ Below w.heap.size w w' := by
  have HA := Lib.hid ha
  have HB := Lib.hid hb
  have SA := Lib.hid sa
  have SB := Lib.hid sb
  clear ha hb sa sb
  go_enter Tryd.func14, Tryd.ntmps14
  go_wp2_with fail
  refine (area_minus _ _ _ a b 450 450 HA.out HB.out la lb SA.out SB.out (by omega) (by omega)).mono ?_
  rintro e w1 ⟨v1, r, rfl, R1, hrl, hset, hsm, hb1⟩
  obtain ⟨A1, c1, rfl, -⟩ := id R1
  have HR1 := Lib.hid R1
  have HS := Lib.hid hset
  have HM := Lib.hid hsm
  clear R1 hset hsm hrl
  go_wp2_with fail
  refine (aempty_calls _ _ r HR1.out (fun l hl => Nat.le_trans (HM.out l hl) (by omega))).mono ?_
  obtain ⟨q, hq⟩ : ∃ q, q = emptyB r := ⟨_, rfl⟩
  rw [← hq]
  have HQ := Lib.hid hq
  clear hq
  rintro e w2 ⟨rfl, hb2⟩
  go_wp2
  go_ret
  refine ⟨q, rfl, ?_, hb1.trans (hb2.mono hb1.size)⟩
  rw [HQ.out, emptyB_iff]
  unfold SubA
  exact ⟨fun h i k hk => Classical.byContradiction fun h2 => h i k (((HS.out i).iff k).2 ⟨hk, h2⟩), fun h i k hk => (((HS.out i).iff k).1 hk).2 (h i k (((HS.out i).iff k).1 hk).1)⟩
theorem asame_calls (w : World) (v u : Value) (a b : Ar) (ha : RdA w v a) (hb : RdA w u b) (la : a.length ≤ 100) (lb : b.length ≤ 100) (sa : Sm 450 a) (sb : Sm 450 b) :
    Calls Tryd.prog 15 #[v, u] w fun e w' => ∃ q, e = .returned (.bool q) ∧ (q = true ↔ SubA a b ∧ SubA b a) ∧ Below w.heap.size w w' := by
  have HA := Lib.hid ha
  have HB := Lib.hid hb
  have SA := Lib.hid sa
  have SB := Lib.hid sb
  clear ha hb sa sb
  go_enter Tryd.func15, Tryd.ntmps15
  go_wp2_with fail
  refine (awithin_calls _ _ _ a b HA.out HB.out la lb SA.out SB.out).mono ?_
  rintro e w1 ⟨q, rfl, hq, hb1⟩
  have HQ := Lib.hid hq
  clear hq
  cases q with
  | false =>
    go_wp2
    go_ret
    exact ⟨false, rfl, ⟨fun h => by simp at h, fun h => HQ.out.2 h.1⟩, hb1⟩
  | true =>
    have HB1 := Lib.hid (HB.out.keep hb1)
    have HA1 := Lib.hid (HA.out.keep hb1)
    go_wp2_with fail
    refine (awithin_calls _ _ _ b a HB1.out HA1.out lb la SB.out SA.out).mono ?_
    rintro e w2 ⟨q, rfl, hq, hb2⟩
    have HQ2 := Lib.hid hq
    clear hq
    go_wp2
    go_ret
    exact ⟨q, rfl, HQ2.out.trans ⟨fun h => ⟨HQ.out.1 trivial, h⟩, fun h => h.2⟩, hb1.trans (hb2.mono hb1.size)⟩

/-- a cell is in an area. -/
def inA (a : Ar) (lab : Int) (key : Nat) : Bool := decide (0 ≤ lab) && memB key (atA a lab.toNat)
set_option maxRecDepth 100000 in
set_option maxHeartbeats 4000000 in
theorem ahas_calls (w : World) (v : Value) (a : Ar) (lab : Int) (key : Nat) (hr : RdA w v a) :
    Calls Tryd.prog 17 #[v, .agg #[.int .i64 lab, .int .u32 key]] w fun e w' => e = .returned (.bool (inA a lab key)) ∧ Below w.heap.size w w' := by
  obtain ⟨A, cap, rfl, -⟩ := id hr
  by_cases h0 : 0 ≤ lab
  · obtain ⟨n, rfl⟩ : ∃ n : Nat, lab = n := ⟨lab.toNat, by omega⟩
    have hb0 := (Below.refl w.heap.size w).alloc (Nat.le_refl _) (.cells #[.int .i64 n, .int .u32 key] 48)
    have HR := Lib.hid (fun d => (hr.keep hb0).drewN d)
    obtain ⟨q, hq⟩ : ∃ q, q = inA a n key := ⟨_, rfl⟩
    have hq2 : q = memB key (atA a n) := by rw [hq]; unfold inA; simp
    rw [← hq]
    have HQ := Lib.hid hq2
    obtain ⟨W0, hW0⟩ : ∃ W0, W0 = w.alloc (.cells #[.int .i64 n, .int .u32 key] 48) := ⟨_, rfl⟩
    have hcell := cells2 (heap_alloc_at w (.cells #[.int .i64 n, .int .u32 key] 48))
    rw [← hW0] at HR hb0 hcell
    obtain ⟨⟨x0, x1⟩, -⟩ := hcell
    have HW0 := Lib.hid hW0
    clear hq hq2 hr hW0
    go_enter Tryd.func17, Tryd.ntmps17
    go_wp2
    rw [← HW0.out]
    have kg : decide ((0 : Int) ≤ (n : Int)) = true := by simp
    have cS : ∀ W', (∃ d, W' = W0.drewN d) → W'.cell? ⟨w.heap.size, 0, none⟩ = some (.int .i64 n) ∧ W'.cell? ⟨w.heap.size, 1, none⟩ = some (.int .u32 key) := by
      rintro W' ⟨d, rfl⟩; exact ⟨x0, x1⟩
    clear HW0 x0 x1
    go_region_held3 (fun W' => W'.cell? ⟨w.heap.size, 0, none⟩ = some (.int .i64 n) ∧ W'.cell? ⟨w.heap.size, 1, none⟩ = some (.int .u32 key))
      (first | exact cS _ (by first | exact ⟨_, rfl⟩ | exact drewN_ex _ _ _ | exact drew_ex _ _) | exact c2)
      (first
        | (go_at_call 28; have hS := R1; refine (has_calls _ _ _ key R1).mono ?_; rw [← HQ.out]; rintro e w2 ⟨rfl, hb2⟩; have c2 : w2.cell? ⟨w.heap.size, 0, none⟩ = some (.int .i64 n) ∧ w2.cell? ⟨w.heap.size, 1, none⟩ = some (.int .u32 key) := ⟨(hb2.cell (World.block_lt_of_cell? _ _ (cS _ ⟨1, rfl⟩).1)).trans (cS _ ⟨1, rfl⟩).1, (hb2.cell (World.block_lt_of_cell? _ _ (cS _ ⟨1, rfl⟩).2)).trans (cS _ ⟨1, rfl⟩).2⟩)
        | (go_at_call 29; refine (at_calls _ _ _ n (HR.out _)).mono ?_; rintro e w1 ⟨u1, A1, c1, rfl, rfl, R1, rfl⟩))
    go_wp2
    go_ret
    exact ⟨rfl, hb0.trans (undrewN (hb2.mono (by simpa using hb0.size)))⟩
  · have hq : inA a lab key = false := by unfold inA; simp [h0]
    rw [hq]
    have kg : decide (0 ≤ lab) = false := by simpa using h0
    have hb0 := (Below.refl w.heap.size w).alloc (Nat.le_refl _) (.cells #[.int .i64 lab, .int .u32 key] 48)
    clear h0 hq
    go_enter Tryd.func17, Tryd.ntmps17
    go_wp2
    go_quiet (fail)
    go_wp2
    go_ret
    exact ⟨rfl, hb0.trans (below_drewN _ _ _)⟩
end Go.Proofs.YtfapeemdlphjbaaDoor
