import Derived.Test.YtfapeemdlphjbaaDoorIvD
namespace Go.Proofs.YtfapeemdlphjbaaDoor
open Go.RowKit Go.Shelf
attribute [local go_sem] World.cell?_alloc_some frozen_alloc_some

def Tryd.growSp_ren : Go.Shelf.Ren := ⟨fun | 4 => 64 | n => n, fun | 22 => 45 | 25 => 44 | 3 => 3 | 4 => 4 | 9 => 9 | 20 => 20 | 0 => 0 | n => n, fun | n => n⟩
theorem Tryd.growSp : Go.Proofs.Lays8.n4 Tryd.prog Tryd.growSp_ren := {
  mixed := by kernel_rfl,
  f4 := ⟨Tryd.f64.name, by decide, Tryd.func64.trans (congrArg some (by kernel_rfl))⟩,
  t0 := Tryd.underlying0,
  a0 := Tryd.isAgg0,
  z0 := Tryd.sizeOf0,
  v0 := Tryd.zeroValue0,
  t3 := Tryd.underlying3,
  a3 := Tryd.isAgg3,
  z3 := Tryd.sizeOf3,
  v3 := Tryd.zeroValue3,
  t4 := Tryd.underlying4,
  a4 := Tryd.isAgg4,
  z4 := Tryd.sizeOf4,
  v4 := Tryd.zeroValue4,
  t9 := Tryd.underlying9,
  a9 := Tryd.isAgg9,
  z9 := Tryd.sizeOf9,
  v9 := Tryd.zeroValue9,
  t20 := Tryd.underlying20,
  a20 := Tryd.isAgg20,
  z20 := Tryd.sizeOf20,
  v20 := Tryd.zeroValue20,
  t22 := Tryd.underlying45,
  a22 := Tryd.isAgg45,
  z22 := Tryd.sizeOf45,
  v22 := Tryd.zeroValue45 }


theorem grow_sp (w : World) (n : Nat) (hn : n ≤ 1000000) :
    Calls Tryd.prog 64 #[.slice none 0 0, .int .i64 n] w fun e w' => ∃ v, e = .returned v ∧ w'.ownsRow w.heap.size 44 2 v 0 [] ∧ Below w.heap.size w w' := by
  by_cases h0 : n = 0
  · subst h0
    refine (Any8.slices_Grow_room Tryd.growSp none 0 0 0 w (Nat.le_refl _) (by omega) (by omega) (by omega)).mono ?_
    rintro e w' ⟨rfl, rfl⟩
    exact ⟨_, rfl, World.ownsRow_nil _ _ _ _, Below.refl _ _⟩
  · obtain ⟨i0, hi, hz0, hz1, hz2⟩ := info_parts infoSp
    refine (Any8.slices_Grow_grow Tryd.growSp i0 _ hi hz0 (by omega) none 0 0 n [] w (Nat.le_refl _) (by omega) (by rw [hz2]; omega) (by omega) (by simp) (fun _ => rfl) (fun a h => by cases h)).mono ?_
    rintro e w' ⟨rfl, rfl⟩
    refine ⟨_, rfl, ?_, (below_drewN w w.heap.size 1).alloc (Nat.le_refl _) _⟩
    have hG := grownCap_ge w (0 + n) 0 44
    have hM := grownCap_le_maxLen w (0 + n) 0 44 (by unfold maxLen; omega)
    refine ⟨by simp, .inr ⟨w.heap.size, _, _, rfl, Nat.le_refl _, heap_alloc_at w.drew _, by omega, hM, ?_, by simp⟩⟩
    have e1 : Tryd.growSp_ren.t 25 = 44 := rfl
    have e2 : (Value.agg #[Value.int .u32 0, Value.int .u32 0]).cells.size = 2 := rfl
    rw [e1]
    simp only [Array.size_append, Builtin.zeroCells, List.size_toArray, List.length_nil]
    simp only [Nat.zero_add] at hG hM
    simp [e2]
    omega

set_option maxRecDepth 100000 in
set_option maxHeartbeats 4000000 in
theorem concat_calls (w : World) (v u : Value) (l m : List Sp) (B : Nat) (hB : w.heap[B]? = some (.cells #[v, u] 45)) (hr : RdS w v l) (hr2 : RdS w u m) (hn : l.length ≤ 50000) (hn2 : m.length ≤ 50000) :
    Calls Tryd.prog 58 #[.slice (some ⟨B, 0, none⟩) 2 2] w fun e w' => ∃ v', e = .returned v' ∧ NewS w.heap.size w' v' (l ++ m) ∧ Below w.heap.size w w' := by
  obtain ⟨A, cap, rfl, a1, a2, a3, -⟩ := id hr
  obtain ⟨A2, cap2, rfl, b1, b2, b3, -⟩ := id hr2
  unfold maxLen at a2 b2
  have hwf := WfS.append hr.wf hr2.wf
  have HW := Lib.hid hwf
  have HR := Lib.hid hr
  have HR2 := Lib.hid hr2
  clear hr hr2 hwf
  have HBH := Lib.hid hB
  obtain ⟨⟨x0, x1⟩, y0, y1⟩ := cells2 hB
  obtain ⟨i0, hi, hz0, hz1, hz2⟩ := info_parts infoSp
  clear hB
  go_enter Tryd.func58, Tryd.ntmps58
  go_wp2
  go_loop [3, 11] (fun s i => (i = .int .i64 0 ∧ s = .int .i64 0) ∨ (i = .int .i64 1 ∧ s = .int .i64 l.length) ∨ (i = .int .i64 2 ∧ s = .int .i64 (l.length + m.length : Nat))) (fun _ i => 2 - (intOf i).toNat)
  case atStart => exact .inl ⟨rfl, rfl⟩
  case round =>
    rcases hrel with ⟨rfl, rfl⟩ | ⟨rfl, rfl⟩ | ⟨rfl, rfl⟩
    · go_wp2
      exact ⟨.inr (.inl ⟨rfl, rfl⟩), by simp [intOf]⟩
    · go_wp2
      exact ⟨.inr (.inr ⟨rfl, by go_num⟩), by simp [intOf]⟩
    · go_wp2_with fail
      refine (grow_sp _ _ (by omega)).mono ?_
      rintro e w1 ⟨v1, rfl, V0, hb1⟩
      have R1 := Lib.hid (HR.out.keep hb1)
      have R2 := Lib.hid (HR2.out.keep hb1)
      obtain ⟨⟨x0, x1⟩, y0, y1⟩ := cells2 (kept_at hb1 HBH.out)
      have hV0 := Lib.hid V0
      clear V0
      go_wp2
      go_loopw [6, 27] (fun v i wr => Below w.heap.size w1 wr ∧ w1.heap.size ≤ wr.heap.size ∧ ((i = .int .i64 0 ∧ wr.ownsRow w.heap.size 44 2 v 0 []) ∨ (i = .int .i64 1 ∧ wr.ownsRow w.heap.size 44 2 v l.length (l.flatMap spc)) ∨ (i = .int .i64 2 ∧ wr.ownsRow w.heap.size 44 2 v (l.length + m.length) (l.flatMap spc ++ m.flatMap spc)))) (fun _ i _ => 2 - (intOf i).toNat)
      case atStart => exact ⟨Below.refl _ _, Nat.le_refl _, .inl ⟨rfl, hV0.out⟩⟩
      case round =>
        obtain ⟨hb, hsz, (⟨rfl, V⟩ | ⟨rfl, V⟩ | ⟨rfl, V⟩)⟩ := hrel
        · obtain ⟨⟨x0, x1⟩, y0, y1⟩ := cells2 (kept_at (hb1.trans hb) HBH.out)
          go_wp2_with (at_builtin; refine wpList_append_L 45 44 i0 _ Tryd.underlying45 hi hz0 hz1 hz2 rfl (by omega) (by omega) spc rSpan_enc rSpan_one rfl _ _ rfl w.heap.size _ 0 [] rfl V _ l rfl (HR.out.keep (hb1.trans hb)) (by omega) (Nat.le_trans hb1.size hsz) ?_; intro v' w6 hown' hgrow hat)
          have hb6 := own_grown V hgrow (N := w.heap.size) (Nat.le_refl _) (Nat.le_trans hb1.size hsz)
          exact ⟨⟨hb.trans hb6, Nat.le_trans hsz hb6.size, .inr (.inl ⟨rfl, by simpa using hown'⟩)⟩, by simp [intOf]⟩
        · obtain ⟨⟨x0, x1⟩, y0, y1⟩ := cells2 (kept_at (hb1.trans hb) HBH.out)
          go_wp2_with (at_builtin; refine wpList_append_L 45 44 i0 _ Tryd.underlying45 hi hz0 hz1 hz2 rfl (by omega) (by omega) spc rSpan_enc rSpan_one rfl _ _ rfl w.heap.size _ l.length (l.flatMap spc) rfl V _ m rfl (HR2.out.keep (hb1.trans hb)) (by omega) (Nat.le_trans hb1.size hsz) ?_; intro v' w6 hown' hgrow hat)
          have hb6 := own_grown V hgrow (N := w.heap.size) (Nat.le_refl _) (Nat.le_trans hb1.size hsz)
          exact ⟨⟨hb.trans hb6, Nat.le_trans hsz hb6.size, .inr (.inr ⟨rfl, hown'⟩)⟩, by simp [intOf]⟩
        · have HN : Hid (NewS w.heap.size wr _ (l ++ m)) := ⟨by rw [List.length_append, List.flatMap_append]; exact V, HW.out, by simp; omega⟩
          have hbb := hb1.trans hb
          clear V
          go_wp2
          go_ret
          exact ⟨_, rfl, HN.out, hbb⟩

theorem union_calls (w : World) (v u : Value) (l m : List Sp) (hr : RdS w v l) (hr2 : RdS w u m) (hn : l.length ≤ 40000) (hn2 : m.length ≤ 40000) :
    Calls Tryd.prog 45 #[v, u] w fun e w' => ∃ v' l', e = .returned v' ∧ NewS w.heap.size w' v' l' ∧ IsSet (fun k => Mem k l ∨ Mem k m) l' ∧ l'.length ≤ l.length + m.length ∧ Below w.heap.size w w' := by
  obtain ⟨A, cap, rfl, a1, a2, a3, -⟩ := id hr
  obtain ⟨A2, cap2, rfl, b1, b2, b3, -⟩ := id hr2
  have hb0 := (Below.refl w.heap.size w).alloc (Nat.le_refl _) (.cells #[.slice A l.length cap, .slice A2 m.length cap2] 45)
  have HR := Lib.hid (hr.keep hb0)
  have HR2 := Lib.hid (hr2.keep hb0)
  have HB := Lib.hid (heap_alloc_at w (.cells #[.slice A l.length cap, .slice A2 m.length cap2] 45))
  clear hr hr2
  go_enter Tryd.func45, Tryd.ntmps45
  go_wp2_with fail
  refine (concat_calls _ _ _ _ _ _ HB.out HR.out HR2.out (by omega) (by omega)).mono ?_
  rintro e w1 ⟨v1, rfl, N1, hb1⟩
  have hq : (l ++ m).length = l.length + m.length := List.length_append
  obtain ⟨q, hqe⟩ : ∃ q, q = l ++ m := ⟨_, rfl⟩
  rw [← hqe] at N1 hq
  have HQ := Lib.hid hqe
  have hq2 : q.length ≤ l.length + m.length := by omega
  clear hq hqe
  have hN := Lib.hid N1
  obtain ⟨A3, cap3, rfl⟩ := N1.form
  have hb1 := hb0.trans (hb1.mono hb0.size)
  clear N1
  go_wp2_with fail
  refine (make_calls _ _ _ hN.out.rd (by omega)).mono ?_
  rintro e w2 ⟨v2, a, rfl, N2, hset, hal, hb2⟩
  obtain ⟨A4, cap4, rfl⟩ := N2.form
  have HN2 := Lib.hid N2
  have HS := Lib.hid hset
  clear N2 hset
  go_wp2
  go_ret
  exact ⟨_, _, rfl, HN2.out.mono hb1.size, HS.out.of fun k => by rw [HQ.out]; exact mem_append, by omega, hb1.trans (hb2.mono hb1.size)⟩

theorem minus_calls (w : World) (v u : Value) (l m : List Sp) (hr : RdS w v l) (hr2 : RdS w u m) (hn : l.length ≤ 40000) (hn2 : m.length ≤ 40000) :
    Calls Tryd.prog 37 #[v, u] w fun e w' => ∃ v' l', e = .returned v' ∧ NewS w.heap.size w' v' l' ∧ IsSet (fun k => Mem k l ∧ ¬ Mem k m) l' ∧ l'.length ≤ l.length + m.length + 1 ∧ Below w.heap.size w w' := by
  have HW := Lib.hid hr.wf
  have HR := Lib.hid hr
  have HR2 := Lib.hid hr2
  clear hr hr2
  go_enter Tryd.func37, Tryd.ntmps37
  go_wp2_with fail
  refine (not_calls _ _ _ HR2.out (by omega)).mono ?_
  rintro e w1 ⟨v1, a, rfl, N1, hset, hal, hb1⟩
  obtain ⟨A3, cap3, rfl⟩ := N1.form
  have hN := Lib.hid N1
  have HS := Lib.hid hset
  have HR3 := Lib.hid (HR.out.keep hb1)
  clear N1 hset
  go_wp2_with fail
  refine (meet_calls _ _ _ _ _ HR3.out hN.out.rd (by omega) (by omega)).mono ?_
  rintro e w2 ⟨v2, b, rfl, N2, hset2, hal2, hb2⟩
  obtain ⟨A4, cap4, rfl⟩ := N2.form
  have HN2 := Lib.hid N2
  have HS2 := Lib.hid hset2
  clear N2 hset2
  go_wp2
  go_ret
  refine ⟨_, _, rfl, HN2.out.mono hb1.size, HS2.out.of fun k => ?_, by omega, hb1.trans (hb2.mono hb1.size)⟩
  rw [HS.out.iff]
  have h := fun hk => WfS.lt HW.out (k := k) hk
  grind

end Go.Proofs.YtfapeemdlphjbaaDoor
