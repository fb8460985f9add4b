import Derived.Test.YtjlkkbjolfhobaaDoorArI
namespace Go.Proofs.YtjlkkbjolfhobaaDoor
open Go.RowKit
attribute [local go_sem] World.cell?_alloc_some frozen_alloc_some Oper.semAt_some

/-- The loop's frame. -/
def cact (w : World) (A : Option Addr) (nA cA : Nat) (m : Int) (x : Nat × Sp) (bx : Nat) : Act :=
  { tmps := #[.slice A nA cA, .int .i64 m, undef, .pointer (some ⟨w.heap.size, 0, none⟩), .pointer (some ⟨w.heap.size + 1, 0, none⟩), .pointer (some ⟨w.heap.size + 1 + 1 + 1, 0, none⟩), .int .i64 x.1, .pointer (some ⟨bx, 0, none⟩), .slice (some ⟨w.heap.size + 1 + 1, 0, none⟩) 0 0, .int .i64 m, .bool false, undef, .slice A nA cA, .func (.func 56) #[] #[.pointer (some ⟨w.heap.size + 1 + 1 + 1 + 1, 0, none⟩)], .int .i64 x.1, .agg #[.int .u32 x.2.1, .int .u32 x.2.2], undef, undef, undef, undef, undef, undef, undef, undef, undef, undef, undef, undef], defers := [] }

set_option maxRecDepth 100000 in
set_option maxHeartbeats 8000000 in
theorem lcells_calls (w : World) (v : Value) (a : Ar) (m : Int) (hr : RdA w v a) (hs : Sm 100000 a) (hlen : (cellsL a).length ≤ 1000000) :
    Calls Tryd.prog 19 #[v, .int .i64 m] w fun e w' => ∃ u, e = .returned u ∧ IsC 0 (fun _ => 0) w' u ((cellsL a).take m.toNat) ∧ Below w.heap.size w w' := by
  obtain ⟨A, cap, rfl, a1, a2, a3, -⟩ := id hr
  have HR := Lib.hid hr
  have HS := Lib.hid hs
  clear hr hs
  obtain ⟨j0, hj, hz0, hz1, hz2⟩ := info_parts infoCell
  refine callsIn_wide (n := 99) |>.1 ?_
  refine callsIn_of_wp_marks Tryd.func19 rfl trivial ?_ rfl
  simp only [Tryd.ntmps19, List.size_toArray, List.length_cons, List.length_nil, Nat.reduceAdd, Nat.reduceSub, Array.replicate_succ, Array.replicate_zero, List.push_toArray, List.append_toArray, List.nil_append, List.cons_append]
  by_cases hm : m ≤ 0
  · have hm0 : m.toNat = 0 := by omega
    gi_wp2
    have o2 := World.ownsRow_made (base := 0) (e := 39) (size := 3) ((w.alloc (.cells #[.int .i64 m] 3)).alloc (.cells #[.slice (some ⟨w.heap.size + 1 + 1, 0, none⟩) 0 0] 34)) #[] 0 (Nat.zero_le _) (Nat.zero_le _) rfl
    have hb := (((((Below.refl w.heap.size w).alloc (Nat.le_refl _) (.cells #[.int .i64 m] 3)).alloc (by simp only [World.size_alloc]; omega) (.cells #[.slice (some ⟨w.heap.size + 1 + 1, 0, none⟩) 0 0] 34)).alloc (by simp only [World.size_alloc]; omega) (.cells #[] 39)).alloc (by simp only [World.size_alloc]; omega) (.cells #[.slice (some ⟨w.heap.size + 1 + 1, 0, none⟩) 0 0] 34))
    simp only [World.size_alloc] at o2
    refine ⟨.slice (some ⟨w.heap.size + 1 + 1, 0, none⟩) 0 0, by simp [results, Tryd.results19, go_sem], _, rfl, ?_, hb⟩
    rw [hm0]
    exact ⟨o2.alloc _, fun b e => rfl⟩
  · gi_wp2_with (refine ⟨trivial, ?_⟩; gi_at_call 39; refine (callsIn_wide.2 (cells_calls _ _ _ _)).mono ?_; rintro e w' ⟨rfl, rfl⟩)
    obtain ⟨W0, hW0, hb0, hsz, H0, hbx⟩ := ci_start w A a.length cap m 1 (fun _ => 0)
    rw [← hW0]
    clear hW0
    refine wp_rangeC (gf := 56) (lb := #[.pointer (some ⟨w.heap.size + 1 + 1 + 1 + 1, 0, none⟩)]) (Y := YCell) (xs := cellsL a) (Co := (· = 1)) (T := fun x => x = 3) (cR := 2) (χ := paint (fun _ => 0) w.heap.size 1) (Zt := fun _ _ => True)
      rfl (enters_of Tryd.func56 (by kernel_rfl) rfl) (by decide) (by decide)
      (fun W hb => cells_iter w W _ _ a HR.out HS.out (hb0.trans (hb.mono hb0.size)) (fun b hb => by rw [paint_low (by omega), paint_low hb]; omega) (by omega) ((World.cell?_of_block (hb.block (w.heap.size + 1 + 1 + 1 + 1) (by omega))).trans hbx))
      (fun pre χ1 W => CI w.heap.size m 1 pre χ1 W ∧ (pre.length : Int) < m)
      (fun c pre χ1 W => c = .ret ∧ ∃ v, (pre.length : Int) = m ∧ (χ1 (w.heap.size + 1) = 1 ∧ W.cell? ⟨w.heap.size + 1, 0, none⟩ = some v) ∧ IsC 1 χ1 W v pre)
      (fun pre x a₁ χ1 W => CI w.heap.size m 1 pre χ1 W ∧ (pre.length : Int) < m ∧ ∃ bx, a₁ = cact w A a.length cap m x bx ∧ χ1 bx = 1 ∧ W.heap[bx]? = some (.cells #[.int .u32 x.2.1, .int .u32 x.2.2] 37))
      ?hI ?hIx ?hZ ⟨H0, by simp; omega⟩ ?assign ?body ?done ?zt ?stop ?cw
    case zt => exact fun _ _ _ _ _ _ => trivial
    case cw =>
      intro b hb
      by_cases h : b < w.heap.size
      · rw [paint_low h]; decide
      · rw [paint_high (by omega)]; decide
    case hI => exact fun pre χ1 χ2 W W' h hs => ⟨h.1.keep hs, h.2⟩
    case hIx =>
      rintro c pre χ1 χ2 W W' ⟨rfl, v, h1, ⟨h2, h3⟩, h4⟩ hs
      have k := hs _ (World.block_lt_of_cell? W _ h3) h2
      exact ⟨rfl, v, h1, ⟨k.1.trans h2, (World.cell?_of_block k.2).trans h3⟩, h4.keep hs⟩
    case hZ =>
      rintro pre x a₁ χ1 χ2 W W' ⟨h1, h2, bx, h3, h4, h5⟩ hs
      have k := hs bx (Array.getElem?_eq_some_iff.1 h5).1 h4
      exact ⟨h1.keep hs, h2, bx, h3, k.1.trans h4, k.2.trans h5⟩
    case assign =>
      rintro m' l pre x rest vs χ1 W hx ⟨hi, hlt⟩ rfl
      refine ⟨rfl, ?_⟩
      gi_wp2
      have hb1 := (Below.refl W.heap.size W).alloc (Nat.le_refl _) (.cells #[.int .u32 x.2.1, .int .u32 x.2.2] 37)
      exact ⟨paint χ1 W.heap.size 1, fun b hb => paint_low hb, Chg.of_below hb1, hi.keep (Same.below 1 hb1), hlt, _, rfl, paint_high (Nat.le_refl _), heap_alloc_at W _⟩
    case body =>
      rintro m' l pre x rest a₁ χ1 W hx ⟨hCI, hlt, bx, rfl, hbc, hbh⟩
      obtain ⟨⟨k1, k2⟩, ⟨k3, k4⟩, v, ⟨k5, k6⟩, k7, k8⟩ := hCI
      have hpl : pre.length + 1 ≤ 1000000 := by have := congrArg List.length hx; simp at this; omega
      obtain ⟨A1, cap1, rfl⟩ := owns_form k7.1
      have k7o := k7.1
      have k4c := k4.1; have k4f := k4.2; have k6c := k6.1; have k6f := k6.2
      obtain ⟨⟨b0, b1⟩, -⟩ := cells2 hbh
      have K8 := Lib.hid k8; have K7 := Lib.hid k7; have K6 := Lib.hid k6; have K4 := Lib.hid k4; have K1 := Lib.hid k1; have K3 := Lib.hid k3; have K5 := Lib.hid k5
      clear k8 k7 k6 k4 k1 k3 k5
      unfold cact
      by_cases hm1 : (pre.length : Int) + 1 < m
      · gi_wp2_with (gi_at_builtin; refine wpListIn_append_own_at _ rfl _ _ 34 rfl 0 39 j0 _ 3 16 Tryd.underlying34 hj hz0 hz1 hz2 rfl (by decide) _ _ _ rfl (k7o.alloc _) ⟨W.heap.size, 0, none⟩ 1 1 [.int .i64 x.1, .int .u32 x.2.1, .int .u32 x.2.2] rfl rfl (World.news_of_block (heap_alloc_new W _)) (by simp [Value.oneCell']) (by unfold maxLen; omega) (by omega) (Nat.zero_le _) ?_; intro v' w1 hown' hgrow _ hat; obtain ⟨g', cap', rfl⟩ := ownsRow_succ hown'; have q3 := keep_grown (a := ⟨w.heap.size + 1 + 1 + 1, 0, none⟩) hgrow (fun e => (K8.out _ e.symm).2 rfl) (keep_alloc (a := ⟨w.heap.size + 1 + 1 + 1, 0, none⟩) _ k6c k6f).1 (keep_alloc (a := ⟨w.heap.size + 1 + 1 + 1, 0, none⟩) _ k6c k6f).2; obtain ⟨q3c, q3f⟩ := q3; have q1 := keep_grown (a := ⟨w.heap.size + 1, 0, none⟩) hgrow (fun e => by have := (K8.out _ e.symm).1; simp at this) (keep_alloc (a := ⟨w.heap.size + 1, 0, none⟩) _ k4c k4f).1 (keep_alloc (a := ⟨w.heap.size + 1, 0, none⟩) _ k4c k4f).2; obtain ⟨q1c, q1f⟩ := q1; have q0 : w1.cell? ⟨w.heap.size, 0, none⟩ = some (.int .i64 m) := (World.cell?_of_block ((hgrow.block w.heap.size (by have := World.block_lt_of_cell? W _ k2; simp at this ⊢; omega) (fun e => by have := (K8.out _ e.symm).1; omega)).trans (Below.heap_alloc _ _ _ (World.block_lt_of_cell? W _ k2)))).trans k2)
        have K4' : Var W (w.heap.size + 1) (.slice none 0 0) := ⟨k4c, k4f⟩
        obtain ⟨χ2, z1, z2, z3⟩ := CI.push (x := x) ⟨K1.out, k2⟩ ⟨K3.out, K4'⟩ ⟨K5.out, K6.out⟩ K7.out K8.out hown' hgrow hat
        exact ⟨χ2, z1, z2, z3, by simp; omega⟩
      · have hm2 : m = (pre.length : Int) + 1 := by omega
        gi_wp2_with (gi_at_builtin; refine wpListIn_append_own_at _ rfl _ _ 34 rfl 0 39 j0 _ 3 16 Tryd.underlying34 hj hz0 hz1 hz2 rfl (by decide) _ _ _ rfl (k7o.alloc _) ⟨W.heap.size, 0, none⟩ 1 1 [.int .i64 x.1, .int .u32 x.2.1, .int .u32 x.2.2] rfl rfl (World.news_of_block (heap_alloc_new W _)) (by simp [Value.oneCell']) (by unfold maxLen; omega) (by omega) (Nat.zero_le _) ?_; intro v' w1 hown' hgrow _ hat; obtain ⟨g', cap', rfl⟩ := ownsRow_succ hown'; have q3 := keep_grown (a := ⟨w.heap.size + 1 + 1 + 1, 0, none⟩) hgrow (fun e => (K8.out _ e.symm).2 rfl) (keep_alloc (a := ⟨w.heap.size + 1 + 1 + 1, 0, none⟩) _ k6c k6f).1 (keep_alloc (a := ⟨w.heap.size + 1 + 1 + 1, 0, none⟩) _ k6c k6f).2; obtain ⟨q3c, q3f⟩ := q3; have q1 := keep_grown (a := ⟨w.heap.size + 1, 0, none⟩) hgrow (fun e => by have := (K8.out _ e.symm).1; simp at this) (keep_alloc (a := ⟨w.heap.size + 1, 0, none⟩) _ k4c k4f).1 (keep_alloc (a := ⟨w.heap.size + 1, 0, none⟩) _ k4c k4f).2; obtain ⟨q1c, q1f⟩ := q1; have q0 : w1.cell? ⟨w.heap.size, 0, none⟩ = some (.int .i64 m) := (World.cell?_of_block ((hgrow.block w.heap.size (by have := World.block_lt_of_cell? W _ k2; simp at this ⊢; omega) (fun e => by have := (K8.out _ e.symm).1; omega)).trans (Below.heap_alloc _ _ _ (World.block_lt_of_cell? W _ k2)))).trans k2)
        have K4' : Var W (w.heap.size + 1) (.slice none 0 0) := ⟨k4c, k4f⟩
        obtain ⟨χ2, z1, z2, z3⟩ := CI.push (x := x) ⟨K1.out, k2⟩ ⟨K3.out, K4'⟩ ⟨K5.out, K6.out⟩ K7.out K8.out hown' hgrow hat
        obtain ⟨A2, cap2, y1, y2, y3, y4, y5⟩ := z3.fin
        have e1 := (Var.set ⟨q3c, q3f⟩ (.slice (some ⟨g', 0, none⟩) (pre.length + 1) cap')).1.symm.trans y1
        simp only [List.length_append, List.length_cons, List.length_nil, Nat.zero_add] at e1 y5
        rw [← Option.some.inj e1] at y5
        exact ⟨χ2, z1, z2.step (Chg.setCell _ ⟨w.heap.size + 1, 0, none⟩ _ (show χ1 (w.heap.size + 1) = 1 from K3.out)), rfl, by simp, _, ⟨y4, y5.out.1⟩, y5.out.2⟩
    case done =>
      rintro D χ2 W hD cD ag hch hzt ⟨hi, hlt⟩ hK
      obtain ⟨A1, cap1, y1, y2, y3, y4, y5⟩ := hi.fin
      have hbel : Below w.heap.size w W := hb0.trans (hch.below (n := w.heap.size) (fun b hb => by rw [paint_low hb]; omega) (by omega))
      clear hch ag hi
      gi_wp2
      have hDn : D ≠ w.heap.size + 1 := by omega
      have hK2 : (W.setCell ⟨w.heap.size + 1, 0, none⟩ (.slice A1 (cellsL a).length cap1)).heap[D]? = some (.deferred (some [])) := (Below.heap_setCell _ _ _ _ hDn).trans hK
      refine ⟨by simp, .inl ⟨_, _, rfl, run_takeDeferred hK2, ?_⟩⟩
      have cD2 : ((W.setCell ⟨w.heap.size + 1, 0, none⟩ (.slice A1 (cellsL a).length cap1)).putObj D (.deferred none)).cell? ⟨w.heap.size + 1, 0, none⟩ = some (.slice A1 (cellsL a).length cap1) :=
        (World.cell?_of_block (World.putObj_heap_other (fun e => hDn e.symm))).trans y5.out.1
      have h2 : Below w.heap.size W ((W.setCell ⟨w.heap.size + 1, 0, none⟩ (.slice A1 (cellsL a).length cap1)).putObj D (.deferred none)) := ⟨rfl, rfl, rfl, by simp [World.setCell], fun b hb => (World.putObj_heap_other (by omega)).trans (Below.heap_setCell _ _ _ _ (by show b ≠ w.heap.size + 1; omega))⟩
      refine ⟨.slice A1 (cellsL a).length cap1, by simp [results, Tryd.results19, go_sem, cD2], _, rfl, ?_, hbel.trans h2⟩
      rw [List.take_of_length_le (by omega)]
      exact ⟨(y5.out.2.hiPut D 2 _ cD (by decide)).1, fun b e => rfl⟩
    case stop =>
      rintro D χ2 c pre W hD cD ag hch hp ⟨rfl, v, h1, ⟨h2, h3⟩, h4⟩ hK
      have hbel : Below w.heap.size w W := hb0.trans (hch.below (n := w.heap.size) (fun b hb => by rw [paint_low hb]; omega) (by omega))
      clear hch ag
      gi_wp2
      refine ⟨by simp, .inl ⟨_, _, rfl, run_takeDeferred hK, ?_⟩⟩
      have hDn : D ≠ w.heap.size + 1 := by omega
      have cD2 : (W.putObj D (.deferred none)).cell? ⟨w.heap.size + 1, 0, none⟩ = some v :=
        (World.cell?_of_block (World.putObj_heap_other (fun e => hDn e.symm))).trans h3
      have hb2 : Below w.heap.size W (W.putObj D (.deferred none)) := ⟨rfl, rfl, rfl, by simp, fun b hb => World.putObj_heap_other (by omega)⟩
      refine ⟨v, by simp [results, Tryd.results19, go_sem, cD2], _, rfl, ?_, hbel.trans hb2⟩
      rw [show (cellsL a).take m.toNat = pre by rw [show m.toNat = pre.length by omega]; exact (List.prefix_iff_eq_take.1 hp).symm]
      exact ⟨(h4.hiPut D 2 _ cD (by decide)).1, fun b e => rfl⟩
end Go.Proofs.YtjlkkbjolfhobaaDoor
