import Derived.Test.YtfapeemdlphjbaaDoorSpSort
import Derived.Test.YtfapeemdlphjbaaDoorIvQ
import Derived.RangeFuncBox
import Derived.Outline
namespace Go.Proofs.YtfapeemdlphjbaaDoor
open Go.RowKit
attribute [local go_sem] World.cell?_alloc_some frozen_alloc_some

theorem own_last {w : World} {base g cap : Nat} {o : List Sp} {t : Sp} (h : w.ownsRow base 44 2 (.slice (some ⟨g, 0, none⟩) (o ++ [t]).length cap) (o ++ [t]).length ((o ++ [t]).flatMap spc)) :
    (w.cell? ⟨g, o.length * 2, none⟩ = some (.int .u32 t.1) ∧ w.cell? ⟨g, o.length * 2 + 1, none⟩ = some (.int .u32 t.2)) ∧ w.frozen? ⟨g, o.length * 2 + 1, none⟩ = false := by
  have hl := flat_len spc 2 (fun _ => rfl) o
  have e : ∀ j, (⟨g, 0, none⟩ : Addr).add j = ⟨g, j, none⟩ := fun j => by simp only [Addr.add]; split <;> simp_all
  have c0 := h.cells (g := g) rfl (o.length * 2) (.int .u32 t.1) (by rw [List.flatMap_append, List.getElem?_append_right (by omega), hl]; simp [spc])
  have c1 := h.cells (g := g) rfl (o.length * 2 + 1) (.int .u32 t.2) (by rw [List.flatMap_append, List.getElem?_append_right (by omega), hl]; simp [spc])
  rw [e] at c0 c1
  refine ⟨⟨c0, c1⟩, ?_⟩
  obtain ⟨h1, (⟨e, -⟩ | ⟨g', cap', cur, e, hg, hh, -⟩)⟩ := h
  · cases e
  · cases e
    simp [World.frozen?, hh]
theorem _root_.Go.World.ownsRow.lt1 {w : World} {base e sz g o n m cap : Nat} {xs : List Value} (h : w.ownsRow base e sz (.slice (some ⟨g, o, none⟩) n cap) m xs) : base ≤ g := (h.lt g rfl).1
theorem own_set {w : World} {base g cap : Nat} {o : List Sp} {t : Sp} {m : Nat} (h : w.ownsRow base 44 2 (.slice (some ⟨g, 0, none⟩) (o ++ [t]).length cap) (o ++ [t]).length ((o ++ [t]).flatMap spc)) :
    (w.setCell ⟨g, o.length * 2 + 1, none⟩ (.int .u32 m)).ownsRow base 44 2 (.slice (some ⟨g, 0, none⟩) (o ++ [t]).length cap) (o ++ [(t.1, m)]).length ((o ++ [(t.1, m)]).flatMap spc) := by
  have hl := flat_len spc 2 (fun _ => rfl) o
  have := owns_setCell (o := o.length * 2 + 1) (v := .int .u32 m) h
  have e : ((o ++ [t]).flatMap spc).set (o.length * 2 + 1) (.int .u32 m) = (o ++ [(t.1, m)]).flatMap spc := by
    rw [List.flatMap_append, List.set_append_right _ _ (by omega), hl, List.flatMap_append]
    simp [spc]
  rw [e] at this
  simpa using this

set_option maxRecDepth 100000 in
set_option maxHeartbeats 4000000 in
theorem make_calls (w : World) (v : Value) (l : List Sp) (hr : RdS w v l) (hn : l.length ≤ 100000) :
    Calls Tryd.prog 22 #[v] w fun e w' => ∃ v' l', e = .returned v' ∧ NewS w.heap.size w' v' l' ∧ IsSet (fun k => Mem k l) l' ∧ l'.length ≤ l.length ∧ Below w.heap.size w w' := by
  obtain ⟨A, cap, rfl, a1, a2, a3, -⟩ := id hr
  unfold maxLen at a2
  have hwf := hr.wf
  have HW := Lib.hid hwf
  have HR := Lib.hid hr
  clear hr hwf
  obtain ⟨i0, hi, hz0, hz1, hz2⟩ := info_parts infoSp
  go_enter Tryd.func22, Tryd.ntmps22
  go_wp2
  go_loopw [3, 12] (fun v i wr => ∃ j : Nat, j ≤ l.length ∧ i = .int .i64 j ∧ wr.ownsRow w.heap.size 44 2 v ((l.take j).filter okSp).length (((l.take j).filter okSp).flatMap spc) ∧ Below w.heap.size w wr) (fun _ i _ => l.length - (intOf i).toNat)
  case atStart => exact ⟨0, by omega, rfl, World.ownsRow_nil _ _ _ _, Below.refl _ _⟩
  case round =>
    obtain ⟨j, hj, rfl, V, hb⟩ := hrel
    by_cases hlt : j < l.length
    · obtain ⟨gb, go, rfl, p0, p1, q0, q1⟩ := (HR.out.keep hb).get j hlt
      have hT : Hid (l.take (j + 1) = l.take j ++ [l[j]]) := List.take_succ_eq_append_getElem hlt
      have hfl : ((l.take j).filter okSp).length ≤ j := Nat.le_trans (List.length_filter_le _ _) (by simp; omega)
      obtain ⟨s, hs⟩ : ∃ s, s = l[j] := ⟨_, rfl⟩
      rw [← hs] at p0 p1 q0 q1 hT
      obtain ⟨xs, hxs⟩ : ∃ xs, xs = (l.take j).filter okSp := ⟨_, rfl⟩
      rw [← hxs] at V hfl
      have HX := Lib.hid hxs
      have HS := Lib.hid hs
      clear hxs hs
      obtain ⟨A5, cap5, rfl⟩ := owns_form V
      have V1 := V.alloc (.cells #[.int .u32 s.1, .int .u32 s.2] 44)
      have hbl := hb.alloc hb.size (.cells #[.int .u32 s.1, .int .u32 s.2] 44)
      have hsz := hb.size
      by_cases hk : s.1 ≤ s.2
      · have HK := Lib.hid hk
        go_wp2_with (at_builtin; refine wpList_append_own_at _ rfl _ _ 45 rfl w.heap.size 44 i0 _ 2 8 Tryd.underlying45 hi hz0 hz1 hz2 rfl (by decide) _ _ _ rfl (V1.alloc _) ⟨wr.heap.size + 1, 0, none⟩ 1 1 [.int .u32 s.1, .int .u32 s.2] rfl rfl (World.news_of_block (by have := heap_alloc_new (wr.alloc (.cells #[.int .u32 s.1, .int .u32 s.2] 44)) (.cells #[.int .u32 s.1, .int .u32 s.2] 44); simpa using this)) (by simp [Value.oneCell']) (by unfold maxLen; omega) (by omega) (by simp; omega) ?_; intro v' w6 hown' hgrow _ hat)
        have hbp := push_below V1 hgrow (N := w.heap.size) (Nat.le_refl _) (by simp; omega)
        refine ⟨⟨j + 1, hlt, by go_num, ?_, hbl.trans hbp⟩, by simp [intOf]; omega⟩
        have e : (l.take (j + 1)).filter okSp = xs ++ [s] := by
          rw [hT.out, List.filter_append, List.filter_cons, if_pos (by unfold okSp; simpa using HK.out), HX.out]; rfl
        rw [e, List.length_append, List.flatMap_append]
        exact hown'
      · go_wp2
        refine ⟨⟨j + 1, hlt, by go_num, ?_, hbl⟩, by simp [intOf]; omega⟩
        rw [hT.out, List.filter_append, List.filter_cons, if_neg (by unfold okSp; simpa using hk), List.filter_nil, List.append_nil, ← HX.out]
        exact V1
    · have hjj : j = l.length := by omega
      subst hjj
      rw [List.take_length] at V
      have hfl : (l.filter okSp).length ≤ l.length := List.length_filter_le _ _
      obtain ⟨xs, hxs⟩ : ∃ xs, xs = l.filter okSp := ⟨_, rfl⟩
      rw [← hxs] at V hfl
      have HX := Lib.hid hxs
      clear hxs hlt hj
      obtain ⟨A5, cap5, rfl⟩ := owns_form V
      go_wp2_with fail
      refine (sort_sp _ _ _ V (by omega)).mono ?_
      rintro e w2 ⟨rfl, l2, hp, hs, V2, hg⟩
      have hb2 := hb.trans (own_grown V hg (N := w.heap.size) (Nat.le_refl _) hb.size)
      have hpl := hp.length_eq
      have HP := Lib.hid hp
      have HS := Lib.hid hs
      have hwf2 : ∀ s ∈ l2, s.1 < 4294967296 ∧ s.2 < 4294967296 := fun s h => by
        have := HP.out.mem_iff.1 h
        rw [HX.out] at this
        exact HW.out s (List.mem_filter.1 this).1
      rw [← hpl] at V2 hfl ⊢
      have R2 := Lib.hid (RdS.own V2 hwf2 (by omega))
      have V3 := Lib.hid V2
      have W2 := Lib.hid hwf2
      have HPL := Lib.hid hpl
      clear V hg hp hs hwf2 V2 hpl
      go_wp2
      go_loopw [4, 30] (fun v i wr => ∃ j : Nat, j ≤ l2.length ∧ i = .int .i64 j ∧ wr.ownsRow w2.heap.size 44 2 v (mfold (l2.take j)).length ((mfold (l2.take j)).flatMap spc) ∧ Below w2.heap.size w2 wr) (fun _ i _ => l2.length - (intOf i).toNat)
      case atStart => exact ⟨0, by omega, rfl, World.ownsRow_nil _ _ _ _, Below.refl _ _⟩
      case round =>
        obtain ⟨j, hj, rfl, V, hbr⟩ := hrel
        by_cases hlt : j < l2.length
        · obtain ⟨gb, go, rfl, p0, p1, q0, q1⟩ := (R2.out.keep hbr).get j hlt
          have hT : Hid (mfold (l2.take (j + 1)) = mstep (mfold (l2.take j)) l2[j]) := by show _ = _; rw [List.take_succ_eq_append_getElem hlt, mfold_snoc]
          have hfl2 : (mfold (l2.take j)).length ≤ j := Nat.le_trans (mfold_len _) (by simp; omega)
          obtain ⟨s, hs⟩ : ∃ s, s = l2[j] := ⟨_, rfl⟩
          rw [← hs] at p0 p1 q0 q1 hT
          clear hs
          obtain ⟨o, ho⟩ : ∃ o, o = mfold (l2.take j) := ⟨_, rfl⟩
          rw [← ho] at V hfl2 hT
          have HOW : Hid (WfS o) := by show _; rw [ho]; exact mfold_wf fun s h => W2.out s (List.mem_of_mem_take h)
          clear ho
          have hbl := hbr.alloc hbr.size (.cells #[.int .u32 s.1, .int .u32 s.2] 44)
          have V1 := V.alloc (.cells #[.int .u32 s.1, .int .u32 s.2] 44)
          have hsz := hbr.size
          rcases List.eq_nil_or_concat o with rfl | ⟨o, t, rfl⟩
          · rw [mstep_nil] at hT
            obtain ⟨A6, cap6, rfl⟩ := owns_form V
            have hT : Hid (mfold (l2.take (j + 1)) = [] ++ [s]) := hT
            have HV1n : Hid (∀ d, ((wr.alloc (.cells #[.int .u32 s.1, .int .u32 s.2] 44)).drewN d).ownsRow w2.heap.size 44 2 (.slice A6 ([] : List Sp).length cap6) ([] : List Sp).length (([] : List Sp).flatMap spc)) := fun d => owns_same V1 fun _ _ => rfl
            go_wp2
            go_quiet (fail)
            have V1n := HV1n.out nq
            go_wp2_with (at_builtin; refine wpList_append_own_at _ rfl _ _ 45 rfl w2.heap.size 44 i0 _ 2 8 Tryd.underlying45 hi hz0 hz1 hz2 rfl (by decide) _ _ _ rfl (V1n.alloc _) ⟨wr.heap.size + 1, 0, none⟩ 1 1 [.int .u32 s.1, .int .u32 s.2] rfl rfl (World.news_of_block (by have := heap_alloc_new ((wr.alloc (.cells #[.int .u32 s.1, .int .u32 s.2] 44)).drewN nq) (.cells #[.int .u32 s.1, .int .u32 s.2] 44); simpa using this)) (by simp [Value.oneCell']) (by unfold maxLen; omega) (by omega) (by simp; omega) ?_; intro v' w6 hown' hgrow _ hat)
            have hbp := push_below V1n hgrow (N := w2.heap.size) (Nat.le_refl _) (by simp; omega)
            refine ⟨⟨j + 1, hlt, by go_num, ?_, (hbl.trans (below_drewN _ _ _)).trans hbp⟩, by simp [intOf]; omega⟩
            rw [hT.out, List.length_append, List.flatMap_append]
            exact hown'
          · rw [List.concat_eq_append] at *
            rw [mstep_snoc] at hT
            obtain ⟨A6, cap6, rfl⟩ := owns_form V
            obtain ⟨g, rfl⟩ : ∃ g, A6 = some ⟨g, 0, none⟩ := by
              obtain ⟨_, (⟨e, h0⟩ | ⟨g, cap, cur, e, _⟩)⟩ := id V
              · simp at h0
              · cases e; exact ⟨g, rfl⟩
            obtain ⟨⟨c0, c1⟩, cf⟩ := own_last V
            have hfl3 : o.length + 1 ≤ j := by simpa using hfl2
            obtain ⟨t0, t1⟩ := HOW.out t (by simp)
            have HV1n : Hid (∀ d, ((wr.alloc (.cells #[.int .u32 s.1, .int .u32 s.2] 44)).drewN d).ownsRow w2.heap.size 44 2 (.slice (some ⟨g, 0, none⟩) (o ++ [t]).length cap6) (o ++ [t]).length ((o ++ [t]).flatMap spc)) := fun d => owns_same V1 fun _ _ => rfl
            have kg : decide ((0 : Int) < (o.length : Int) + 1) = true := by simp <;> omega
            have k1 : IntKind.i64.wrap ((o.length : Int) + 1 - 1) = o.length := by rw [IntKind.wrap_i64]; omega
            have k2 : IntKind.u64.wrap (s.1 : Int) = s.1 := by simp [IntKind.wrap, IntKind.bits, IntKind.signed]; omega
            have k3 : IntKind.u64.wrap (t.2 : Int) = t.2 := by simp [IntKind.wrap, IntKind.bits, IntKind.signed]; omega
            have k4 : IntKind.u64.wrap ((t.2 : Int) + 1) = t.2 + 1 := by simp [IntKind.wrap, IntKind.bits, IntKind.signed]; omega
            by_cases hk : s.1 ≤ t.2 + 1
            · rw [if_pos hk] at hT
              go_wp2
              go_quiet (fail)
              clear k2 k3 k4
              go_wp2
              go_region
              go_wp2
              have em : (max (t.2 : Int) s.2) = ((max t.2 s.2 : Nat) : Int) := by omega
              rw [em]
              refine ⟨⟨j + 1, hlt, by go_num, ?_, (hbl.trans (below_drewN _ _ _)).setCell (HV1n.out 0).lt1 _⟩, by simp [intOf]; omega⟩
              rw [hT.out]
              exact own_set (HV1n.out _)
            · rw [if_neg hk] at hT
              go_wp2
              go_quiet (fail)
              clear k1 k2 k3 k4
              have V1n := HV1n.out nq
              go_wp2_with (at_builtin; refine wpList_append_own_at _ rfl _ _ 45 rfl w2.heap.size 44 i0 _ 2 8 Tryd.underlying45 hi hz0 hz1 hz2 rfl (by decide) _ _ _ rfl (V1n.alloc _) ⟨wr.heap.size + 1, 0, none⟩ 1 1 [.int .u32 s.1, .int .u32 s.2] rfl rfl (World.news_of_block (by have := heap_alloc_new ((wr.alloc (.cells #[.int .u32 s.1, .int .u32 s.2] 44)).drewN nq) (.cells #[.int .u32 s.1, .int .u32 s.2] 44); simpa using this)) (by simp [Value.oneCell']) (by unfold maxLen; omega) (by omega) (by simp; omega) ?_; intro v' w6 hown' hgrow _ hat)
              have hbp := push_below V1n hgrow (N := w2.heap.size) (Nat.le_refl _) (by simp; omega)
              refine ⟨⟨j + 1, hlt, by go_num, ?_, (hbl.trans (below_drewN _ _ _)).trans hbp⟩, by simp [intOf]; omega⟩
              rw [hT.out, List.length_append, List.flatMap_append]
              exact hown'
        · have hjj : j = l2.length := by omega
          subst hjj
          rw [List.take_length] at V
          obtain ⟨hset, -⟩ := mfold_spec l2 (fun s h => by
            have h1 := HP.out.mem_iff.1 h
            rw [HX.out] at h1
            have h2 := (List.mem_filter.1 h1).2
            unfold okSp at h2
            exact ⟨by simpa using h2, (W2.out s h).2⟩) HS.out
          have hset : IsSet (fun k => Mem k l) (mfold l2) := hset.of fun k => by rw [mem_perm HP.out, HX.out]; exact mem_filter
          have hml := mfold_len l2
          have HN : Hid (NewS w.heap.size wr _ (mfold l2)) := ⟨V.mono_base hb2.size, mfold_wf W2.out, by omega⟩
          have HSET := Lib.hid hset
          have hbb := hb2.trans (hbr.mono hb2.size)
          clear V hset
          go_wp2
          go_ret
          exact ⟨_, _, rfl, HN.out, HSET.out, by omega, hbb⟩
end Go.Proofs.YtfapeemdlphjbaaDoor
