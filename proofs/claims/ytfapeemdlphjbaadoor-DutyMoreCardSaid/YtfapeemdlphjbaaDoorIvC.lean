import Derived.Test.YtfapeemdlphjbaaDoorIvB
import Derived.Deep.DeepCutAuto
namespace Go.Proofs.YtfapeemdlphjbaaDoor
open Go.RowKit
attribute [local go_sem] World.cell?_alloc_some frozen_alloc_some

theorem RdS.tail {w : World} {b o cap : Nat} {s : Sp} {x : List Sp} (h : RdS w (.slice (some ⟨b, o, none⟩) (s :: x).length cap) (s :: x)) :
    RdS w (.slice (if cap = 1 then some ⟨b, o, none⟩ else some ⟨b, o + 2, none⟩) x.length (cap - 1)) x := by
  obtain ⟨A', c', e, h1, h2, h3, h4⟩ := h
  cases e
  simp only [List.length_cons] at h1 h3
  by_cases hc : cap = 1
  · have hx : x = [] := List.length_eq_zero_iff.1 (by omega)
    subst hx
    exact ⟨_, _, rfl, by simp, by omega, ⟨by simp, fun h => by split at h <;> cases h⟩, fun i hi => by simp at hi⟩
  · rw [if_neg hc]
    refine ⟨_, _, rfl, by omega, by omega, ⟨by omega, fun h => by cases h⟩, fun i hi => ?_⟩
    obtain ⟨b', o', cs, e, hb, hl, hr, hcell⟩ := h4 (i + 1) (by simp; omega)
    cases e
    exact ⟨b, o + 2, cs, rfl, hb, hl, by simpa using hr, fun j hj => by rw [show o + 2 + i * 2 + j = o + (i + 1) * 2 + j by omega]; exact hcell j hj⟩

set_option maxRecDepth 100000 in
set_option maxHeartbeats 4000000 in
theorem meet_calls (w : World) (v u : Value) (l m : List Sp) (hr : RdS w v l) (hr2 : RdS w u m) (hn : l.length ≤ 50000) (hn2 : m.length ≤ 50000) :
    Calls Tryd.prog 24 #[v, u] w fun e w' => ∃ v' l', e = .returned v' ∧ NewS w.heap.size w' v' l' ∧ IsSet (fun k => Mem k l ∧ Mem k m) l' ∧ l'.length ≤ l.length + m.length ∧ Below w.heap.size w w' := by
  obtain ⟨A, cap, rfl, a1, a2, a3, -⟩ := id hr
  obtain ⟨B, bcap, rfl, b1, b2, b3, -⟩ := id hr2
  unfold maxLen at a2 b2
  have HR := Lib.hid hr
  have HR2 := Lib.hid hr2
  clear hr hr2
  go_enter Tryd.func24, Tryd.ntmps24
  go_wp2_with fail
  refine (make_calls _ _ _ HR.out (by omega)).mono ?_
  rintro e w1 ⟨v1, a, rfl, N1, hset, hal, hb1⟩
  obtain ⟨A1, cap1, rfl⟩ := N1.form
  have HSET := Lib.hid hset
  have HR3 := Lib.hid (HR2.out.keep hb1)
  clear hset
  go_wp2_with fail
  refine (make_calls _ _ _ HR3.out (by omega)).mono ?_
  rintro e w2 ⟨v2, b, rfl, N2, hset2, hbl, hb2⟩
  obtain ⟨A2, cap2, rfl⟩ := N2.form
  have HSET2 := Lib.hid hset2
  have R1 := Lib.hid (N1.rd.keep hb2)
  have R2 := Lib.hid N2.rd
  have hmeet := meetL_spec _ a b (Nat.le_refl _) HSET.out.nf hset2.nf
  have hlen := meetL_len _ a b (Nat.le_refl _)
  have HM0 := Lib.hid hmeet
  clear N1 N2 hset2 hmeet
  go_wp2
  go_loopw [0, 1, 5] (fun s t v wr => ∃ (x y o : List Sp), RdS w2 s x ∧ RdS w2 t y ∧ Hid (meetL a b = o ++ meetL x y) ∧ wr.ownsRow w2.heap.size 44 2 v o.length (o.flatMap spc) ∧ Below w2.heap.size w2 wr)
    (fun s t _ _ => (match s with | .slice _ n _ => n | _ => 0) + (match t with | .slice _ n _ => n | _ => 0))
  case atStart => exact ⟨a, b, [], R1.out, R2.out, rfl, World.ownsRow_nil _ _ _ _, Below.refl _ _⟩
  case round =>
    obtain ⟨x, y, o, hx, hy, HM, V, hbr⟩ := hrel
    obtain ⟨A6, cap6, rfl⟩ := owns_form V
    obtain ⟨A', c', rfl, x1, x2, x3, -⟩ := id hx
    obtain ⟨B', d', rfl, y1, y2, y3, -⟩ := id hy
    unfold maxLen at x2 y2
    have hol : o.length ≤ a.length + b.length := by have := congrArg List.length HM.out; simp at this; omega
    cases x with
    | nil =>
      have HM2 : Hid (meetL a b = o) := by show _ = _; rw [HM.out, meetL_nil, List.append_nil]
      have hbb := (hb1.trans (hb2.mono hb1.size)).trans (hbr.mono (Nat.le_trans hb1.size hb2.size))
      have hsz : w.heap.size ≤ w2.heap.size := Nat.le_trans hb1.size hb2.size
      go_wp2
      go_ret
      exact ⟨_, _, rfl, not_new HM0.out HM2.out V hsz (by omega), (HM0.out.of fun k => by rw [HSET.out.iff, HSET2.out.iff]), by omega, hbb⟩
    | cons x0 x =>
      cases y with
      | nil =>
        have HM2 : Hid (meetL a b = o) := by show _ = _; rw [HM.out, meetL_nil2, List.append_nil]
        have hbb := (hb1.trans (hb2.mono hb1.size)).trans (hbr.mono (Nat.le_trans hb1.size hb2.size))
        have hsz : w.heap.size ≤ w2.heap.size := Nat.le_trans hb1.size hb2.size
        go_wp2
        go_ret
        exact ⟨_, _, rfl, not_new HM0.out HM2.out V hsz (by omega), (HM0.out.of fun k => by rw [HSET.out.iff, HSET2.out.iff]), by omega, hbb⟩
      | cons y0 y =>
        obtain ⟨p1, o1, rfl, hc0, hc1, q0, q1⟩ := (hx.keep hbr).get 0 (by simp)
        obtain ⟨p2, o2, rfl, hd0, hd1, r0, r1⟩ := (hy.keep hbr).get 0 (by simp)
        simp only [List.getElem_cons_zero, Nat.add_zero, Nat.zero_mul, List.length_cons] at hc0 hc1 hd0 hd1 q0 q1 r0 r1 x1 y1 x3 y3
        obtain ⟨lo, hlo⟩ : ∃ lo, lo = max x0.1 y0.1 := ⟨_, rfl⟩
        obtain ⟨hi, hhi⟩ : ∃ hi, hi = min x0.2 y0.2 := ⟨_, rfl⟩
        have e1 : max (x0.1 : Int) (y0.1 : Int) = (lo : Int) := by omega
        have e2 : min (x0.2 : Int) (y0.2 : Int) = (hi : Int) := by omega
        have hx' := hx.tail
        have hy' := hy.tail
        have hstep := meetL_cons x0 y0 x y
        rw [← hlo, ← hhi] at hstep
        have HST := Lib.hid hstep
        clear hstep hlo hhi
        have hbl2 := hbr.alloc hbr.size (.cells #[.int .u32 lo, .int .u32 hi] 44)
        have V1 := V.alloc (.cells #[.int .u32 lo, .int .u32 hi] 44)
        have hsz := hbr.size
        have HV1n : Hid (∀ d, ((wr.alloc (.cells #[.int .u32 lo, .int .u32 hi] 44)).drewN d).ownsRow w2.heap.size 44 2 (.slice A6 o.length cap6) o.length (o.flatMap spc)) := fun d => owns_same V1 fun _ _ => rfl
        go_upto_region 4 with fail
        go_cut [6] (fun s6 wx => ∃ d, s6 = .pointer (some ⟨wr.heap.size, 0, none⟩) ∧ wx = (wr.alloc (.cells #[.int .u32 lo, .int .u32 hi] 44)).drewN d)
        case first =>
          go_region
          go_wp2_with fail
          go_meet
          exact ⟨_, rfl, rfl⟩
        case rest =>
          obtain ⟨d, rfl, rfl⟩ := hcut
          clear e1 e2
          by_cases hm : lo ≤ hi
          · have HST : Hid (meetL (x0 :: x) (y0 :: y) = [(lo, hi)] ++ (if x0.2 < y0.2 then meetL x (y0 :: y) else meetL (x0 :: x) y)) := by show _ = _; rw [HST.out, if_pos hm]
            by_cases hk : x0.2 < y0.2
            · have HM2 : Hid (meetL a b = (o ++ [(lo, hi)]) ++ meetL x (y0 :: y)) := by show _ = _; rw [HM.out, HST.out, if_pos hk, List.append_assoc]
              go_wp2_with (at_builtin; refine push_sp rfl _ _ rfl w2.heap.size o _ rfl (HV1n.out _) (by omega) (by simp; omega) lo hi _ _ _ rfl (by simp) rfl rfl ?_; intro v' w6 V6 hb6 ho6; have hb7 := hbl2.trans (undrewN hb6); have R6x := hx.keep hb7; have R6y := hy.keep hb7; obtain ⟨_, _, eq1, hc0', hc1', _⟩ := R6x.get 0 (by simp); obtain ⟨_, _, eq2, hd0', hd1', _⟩ := R6y.get 0 (by simp); cases eq1; cases eq2; simp only [List.getElem_cons_zero, Nat.add_zero, Nat.zero_mul] at hc1' hd1')
              go_quiet (fail)
              go_wp2
              go_roundw
              case rel => exact ⟨x, y0 :: y, o ++ [(lo, hi)], hx', hy, HM2, V6, hb7.trans (below_drewN _ _ _)⟩
              case measure => simp
            · have HM2 : Hid (meetL a b = (o ++ [(lo, hi)]) ++ meetL (x0 :: x) y) := by show _ = _; rw [HM.out, HST.out, if_neg hk, List.append_assoc]
              go_wp2_with (at_builtin; refine push_sp rfl _ _ rfl w2.heap.size o _ rfl (HV1n.out _) (by omega) (by simp; omega) lo hi _ _ _ rfl (by simp) rfl rfl ?_; intro v' w6 V6 hb6 ho6; have hb7 := hbl2.trans (undrewN hb6); have R6x := hx.keep hb7; have R6y := hy.keep hb7; obtain ⟨_, _, eq1, hc0', hc1', _⟩ := R6x.get 0 (by simp); obtain ⟨_, _, eq2, hd0', hd1', _⟩ := R6y.get 0 (by simp); cases eq1; cases eq2; simp only [List.getElem_cons_zero, Nat.add_zero, Nat.zero_mul] at hc1' hd1')
              go_quiet (fail)
              go_wp2
              go_roundw
              case rel => exact ⟨x0 :: x, y, o ++ [(lo, hi)], hx, hy', HM2, V6, hb7.trans (below_drewN _ _ _)⟩
              case measure => simp
          · have HST : Hid (meetL (x0 :: x) (y0 :: y) = (if x0.2 < y0.2 then meetL x (y0 :: y) else meetL (x0 :: x) y)) := by show _ = _; rw [HST.out, if_neg hm]; rfl
            by_cases hk : x0.2 < y0.2
            · have HM2 : Hid (meetL a b = o ++ meetL x (y0 :: y)) := by show _ = _; rw [HM.out, HST.out, if_pos hk]
              go_wp2
              go_quiet (fail)
              go_wp2
              go_roundw
              case rel => exact ⟨x, y0 :: y, o, hx', hy, HM2, HV1n.out _, hbl2.trans (below_drewN _ _ _)⟩
              case measure => simp
            · have HM2 : Hid (meetL a b = o ++ meetL (x0 :: x) y) := by show _ = _; rw [HM.out, HST.out, if_neg hk]
              go_wp2
              go_quiet (fail)
              go_wp2
              go_roundw
              case rel => exact ⟨x0 :: x, y, o, hx, hy', HM2, HV1n.out _, hbl2.trans (below_drewN _ _ _)⟩
              case measure => simp
end Go.Proofs.YtfapeemdlphjbaaDoor
