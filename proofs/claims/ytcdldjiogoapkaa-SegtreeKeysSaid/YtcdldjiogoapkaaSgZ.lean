import Derived.Test.YtcdldjiogoapkaaSgY
namespace Go.Proofs.Ytcdldjiogoapkaa
open Go.RowKit

theorem set_top {ns : List Nd} {i : Int} {a : Ag} {k : Bool} {l r : PT} (hr : Rep ns (.node i a k l r)) (hd : (PT.node i a k l r).ids.Nodup) (a' : Ag) (k' : Bool) : Rep (setN ns i ⟨l.idx, r.idx, a', k'⟩) (.node i a' k' l r) := by
  obtain ⟨a1, a2, a3, a4, a5⟩ := hr
  obtain ⟨e1, e2, e3, e4, e5⟩ := nodup_node hd
  exact ⟨a1, by rw [setN_len]; exact a2, getN_setN_same _ a1 a2, a4.frame (by rw [setN_len]; exact Nat.le_refl _) fun j hj => getN_setN_ne _ (fun e => e1 (e ▸ hj)), a5.frame (by rw [setN_len]; exact Nat.le_refl _) fun j hj => getN_setN_ne _ (fun e => e2 (e ▸ hj))⟩

theorem cut_law (slo shi : Nat) (h : Nat) : h ≤ 32 → ∀ (ns : List Nd) (t : PT) (lo : Nat), Rep ns t → t.ids.Nodup → Sh h t → Wf h t →
    ∃ t', Rep (cutT slo shi h ns t.idx lo) t' ∧ Like h t t' ∧ Wf h t' ∧ items h t' lo = (items h t lo).filter (fun x => !inS slo shi x) ∧ Out t ns (cutT slo shi h ns t.idx lo) := by
  have base : ∀ (h : Nat) (ns : List Nd) (t : PT) (lo : Nat), Rep ns t → Sh h t → Wf h t → t.idx = 0 ∨ outB lo h slo shi = true →
      ∃ t', Rep ns t' ∧ Like h t t' ∧ Wf h t' ∧ items h t' lo = (items h t lo).filter (fun x => !inS slo shi x) ∧ Out t ns ns := fun h ns t lo hr hs hw hc => by
    refine ⟨t, hr, ⟨rfl, rfl, fun _ => rfl, hs⟩, hw, ?_, .refl _ _⟩
    rcases hc with h0 | h0
    · rw [(idx_nil hr).1 h0]; cases h <;> rfl
    · rw [filter_out' t h0]
  have inner : ∀ (h : Nat) (ns : List Nd) (t : PT) (lo : Nat), Rep ns t → t.ids.Nodup → Sh h t → Wf h t → inB lo h slo shi = true →
      ∃ t', Rep (killN ns t.idx) t' ∧ Like h t t' ∧ Wf h t' ∧ items h t' lo = (items h t lo).filter (fun x => !inS slo shi x) ∧ Out t ns (killN ns t.idx) := fun h ns t lo hr hd hs hw hi => by
    have hk := hr.kill hd
    exact ⟨t.kill, hk.1, .kill hs, .kill _ _, by rw [filter_in' t hi, items_kill], killN_len _ _, hk.2⟩
  induction h with
  | zero =>
    intro hh ns t lo hr hd hs hw
    unfold cutT
    split
    · exact base 0 ns t lo hr hs hw (by assumption)
    · rename_i hc
      simp only [not_or] at hc
      exact inner 0 ns t lo hr hd hs hw (out_in0 hc.2)
  | succ h ih =>
    intro hh ns t lo hr hd hs hw
    unfold cutT
    split
    · exact base (h + 1) ns t lo hr hs hw (by assumption)
    · rename_i hc
      simp only [not_or] at hc
      split
      · rename_i hi; exact inner (h + 1) ns t lo hr hd hs hw hi
      · cases t with
        | nil => exact absurd rfl hc.1
        | node i a k l r =>
          obtain ⟨l1, r1, p1, p2, p3, p4, p5, p6, p7, p8, p9, p10⟩ := push_law hr hd hs hw
          have hd1 : (PT.node i a false l1 r1).ids.Nodup := nodup_like hd p3 p4
          obtain ⟨e1, e2, e3, e4, e5⟩ := nodup_node hd1
          simp only [PT.idx]
          rw [p1]
          simp only []
          obtain ⟨l2, x1, x2, x3, x4, x6⟩ := ih (by omega) (pushN ns i).2 l1 lo p2.2.2.2.1 e3 p3.sh p5
          rw [p3.idx] at x1 x6
          have R1 := one_step p2 hd1 x6
          obtain ⟨r2, y1, y2, y3, y4, y6⟩ := ih (by omega) _ r1 (lo + 2 ^ h) R1 e4 p4.sh p6
          rw [p4.idx] at y1 y6
          have m1 := nil_like x2 p2.2.2.2.1 x1
          have m2 := nil_like y2 R1 y1
          have R2 := two_step p2 hd1 x1 x6 x2.idx x2.ids y1 y6 y2.idx
          have hd2 : (PT.node i a false l2 r2).ids.Nodup := nodup_like hd1 x2 y2
          have il : l2.idx = l.idx := x2.idx.trans p3.idx
          have ir : r2.idx = r.idx := y2.idx.trans p4.idx
          unfold joinN
          simp only []
          have gl := R2.2.2.2.1.ag
          have gr := R2.2.2.2.2.ag
          rw [il] at gl
          rw [ir] at gr
          rw [gl, gr]
          have R3 := set_top R2 hd2 (Ag.merge l2.ag r2.ag) false
          rw [il, ir] at R3
          have oo := out_node p3.ids p4.ids (pushN_len ns i) p10 x6 y6
          have hi1 : items h l2 lo ++ items h r2 (lo + 2 ^ h) = (items (h + 1) (.node i a k l r) lo).filter (fun x => !inS slo shi x) := by rw [← p7 lo, x4, y4, List.filter_append]
          refine ⟨.node i (Ag.merge l2.ag r2.ag) false l2 r2, R3, like_node hs p8 p9 p3 p4 x2 y2 m1 m2, ?_, by rw [← hi1]; simp [items], by rw [setN_len]; exact oo.1, fun j hj => ?_⟩
          · show if false = true then _ else _
            rw [if_neg (by simp)]
            refine ⟨?_, x3, y3⟩
            rw [x3.ag 0, y3.ag (0 + 2 ^ h), merge_agV]
            · simp [items, vals]
            · have := items_len h l2 0
              have := items_len h r2 (0 + 2 ^ h)
              have := pow_lt (h + 1) hh
              rw [Nat.pow_succ] at this
              simp [vals] at *
              omega
          · have hji : j ≠ i := fun e => hj (by rw [e]; exact PT.idx_mem)
            rw [getN_setN_ne _ hji, oo.2 j hj]

theorem count_nil {vs : List Int} : (agV vs).c = 0 ↔ vs = [] := by
  cases vs with
  | nil => exact ⟨fun _ => rfl, fun _ => rfl⟩
  | cons v vs => exact ⟨fun e => by simp [agV] at e; omega, fun e => by cases e⟩

theorem walk_law (h : Nat) : h ≤ 32 → ∀ (ns : List Nd) (t : PT) (lo : Nat), Rep ns t → t.ids.Nodup → Sh h t → Wf h t →
    ∃ t', Rep (walkT h ns t.idx lo).2 t' ∧ Like h t t' ∧ Wf h t' ∧ (∀ lo', items h t' lo' = items h t lo') ∧ (walkT h ns t.idx lo).1 = items h t lo ∧ Out t ns (walkT h ns t.idx lo).2 := by
  have base : ∀ (h : Nat) (ns : List Nd) (t : PT) (lo : Nat), Rep ns t → Sh h t → Wf h t → t.idx = 0 ∨ (getN ns t.idx).a.c = 0 →
      ∃ t', Rep ns t' ∧ Like h t t' ∧ Wf h t' ∧ (∀ lo', items h t' lo' = items h t lo') ∧ [] = items h t lo ∧ Out t ns ns := fun h ns t lo hr hs hw hc => by
    refine ⟨t, hr, ⟨rfl, rfl, fun _ => rfl, hs⟩, hw, fun _ => rfl, ?_, .refl _ _⟩
    rcases hc with h0 | h0
    · rw [(idx_nil hr).1 h0]; cases h <;> rfl
    · rw [hr.ag, hw.ag lo, count_nil] at h0
      exact (List.map_eq_nil_iff.1 h0).symm
  induction h with
  | zero =>
    intro hh ns t lo hr hd hs hw
    unfold walkT
    split
    · exact base 0 ns t lo hr hs hw (by assumption)
    · rename_i hc
      simp only [not_or] at hc
      refine ⟨t, hr, ⟨rfl, rfl, fun _ => rfl, hs⟩, hw, fun _ => rfl, ?_, .refl _ _⟩
      cases t with
      | nil => exact absurd rfl hc.1
      | node i a k l r =>
        have ha := hr.ag
        rw [ha] at hc ⊢
        simp only [PT.ag] at hc ⊢
        simp only [items]
        rw [if_neg hc.2]
  | succ h ih =>
    intro hh ns t lo hr hd hs hw
    unfold walkT
    split
    · exact base (h + 1) ns t lo hr hs hw (by assumption)
    · rename_i hc
      simp only [not_or] at hc
      cases t with
        | nil => exact absurd rfl hc.1
        | node i a k l r =>
          obtain ⟨l1, r1, p1, p2, p3, p4, p5, p6, p7, p8, p9, p10⟩ := push_law hr hd hs hw
          have hd1 : (PT.node i a false l1 r1).ids.Nodup := nodup_like hd p3 p4
          obtain ⟨e1, e2, e3, e4, e5⟩ := nodup_node hd1
          simp only [PT.idx]
          rw [p1]
          simp only []
          obtain ⟨l2, x1, x2, x3, x4, x5, x6⟩ := ih (by omega) (pushN ns i).2 l1 lo p2.2.2.2.1 e3 p3.sh p5
          rw [p3.idx] at x1 x5 x6
          have R1 := one_step p2 hd1 x6
          obtain ⟨r2, y1, y2, y3, y4, y5, y6⟩ := ih (by omega) _ r1 (lo + 2 ^ h) R1 e4 p4.sh p6
          rw [p4.idx] at y1 y5 y6
          have m1 := nil_like x2 p2.2.2.2.1 x1
          have m2 := nil_like y2 R1 y1
          refine ⟨.node i a false l2 r2, two_step p2 hd1 x1 x6 x2.idx x2.ids y1 y6 y2.idx, like_node hs p8 p9 p3 p4 x2 y2 m1 m2, ?_, fun lo' => ?_, ?_, out_node p3.ids p4.ids (pushN_len ns i) p10 x6 y6⟩
          · show if false = true then _ else _
            rw [if_neg (by simp)]
            refine ⟨?_, x3, y3⟩
            have hag := hw.ag (h := h + 1) 0
            simp only [PT.ag] at hag
            rw [hag, ← p7 0, ← x4 0, ← y4]
            simp [items]
          · rw [← p7 lo', ← x4, ← y4]; simp [items]
          · rw [x5, y5, ← p7 lo]
end Go.Proofs.Ytcdldjiogoapkaa
