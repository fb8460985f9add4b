import Derived.Test.YtcdldjiogoapkaaSgW
namespace Go.Proofs.Ytcdldjiogoapkaa
open Go.RowKit

/-- Within one subtree alone the row of nodes has turned. -/
def Out (t : PT) (ns ns' : List Nd) : Prop := ns'.length = ns.length ∧ ∀ j, j ∉ t.ids → getN ns' j = getN ns j
theorem Out.refl (t : PT) (ns : List Nd) : Out t ns ns := ⟨rfl, fun _ _ => rfl⟩

theorem two_step {ms n1 n2 : List Nd} {i : Int} {a : Ag} {l r l' r' : PT} (hr : Rep ms (.node i a false l r)) (hd : (PT.node i a false l r).ids.Nodup)
    (h1 : Rep n1 l') (o1 : Out l ms n1) (i1 : l'.idx = l.idx) (d1 : l'.ids = l.ids) (h2 : Rep n2 r') (o2 : Out r n1 n2) (i2 : r'.idx = r.idx) :
    Rep n2 (.node i a false l' r') := by
  obtain ⟨a1, a2, a3, a4, a5⟩ := hr
  obtain ⟨e1, e2, e3, e4, e5⟩ := nodup_node hd
  refine ⟨a1, by rw [o2.1, o1.1]; exact a2, ?_, h1.frame (Nat.le_of_eq o2.1.symm) fun j hj => o2.2 j (e5 j (d1 ▸ hj)), h2⟩
  rw [o2.2 i e2, o1.2 i e1, a3, i1, i2]
theorem one_step {ms n1 : List Nd} {i : Int} {a : Ag} {l r : PT} (hr : Rep ms (.node i a false l r)) (hd : (PT.node i a false l r).ids.Nodup) (o1 : Out l ms n1) : Rep n1 r := by
  obtain ⟨a1, a2, a3, a4, a5⟩ := hr
  obtain ⟨e1, e2, e3, e4, e5⟩ := nodup_node hd
  exact a5.frame (Nat.le_of_eq o1.1.symm) fun j hj => o1.2 j (fun k => e5 j k hj)

def inS (slo shi : Nat) (x : Nat × Int) : Bool := decide (slo ≤ x.1) && decide (x.1 ≤ shi)

theorem filter_out {slo shi h lo : Nat} (t : PT) (ho : outB lo h slo shi = true) : (items h t lo).filter (inS slo shi) = [] := by
  rw [List.filter_eq_nil_iff]
  intro x hx
  have := items_in h t lo x hx
  unfold outB at ho
  unfold inS
  simp at ho ⊢
  omega
theorem filter_out' {slo shi h lo : Nat} (t : PT) (ho : outB lo h slo shi = true) : (items h t lo).filter (fun x => !inS slo shi x) = items h t lo := by
  rw [List.filter_eq_self]
  intro x hx
  have := items_in h t lo x hx
  unfold outB at ho
  unfold inS
  simp at ho ⊢
  omega
theorem filter_in {slo shi h lo : Nat} (t : PT) (ho : inB lo h slo shi = true) : (items h t lo).filter (inS slo shi) = items h t lo := by
  rw [List.filter_eq_self]
  intro x hx
  have := items_in h t lo x hx
  unfold inB at ho
  unfold inS
  simp at ho ⊢
  omega
theorem filter_in' {slo shi h lo : Nat} (t : PT) (ho : inB lo h slo shi = true) : (items h t lo).filter (fun x => !inS slo shi x) = [] := by
  rw [List.filter_eq_nil_iff]
  intro x hx
  have := items_in h t lo x hx
  unfold inB at ho
  unfold inS
  simp at ho ⊢
  omega

theorem like_node {h : Nat} {i : Int} {a a' : Ag} {k k' : Bool} {l r l1 r1 l2 r2 : PT} (hs : Sh (h + 1) (.node i a k l r)) (n1 : l1 = .nil ↔ l = .nil) (n2 : r1 = .nil ↔ r = .nil) (q1 : Like h l l1) (q2 : Like h r r1) (q3 : Like h l1 l2) (q4 : Like h r1 r2)
    (m1 : l2 = .nil ↔ l1 = .nil) (m2 : r2 = .nil ↔ r1 = .nil) : Like (h + 1) (.node i a k l r) (.node i a' k' l2 r2) := by
  refine ⟨rfl, by simp [PT.ids, q3.ids, q1.ids, q4.ids, q2.ids], fun lo => ?_, ⟨?_, q3.sh, q4.sh⟩⟩
  · simp only [keys]; rw [q3.keys, q1.keys, q4.keys, q2.keys]
  · rcases hs.1 with h1 | h1
    · exact .inl fun e => h1 (n1.1 (m1.1 e))
    · exact .inr fun e => h1 (n2.1 (m2.1 e))
theorem out_node {ns ms n1 n2 : List Nd} {i : Int} {a : Ag} {k : Bool} {l r l1 r1 : PT} (d1 : l1.ids = l.ids) (d2 : r1.ids = r.ids) (h0 : ms.length = ns.length) (hp : ∀ j, j ∉ (PT.node i a k l r).ids → getN ms j = getN ns j) (o1 : Out l1 ms n1) (o2 : Out r1 n1 n2) :
    Out (.node i a k l r) ns n2 := by
  refine ⟨by rw [o2.1, o1.1, h0], fun j hj => ?_⟩
  have hj' := hj
  simp only [PT.ids, List.mem_cons, List.mem_append, not_or] at hj'
  rw [o2.2 j (by rw [d2]; exact hj'.2.2), o1.2 j (by rw [d1]; exact hj'.2.1), hp j hj]
theorem nodup_like {h : Nat} {i : Int} {a a' : Ag} {k k' : Bool} {l r l1 r1 : PT} (hd : (PT.node i a k l r).ids.Nodup) (q1 : Like h l l1) (q2 : Like h r r1) : (PT.node i a' k' l1 r1).ids.Nodup := by
  simp only [PT.ids] at hd ⊢; rw [q1.ids, q2.ids]; exact hd
theorem nil_like {h : Nat} {ns ns' : List Nd} {t t' : PT} (q : Like h t t') (h1 : Rep ns t) (h2 : Rep ns' t') : t' = .nil ↔ t = .nil := by
  rw [← idx_nil h1, ← idx_nil h2, q.idx]

theorem fold_law (slo shi : Nat) (h : Nat) : h ≤ 32 → ∀ (ns : List Nd) (t : PT) (lo : Nat), Rep ns t → t.ids.Nodup → Sh h t → Wf h t →
    ∃ t', Rep (foldT slo shi h ns t.idx lo).2 t' ∧ Like h t t' ∧ Wf h t' ∧ (∀ lo', items h t' lo' = items h t lo') ∧ (foldT slo shi h ns t.idx lo).1 = agV (vals ((items h t lo).filter (inS slo shi))) ∧ Out t ns (foldT slo shi h ns t.idx lo).2 := by
  have base : ∀ (h : Nat) (ns : List Nd) (t : PT) (lo : Nat), Rep ns t → Sh h t → Wf h t → t.idx = 0 ∨ outB lo h slo shi = true →
      ∃ t', Rep ns t' ∧ Like h t t' ∧ Wf h t' ∧ (∀ lo', items h t' lo' = items h t lo') ∧ Ag.zero = agV (vals ((items h t lo).filter (inS slo shi))) ∧ Out t ns ns := fun h ns t lo hr hs hw hc => by
    refine ⟨t, hr, ⟨rfl, rfl, fun _ => rfl, hs⟩, hw, fun _ => rfl, ?_, .refl _ _⟩
    rcases hc with h0 | h0
    · rw [(idx_nil hr).1 h0]; cases h <;> rfl
    · rw [filter_out t h0]; rfl
  have inner : ∀ (h : Nat) (ns : List Nd) (t : PT) (lo : Nat), Rep ns t → Sh h t → Wf h t → inB lo h slo shi = true →
      ∃ t', Rep ns t' ∧ Like h t t' ∧ Wf h t' ∧ (∀ lo', items h t' lo' = items h t lo') ∧ (getN ns t.idx).a = agV (vals ((items h t lo).filter (inS slo shi))) ∧ Out t ns ns := fun h ns t lo hr hs hw hi => by
    refine ⟨t, hr, ⟨rfl, rfl, fun _ => rfl, hs⟩, hw, fun _ => rfl, ?_, .refl _ _⟩
    rw [filter_in t hi, hr.ag, hw.ag lo]
  induction h with
  | zero =>
    intro hh ns t lo hr hd hs hw
    unfold foldT
    split
    · exact base 0 ns t lo hr hs hw (by assumption)
    · rename_i hc
      simp only [not_or] at hc
      exact inner 0 ns t lo hr hs hw (out_in0 hc.2)
  | succ h ih =>
    intro hh ns t lo hr hd hs hw
    unfold foldT
    split
    · exact base (h + 1) ns t lo hr hs hw (by assumption)
    · rename_i hc
      simp only [not_or] at hc
      split
      · rename_i hi; exact inner (h + 1) ns t lo hr hs hw hi
      · cases t with
        | nil => exact absurd rfl hc.1
        | node i a k l r =>
          obtain ⟨l1, r1, p1, p2, p3, p4, p5, p6, p7, p8, p9, p10⟩ := push_law hr hd hs hw
          have hd1 : (PT.node i a false l1 r1).ids.Nodup := nodup_like hd p3 p4
          obtain ⟨e1, e2, e3, e4, e5⟩ := nodup_node hd1
          simp only [PT.idx]
          rw [p1]
          simp only []
          obtain ⟨l2, x1, x2, x3, x4, x5, x6⟩ := ih (by omega) (pushN ns i).2 l1 lo p2.2.2.2.1 e3 p3.sh p5
          rw [p3.idx] at x1 x5 x6
          have R1 := one_step p2 hd1 x6
          obtain ⟨r2, y1, y2, y3, y4, y5, y6⟩ := ih (by omega) _ r1 (lo + 2 ^ h) R1 e4 p4.sh p6
          rw [p4.idx] at y1 y5 y6
          have m1 := nil_like x2 p2.2.2.2.1 x1
          have m2 := nil_like y2 R1 y1
          refine ⟨.node i a false l2 r2, two_step p2 hd1 x1 x6 x2.idx x2.ids y1 y6 y2.idx, like_node hs p8 p9 p3 p4 x2 y2 m1 m2, ?_, fun lo' => ?_, ?_, out_node p3.ids p4.ids (pushN_len ns i) p10 x6 y6⟩
          · show if false = true then _ else _
            rw [if_neg (by simp)]
            refine ⟨?_, x3, y3⟩
            have hag := hw.ag (h := h + 1) 0
            simp only [PT.ag] at hag
            rw [hag, ← p7 0, ← x4 0, ← y4]
            simp [items]
          · rw [← p7 lo', ← x4, ← y4]; simp [items]
          · rw [x5, y5, merge_agV, ← p7 lo, List.filter_append]
            · simp [vals]
            · have := items_len h l1 lo
              have := items_len h r1 (lo + 2 ^ h)
              have := pow_lt (h + 1) hh
              rw [Nat.pow_succ] at this
              have f1 := List.length_filter_le (inS slo shi) (items h l1 lo)
              have f2 := List.length_filter_le (inS slo shi) (items h r1 (lo + 2 ^ h))
              simp [vals]
              omega
end Go.Proofs.Ytcdldjiogoapkaa
