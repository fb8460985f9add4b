import Derived.Test.YtcdldjiogoapkaaSgU
namespace Go.Proofs.Ytcdldjiogoapkaa
open Go.RowKit

/-! The row of nodes, read as a tree. -/
theorem getN_setN_same {ns : List Nd} {i : Int} (n : Nd) (h0 : 1 ≤ i) (h1 : i ≤ ns.length) : getN (setN ns i n) i = n := by
  obtain ⟨k, rfl⟩ : ∃ k : Nat, i = (k : Int) + 1 := ⟨(i - 1).toNat, by omega⟩
  rw [setN_succ, getN_succ _ _ (by simp; omega)]
  simp
theorem getN_setN_ne {ns : List Nd} {i j : Int} (n : Nd) (h : j ≠ i) : getN (setN ns i n) j = getN ns j := by
  unfold getN setN
  by_cases hi : i < 1
  · rw [if_pos hi]
  · rw [if_neg hi]
    by_cases hj : j < 1
    · rw [if_pos hj, if_pos hj]
    · rw [if_neg hj, if_neg hj]
      have : (i - 1).toNat ≠ (j - 1).toNat := by omega
      rw [List.getD_eq_getElem?_getD, List.getD_eq_getElem?_getD, List.getElem?_set_ne this]
theorem getN_append {ns : List Nd} {j : Int} (n : Nd) (h1 : j ≤ ns.length) : getN (ns ++ [n]) j = getN ns j := by
  unfold getN
  by_cases hj : j < 1
  · rw [if_pos hj, if_pos hj]
  · rw [if_neg hj, if_neg hj]
    simp only [List.getD_eq_getElem?_getD]
    rw [List.getElem?_append_left (by omega)]

inductive PT where
  | nil : PT
  | node (i : Int) (a : Ag) (k : Bool) (l r : PT) : PT

def PT.idx : PT → Int
  | .nil => 0
  | .node i _ _ _ _ => i
def PT.ids : PT → List Int
  | .nil => []
  | .node i _ _ l r => i :: (l.ids ++ r.ids)
def PT.ag : PT → Ag
  | .nil => Ag.zero
  | .node _ a _ _ _ => a
def PT.kill : PT → PT
  | .nil => .nil
  | .node i _ _ l r => .node i Ag.zero true l r
def PT.push : PT → PT
  | .nil => .nil
  | .node i a k l r => if k then .node i a false l.kill r.kill else .node i a false l r
def PT.left : PT → PT
  | .nil => .nil
  | .node _ _ _ l _ => l
def PT.right : PT → PT
  | .nil => .nil
  | .node _ _ _ _ r => r

def Rep (ns : List Nd) : PT → Prop
  | .nil => True
  | .node i a k l r => 1 ≤ i ∧ i ≤ ns.length ∧ getN ns i = ⟨l.idx, r.idx, a, k⟩ ∧ Rep ns l ∧ Rep ns r

theorem Rep.frame {ns ns' : List Nd} {t : PT} (h : Rep ns t) (hl : ns.length ≤ ns'.length) (hg : ∀ j ∈ t.ids, getN ns' j = getN ns j) : Rep ns' t := by
  induction t with
  | nil => trivial
  | node i a k l r ihl ihr =>
    obtain ⟨h1, h2, h3, h4, h5⟩ := h
    exact ⟨h1, by omega, (hg i (by simp [PT.ids])).trans h3, ihl h4 (fun j hj => hg j (by simp [PT.ids, hj])), ihr h5 (fun j hj => hg j (by simp [PT.ids, hj]))⟩
theorem Rep.range {ns : List Nd} {t : PT} (h : Rep ns t) : ∀ j ∈ t.ids, 1 ≤ j ∧ j ≤ ns.length := by
  induction t with
  | nil => intro j hj; simp [PT.ids] at hj
  | node i a k l r ihl ihr =>
    obtain ⟨h1, h2, h3, h4, h5⟩ := h
    intro j hj
    simp [PT.ids] at hj
    rcases hj with rfl | hj | hj
    · exact ⟨h1, h2⟩
    · exact ihl h4 j hj
    · exact ihr h5 j hj
theorem Rep.idx0 {ns : List Nd} {t : PT} (h : Rep ns t) : 0 ≤ t.idx ∧ t.idx ≤ ns.length := by
  cases t with
  | nil => exact ⟨Int.le_refl 0, by simp [PT.idx]⟩
  | node i a k l r => exact ⟨by have := h.1; simp [PT.idx]; omega, h.2.1⟩
theorem Rep.ag {ns : List Nd} {t : PT} (h : Rep ns t) : (getN ns t.idx).a = t.ag := by
  cases t with
  | nil => rfl
  | node i a k l r => show (getN ns i).a = a; rw [h.2.2.1]
theorem PT.idx_mem {i : Int} {a : Ag} {k : Bool} {l r : PT} : i ∈ (PT.node i a k l r).ids := by simp [PT.ids]
@[simp] theorem PT.kill_idx (t : PT) : t.kill.idx = t.idx := by cases t <;> rfl
@[simp] theorem PT.kill_ids (t : PT) : t.kill.ids = t.ids := by cases t <;> rfl
@[simp] theorem PT.push_idx (t : PT) : t.push.idx = t.idx := by
  cases t with
  | nil => rfl
  | node i a k l r => cases k <;> rfl
@[simp] theorem PT.push_ids (t : PT) : t.push.ids = t.ids := by
  cases t with
  | nil => rfl
  | node i a k l r => cases k <;> simp [PT.push, PT.ids]

theorem nodup_node {i : Int} {a : Ag} {k : Bool} {l r : PT} (h : (PT.node i a k l r).ids.Nodup) : i ∉ l.ids ∧ i ∉ r.ids ∧ l.ids.Nodup ∧ r.ids.Nodup ∧ ∀ j ∈ l.ids, j ∉ r.ids := by
  simp only [PT.ids, List.nodup_cons, List.mem_append, List.nodup_append, not_or] at h
  exact ⟨h.1.1, h.1.2, h.2.1, h.2.2.1, fun j hj hr => h.2.2.2 j hj j hr rfl⟩

theorem Rep.kill {ns : List Nd} {t : PT} (h : Rep ns t) (hd : t.ids.Nodup) : Rep (killN ns t.idx) t.kill ∧ ∀ j, j ∉ t.ids → getN (killN ns t.idx) j = getN ns j := by
  cases t with
  | nil => exact ⟨trivial, fun _ _ => rfl⟩
  | node i a k l r =>
    obtain ⟨h1, h2, h3, h4, h5⟩ := h
    obtain ⟨d1, d2, -⟩ := nodup_node hd
    have e : killN ns i = setN ns i { getN ns i with a := Ag.zero, k := true } := if_neg (by omega)
    show Rep (killN ns i) _ ∧ ∀ j, j ∉ _ → getN (killN ns i) j = _
    rw [e]
    refine ⟨⟨h1, by rw [setN_len]; exact h2, ?_, h4.frame (by rw [setN_len]; omega) fun j hj => getN_setN_ne _ (fun e => d1 (e ▸ hj)), h5.frame (by rw [setN_len]; omega) fun j hj => getN_setN_ne _ (fun e => d2 (e ▸ hj))⟩, fun j hj => getN_setN_ne _ (fun e => hj (e ▸ PT.idx_mem))⟩
    rw [getN_setN_same _ h1 h2, h3]

theorem Rep.push {ns : List Nd} {i : Int} {a : Ag} {k : Bool} {l r : PT} (h : Rep ns (.node i a k l r)) (hd : (PT.node i a k l r).ids.Nodup) :
    (pushN ns i).1 = ⟨l.idx, r.idx, a, false⟩ ∧ Rep (pushN ns i).2 (PT.node i a k l r).push ∧ ∀ j, j ∉ (PT.node i a k l r).ids → getN (pushN ns i).2 j = getN ns j := by
  obtain ⟨h1, h2, h3, h4, h5⟩ := id h
  obtain ⟨d1, d2, d3, d4, d5⟩ := nodup_node hd
  unfold pushN
  rw [h3]
  cases k with
  | false => exact ⟨rfl, h, fun _ _ => rfl⟩
  | true =>
    have L := h4.kill d3
    have hr' : Rep (killN ns l.idx) r := h5.frame (by rw [killN_len]; omega) fun j hj => L.2 j (fun e => d5 j e hj)
    have R := hr'.kill d4
    have hi : i ∉ l.ids := d1
    have gi : ∀ j, j ≠ i → getN (setN (killN (killN ns l.idx) r.idx) i ⟨l.idx, r.idx, a, false⟩) j = getN (killN (killN ns l.idx) r.idx) j := fun j hj => getN_setN_ne _ hj
    have hlen : (killN (killN ns l.idx) r.idx).length = ns.length := by rw [killN_len, killN_len]
    have hP : (if true = true then (({ (⟨l.idx, r.idx, a, true⟩ : Nd) with k := false }), setN (killN (killN ns l.idx) r.idx) i { (⟨l.idx, r.idx, a, true⟩ : Nd) with k := false }) else ((⟨l.idx, r.idx, a, true⟩ : Nd), ns)) = ((⟨l.idx, r.idx, a, false⟩ : Nd), setN (killN (killN ns l.idx) r.idx) i ⟨l.idx, r.idx, a, false⟩) := if_pos rfl
    show (if true = true then (({ (⟨l.idx, r.idx, a, true⟩ : Nd) with k := false }), setN (killN (killN ns l.idx) r.idx) i { (⟨l.idx, r.idx, a, true⟩ : Nd) with k := false }) else ((⟨l.idx, r.idx, a, true⟩ : Nd), ns)).1 = _ ∧ Rep (if true = true then (({ (⟨l.idx, r.idx, a, true⟩ : Nd) with k := false }), setN (killN (killN ns l.idx) r.idx) i { (⟨l.idx, r.idx, a, true⟩ : Nd) with k := false }) else ((⟨l.idx, r.idx, a, true⟩ : Nd), ns)).2 _ ∧ ∀ j, j ∉ _ → getN (if true = true then (({ (⟨l.idx, r.idx, a, true⟩ : Nd) with k := false }), setN (killN (killN ns l.idx) r.idx) i { (⟨l.idx, r.idx, a, true⟩ : Nd) with k := false }) else ((⟨l.idx, r.idx, a, true⟩ : Nd), ns)).2 j = _
    rw [hP]
    refine ⟨rfl, ⟨h1, by rw [setN_len, hlen]; exact h2, ?_, ?_, ?_⟩, fun j hj => ?_⟩
    · show getN (setN _ i _) i = _
      rw [getN_setN_same _ h1 (by rw [hlen]; exact h2)]; simp
    · refine L.1.frame (by rw [setN_len, hlen, killN_len]; omega) fun j hj => ?_
      rw [PT.kill_ids] at hj
      rw [gi j (fun e => d1 (e ▸ hj)), R.2 j (d5 j hj)]
    · refine R.1.frame (by rw [setN_len]; exact Nat.le_refl _) fun j hj => ?_
      rw [PT.kill_ids] at hj
      rw [gi j (fun e => d2 (e ▸ hj))]
    · simp only [PT.ids, List.mem_cons, List.mem_append, not_or] at hj
      rw [gi j hj.1, R.2 j hj.2.2, L.2 j hj.2.1]
end Go.Proofs.Ytcdldjiogoapkaa
