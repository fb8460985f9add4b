import Derived.Test.YtcdldjiogoapkaaSgZ
namespace Go.Proofs.Ytcdldjiogoapkaa
open Go.RowKit

/-- A key's value is put. -/
def putL (key : Nat) (v : Int) (xs : List (Nat × Int)) : List (Nat × Int) := xs.filter (fun x => decide (x.1 < key)) ++ (key, v) :: xs.filter (fun x => decide (key < x.1))
theorem putL_left {key : Nat} {v : Int} {A B : List (Nat × Int)} (h : ∀ x ∈ B, key < x.1) : putL key v (A ++ B) = putL key v A ++ B := by
  unfold putL
  rw [List.filter_append, List.filter_append, (List.filter_eq_nil_iff (l := B)).2 (fun x hx => by have := h x hx; simp; omega), (List.filter_eq_self (l := B)).2 (fun x hx => by simpa using h x hx)]
  simp
theorem putL_right {key : Nat} {v : Int} {A B : List (Nat × Int)} (h : ∀ x ∈ A, x.1 < key) : putL key v (A ++ B) = A ++ putL key v B := by
  unfold putL
  rw [List.filter_append, List.filter_append, (List.filter_eq_self (l := A)).2 (fun x hx => by simpa using h x hx), (List.filter_eq_nil_iff (l := A)).2 (fun x hx => by have := h x hx; simp; omega)]
  simp

/-- How many nodes a key's way lacks. -/
def missP (key : Nat) : Nat → PT → Int
  | h, .nil => (h : Int) + 1
  | 0, .node _ _ _ _ _ => 0
  | h + 1, .node _ _ _ l r => if rgt key h then missP key h r else missP key h l
theorem missP_kill (key h : Nat) (t : PT) : missP key h t.kill = missP key h t := by
  cases t with
  | nil => rfl
  | node i a k l r => cases h <;> rfl
theorem missN_law (ns : List Nd) (key : Nat) (h : Nat) : ∀ t, Rep ns t → missN ns key h t.idx = missP key h t := by
  induction h with
  | zero =>
    intro t hr
    cases t with
    | nil => rfl
    | node i a k l r => show (if i = 0 then (1 : Int) else 0) = 0; rw [if_neg (by have := hr.1; omega)]
  | succ h ih =>
    intro t hr
    cases t with
    | nil => show (if (0 : Int) = 0 then _ else _) = _; rw [if_pos rfl]; show _ = ((h + 1 : Nat) : Int) + 1; omega
    | node i a k l r =>
      obtain ⟨h1, h2, h3, h4, h5⟩ := hr
      show (if i = 0 then _ else missN ns key h ((getN ns i).kid key h)) = (if rgt key h then _ else _)
      rw [if_neg (by omega), h3]
      unfold Nd.kid
      split
      · exact ih r h5
      · exact ih l h4

theorem set_link {ns : List Nd} {i : Int} {l r : PT} (h1 : 1 ≤ i) (h2 : i ≤ ns.length) (hl : Rep ns l) (hr : Rep ns r) (n1 : i ∉ l.ids) (n2 : i ∉ r.ids) (a' : Ag) (k' : Bool) : Rep (setN ns i ⟨l.idx, r.idx, a', k'⟩) (.node i a' k' l r) :=
  ⟨h1, by rw [setN_len]; exact h2, getN_setN_same _ h1 h2, hl.frame (by rw [setN_len]; exact Nat.le_refl _) fun j hj => getN_setN_ne _ (fun e => n1 (e ▸ hj)), hr.frame (by rw [setN_len]; exact Nat.le_refl _) fun j hj => getN_setN_ne _ (fun e => n2 (e ▸ hj))⟩

/-- What set leaves. -/
structure SetLaw (key : Nat) (v : Int) (h : Nat) (ns : List Nd) (t : PT) (lo : Nat) (R : Int × List Nd) (t' : PT) : Prop where
  rep : Rep R.2 t'
  idx : t'.idx = R.1
  ne : t' ≠ .nil
  nodup : t'.ids.Nodup
  ids : ∀ j ∈ t'.ids, j ∈ t.ids ∨ (ns.length : Int) < j
  sh : Sh h t'
  wf : Wf h t'
  items : items h t' lo = putL key v (items h t lo)
  keys : ∀ x, x ∈ keys h t' lo ↔ x = key ∨ x ∈ keys h t lo
  out : ∀ j : Int, j ≤ ns.length → j ∉ t.ids → getN R.2 j = getN ns j
  len : (R.2.length : Int) = ns.length + missP key h t
  ge : ns.length ≤ R.2.length

theorem wf_node {h : Nat} {i : Int} {l r : PT} (hh : h + 1 ≤ 32) (wl : Wf h l) (wr : Wf h r) : Wf (h + 1) (.node i (Ag.merge l.ag r.ag) false l r) := by
  show if false = true then _ else _
  rw [if_neg (by simp)]
  refine ⟨?_, wl, wr⟩
  rw [wl.ag 0, wr.ag (0 + 2 ^ h), merge_agV]
  · simp [Proofs.Ytcdldjiogoapkaa.items, vals]
  · have h1 := items_len h l 0
    have h2 := items_len h r (0 + 2 ^ h)
    have h3 := pow_lt (h + 1) hh
    rw [Nat.pow_succ] at h3
    rw [List.length_append, List.length_map, List.length_map]
    omega

theorem rgt_side {key h lo : Nat} (ha : lo % 2 ^ (h + 1) = 0) (h1 : lo ≤ key) (h2 : key < lo + 2 ^ (h + 1)) : (rgt key h = true ↔ lo + 2 ^ h ≤ key) := by
  unfold rgt
  have hp : 0 < 2 ^ h := Nat.two_pow_pos h
  rw [Nat.pow_succ] at ha h2
  generalize 2 ^ h = P at *
  obtain ⟨q, rfl⟩ : ∃ q, lo = P * 2 * q := ⟨lo / (P * 2), (Nat.mul_div_cancel' (Nat.dvd_of_mod_eq_zero ha)).symm⟩
  obtain ⟨x, rfl⟩ : ∃ x, key = P * 2 * q + x := ⟨key - P * 2 * q, by omega⟩
  have e : P * 2 * q + x = x + P * (2 * q) := by rw [Nat.mul_assoc]; omega
  rw [decide_eq_true_eq, e, Nat.add_mul_div_left _ _ hp]
  by_cases hx : x < P
  · rw [Nat.div_eq_of_lt hx]; omega
  · have : x / P = 1 := Nat.div_eq_of_lt_le (by omega) (by omega)
    rw [this]; omega

/-- A node whose left child is set. -/
theorem set_left {key : Nat} {v : Int} {h : Nat} {ms : List Nd} {i : Int} {a : Ag} {l r l2 : PT} {lo : Nat} {q : Int × List Nd} (hh : h + 1 ≤ 32) (hr : Rep ms (.node i a false l r)) (hd : (PT.node i a false l r).ids.Nodup) (sr : Sh h r) (wr : Wf h r)
    (hk : key < lo + 2 ^ h) (L : SetLaw key v h ms l lo q l2) :
    Rep (joinN q.2 i ⟨q.1, r.idx, a, false⟩) (.node i (Ag.merge l2.ag r.ag) false l2 r) ∧ (PT.node i (Ag.merge l2.ag r.ag) false l2 r).ids.Nodup ∧
      (∀ j ∈ (PT.node i (Ag.merge l2.ag r.ag) false l2 r).ids, j ∈ (PT.node i a false l r).ids ∨ (ms.length : Int) < j) ∧ Sh (h + 1) (.node i (Ag.merge l2.ag r.ag) false l2 r) ∧ Wf (h + 1) (.node i (Ag.merge l2.ag r.ag) false l2 r) ∧
      Proofs.Ytcdldjiogoapkaa.items (h + 1) (.node i (Ag.merge l2.ag r.ag) false l2 r) lo = putL key v (Proofs.Ytcdldjiogoapkaa.items h l lo ++ Proofs.Ytcdldjiogoapkaa.items h r (lo + 2 ^ h)) ∧
      (∀ x, x ∈ Proofs.Ytcdldjiogoapkaa.keys (h + 1) (.node i (Ag.merge l2.ag r.ag) false l2 r) lo ↔ x = key ∨ x ∈ Proofs.Ytcdldjiogoapkaa.keys h l lo ∨ x ∈ Proofs.Ytcdldjiogoapkaa.keys h r (lo + 2 ^ h)) ∧
      (∀ j : Int, j ≤ ms.length → j ∉ (PT.node i a false l r).ids → getN (joinN q.2 i ⟨q.1, r.idx, a, false⟩) j = getN ms j) := by
  obtain ⟨a1, a2, a3, a4, a5⟩ := id hr
  obtain ⟨e1, e2, e3, e4, e5⟩ := nodup_node hd
  have rr := a5.range
  have R1 : Rep q.2 r := a5.frame L.ge fun j hj => L.out j (rr j hj).2 (fun k => e5 j k hj)
  have i2 : i ∉ l2.ids := fun k => by rcases L.ids i k with k | k; exact e1 k; omega
  unfold joinN
  simp only []
  rw [← L.idx, L.rep.ag, R1.ag]
  refine ⟨set_link a1 (by have := L.ge; omega) L.rep R1 i2 e2 _ _, ?_, ?_, ⟨.inl L.ne, L.sh, sr⟩, wf_node hh L.wf wr, ?_, ?_, ?_⟩
  · simp only [PT.ids, List.nodup_cons, List.mem_append, List.nodup_append, not_or]
    exact ⟨⟨i2, e2⟩, L.nodup, e4, fun j hj j' hj' e => by
      subst e
      rcases L.ids j hj with k | k
      · exact e5 j k hj'
      · have := (rr j hj').2; omega⟩
  · intro j hj
    simp only [PT.ids, List.mem_cons, List.mem_append] at hj ⊢
    rcases hj with h1 | h1 | h1
    · exact .inl (.inl h1)
    · rcases L.ids j h1 with k | k
      · exact .inl (.inr (.inl k))
      · exact .inr k
    · exact .inl (.inr (.inr h1))
  · rw [putL_left (fun x hx => by have := (items_in h r _ x hx).1; omega), ← L.items]
    simp [Proofs.Ytcdldjiogoapkaa.items]
  · intro x
    simp only [Proofs.Ytcdldjiogoapkaa.keys, List.mem_append, L.keys x]
    exact or_assoc
  · intro j hj hn
    have hn' := hn
    simp only [PT.ids, List.mem_cons, List.mem_append, not_or] at hn'
    rw [getN_setN_ne _ hn'.1, L.out j hj hn'.2.1]
theorem set_right {key : Nat} {v : Int} {h : Nat} {ms : List Nd} {i : Int} {a : Ag} {l r r2 : PT} {lo : Nat} {q : Int × List Nd} (hh : h + 1 ≤ 32) (hr : Rep ms (.node i a false l r)) (hd : (PT.node i a false l r).ids.Nodup) (sl : Sh h l) (wl : Wf h l)
    (hk : lo + 2 ^ h ≤ key) (L : SetLaw key v h ms r (lo + 2 ^ h) q r2) :
    Rep (joinN q.2 i ⟨l.idx, q.1, a, false⟩) (.node i (Ag.merge l.ag r2.ag) false l r2) ∧ (PT.node i (Ag.merge l.ag r2.ag) false l r2).ids.Nodup ∧
      (∀ j ∈ (PT.node i (Ag.merge l.ag r2.ag) false l r2).ids, j ∈ (PT.node i a false l r).ids ∨ (ms.length : Int) < j) ∧ Sh (h + 1) (.node i (Ag.merge l.ag r2.ag) false l r2) ∧ Wf (h + 1) (.node i (Ag.merge l.ag r2.ag) false l r2) ∧
      Proofs.Ytcdldjiogoapkaa.items (h + 1) (.node i (Ag.merge l.ag r2.ag) false l r2) lo = putL key v (Proofs.Ytcdldjiogoapkaa.items h l lo ++ Proofs.Ytcdldjiogoapkaa.items h r (lo + 2 ^ h)) ∧
      (∀ x, x ∈ Proofs.Ytcdldjiogoapkaa.keys (h + 1) (.node i (Ag.merge l.ag r2.ag) false l r2) lo ↔ x = key ∨ x ∈ Proofs.Ytcdldjiogoapkaa.keys h l lo ∨ x ∈ Proofs.Ytcdldjiogoapkaa.keys h r (lo + 2 ^ h)) ∧
      (∀ j : Int, j ≤ ms.length → j ∉ (PT.node i a false l r).ids → getN (joinN q.2 i ⟨l.idx, q.1, a, false⟩) j = getN ms j) := by
  obtain ⟨a1, a2, a3, a4, a5⟩ := id hr
  obtain ⟨e1, e2, e3, e4, e5⟩ := nodup_node hd
  have rr := a4.range
  have R1 : Rep q.2 l := a4.frame L.ge fun j hj => L.out j (rr j hj).2 (fun k => e5 j hj k)
  have i2 : i ∉ r2.ids := fun k => by rcases L.ids i k with k | k; exact e2 k; omega
  unfold joinN
  simp only []
  rw [← L.idx, L.rep.ag, R1.ag]
  refine ⟨set_link a1 (by have := L.ge; omega) R1 L.rep e1 i2 _ _, ?_, ?_, ⟨.inr L.ne, sl, L.sh⟩, wf_node hh wl L.wf, ?_, ?_, ?_⟩
  · simp only [PT.ids, List.nodup_cons, List.mem_append, List.nodup_append, not_or]
    exact ⟨⟨e1, i2⟩, e3, L.nodup, fun j hj j' hj' e => by
      subst e
      rcases L.ids j hj' with k | k
      · exact e5 j hj k
      · have := (rr j hj).2; omega⟩
  · intro j hj
    simp only [PT.ids, List.mem_cons, List.mem_append] at hj ⊢
    rcases hj with h1 | h1 | h1
    · exact .inl (.inl h1)
    · exact .inl (.inr (.inl h1))
    · rcases L.ids j h1 with k | k
      · exact .inl (.inr (.inr k))
      · exact .inr k
  · rw [putL_right (fun x hx => by have := (items_in h l _ x hx).2; omega), ← L.items]
    simp [Proofs.Ytcdldjiogoapkaa.items]
  · intro x
    simp only [Proofs.Ytcdldjiogoapkaa.keys, List.mem_append, L.keys x]
    constructor
    · rintro (h1 | h1 | h1)
      · exact .inr (.inl h1)
      · exact .inl h1
      · exact .inr (.inr h1)
    · rintro (h1 | h1 | h1)
      · exact .inr (.inl h1)
      · exact .inl h1
      · exact .inr (.inr h1)
  · intro j hj hn
    have hn' := hn
    simp only [PT.ids, List.mem_cons, List.mem_append, not_or] at hn'
    rw [getN_setN_ne _ hn'.1, L.out j hj hn'.2.2]
end Go.Proofs.Ytcdldjiogoapkaa
