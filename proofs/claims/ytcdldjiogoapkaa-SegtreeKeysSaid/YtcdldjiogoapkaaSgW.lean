import Derived.Test.YtcdldjiogoapkaaSgV
namespace Go.Proofs.Ytcdldjiogoapkaa
open Go.RowKit

/-! What a tree says. -/
def sumV : List Int → Int
  | [] => 0
  | v :: vs => v + sumV vs
def minV : Int → List Int → Int
  | m, [] => m
  | m, v :: vs => minV (if v < m then v else m) vs
def maxV : Int → List Int → Int
  | m, [] => m
  | m, v :: vs => maxV (if m < v then v else m) vs
/-- What is told of values. -/
def agV : List Int → Ag
  | [] => Ag.zero
  | v :: vs => ⟨(vs.length : Int) + 1, wrap64 (v + sumV vs), minV v vs, maxV v vs⟩

theorem sumV_append (a b : List Int) : sumV (a ++ b) = sumV a + sumV b := by
  induction a with
  | nil => simp [sumV]
  | cons x xs ih => simp only [List.cons_append, sumV, ih]; omega
theorem minV_append (m : Int) (a b : List Int) : minV m (a ++ b) = minV (minV m a) b := by
  induction a generalizing m with
  | nil => rfl
  | cons x xs ih => exact ih _
theorem maxV_append (m : Int) (a b : List Int) : maxV m (a ++ b) = maxV (maxV m a) b := by
  induction a generalizing m with
  | nil => rfl
  | cons x xs ih => exact ih _
theorem minV_le (m : Int) (a : List Int) : minV m a ≤ m := by
  induction a generalizing m with
  | nil => exact Int.le_refl m
  | cons x xs ih => refine Int.le_trans (ih _) ?_; split <;> omega
theorem maxV_ge (m : Int) (a : List Int) : m ≤ maxV m a := by
  induction a generalizing m with
  | nil => exact Int.le_refl m
  | cons x xs ih => refine Int.le_trans ?_ (ih _); split <;> omega
theorem minV_min (m x : Int) (a : List Int) : minV (if x < m then x else m) a = if minV x a < m then minV x a else m := by
  induction a generalizing m x with
  | nil => rfl
  | cons y ys ih =>
    show minV (if y < (if x < m then x else m) then y else (if x < m then x else m)) ys = if minV (if y < x then y else x) ys < m then minV (if y < x then y else x) ys else m
    rw [← ih]
    congr 1
    split <;> split <;> (try split) <;> (try split) <;> omega
theorem maxV_max (m x : Int) (a : List Int) : maxV (if m < x then x else m) a = if m < maxV x a then maxV x a else m := by
  induction a generalizing m x with
  | nil => rfl
  | cons y ys ih =>
    show maxV (if (if m < x then x else m) < y then y else (if m < x then x else m)) ys = if m < maxV (if x < y then y else x) ys then maxV (if x < y then y else x) ys else m
    rw [← ih]
    congr 1
    split <;> split <;> (try split) <;> (try split) <;> omega
theorem wrap_add (a b : Int) : wrap64 (wrap64 a + wrap64 b) = wrap64 (a + b) := by unfold wrap64; omega

theorem merge_agV (a b : List Int) (hl : (a ++ b).length < 4611686018427387904) : Ag.merge (agV a) (agV b) = agV (a ++ b) := by
  cases a with
  | nil =>
    cases b with
    | nil => rfl
    | cons y ys => show Ag.merge Ag.zero _ = _; unfold Ag.merge; rw [if_pos (by decide), if_neg (by simp [agV]; omega)]; rfl
  | cons x xs =>
    cases b with
    | nil => simp only [List.append_nil]; show Ag.merge _ Ag.zero = _; unfold Ag.merge; rw [if_neg (by simp [agV]; omega), if_pos (by decide)]
    | cons y ys =>
      unfold Ag.merge
      rw [if_neg (by simp [agV]; omega), if_neg (by simp [agV]; omega)]
      simp only [List.length_append, List.length_cons] at hl
      simp only [agV, List.cons_append, List.length_append, List.length_cons, sumV_append, minV_append, maxV_append, sumV]
      have e1 : wrap64 ((xs.length : Int) + 1 + ((ys.length : Int) + 1)) = ((xs.length + (ys.length + 1) : Nat) : Int) + 1 := by unfold wrap64; omega
      have e2 : wrap64 (wrap64 (x + sumV xs) + wrap64 (y + sumV ys)) = wrap64 (x + (sumV xs + (y + sumV ys))) := by rw [wrap_add]; congr 1; omega
      rw [e1, e2]
      congr 1
      · show _ = minV (if y < minV x xs then y else minV x xs) ys
        rw [minV_min]
        rfl
      · show _ = maxV (if maxV x xs < y then y else maxV x xs) ys
        rw [maxV_max]
        rfl

def Sh : Nat → PT → Prop
  | _, .nil => True
  | 0, .node _ _ _ l r => l = .nil ∧ r = .nil
  | h + 1, .node _ _ _ l r => (l ≠ .nil ∨ r ≠ .nil) ∧ Sh h l ∧ Sh h r
/-- The keys that have a value, with their values. -/
def items : Nat → PT → Nat → List (Nat × Int)
  | _, .nil, _ => []
  | 0, .node _ a _ _ _, lo => if a.c = 0 then [] else [(lo, a.s)]
  | h + 1, .node _ _ k l r, lo => if k then [] else items h l lo ++ items h r (lo + 2 ^ h)
/-- The keys that have a leaf. -/
def keys : Nat → PT → Nat → List Nat
  | _, .nil, _ => []
  | 0, .node _ _ _ _ _, lo => [lo]
  | h + 1, .node _ _ _ l r, lo => keys h l lo ++ keys h r (lo + 2 ^ h)
abbrev vals (xs : List (Nat × Int)) : List Int := xs.map (·.2)
def Wf : Nat → PT → Prop
  | _, .nil => True
  | 0, .node _ a k _ _ => a = Ag.zero ∨ (k = false ∧ ∃ v, wrap64 v = v ∧ a = Ag.one v)
  | h + 1, .node i a k l r => if k then a = Ag.zero else a = agV (vals (items (h + 1) (.node i a k l r) 0)) ∧ Wf h l ∧ Wf h r

theorem items_vals (h : Nat) : ∀ (t : PT) (lo lo' : Nat), vals (items h t lo) = vals (items h t lo') := by
  induction h with
  | zero => intro t lo lo'; cases t with
    | nil => rfl
    | node i a k l r => simp only [items]; split <;> rfl
  | succ h ih => intro t lo lo'; cases t with
    | nil => rfl
    | node i a k l r =>
      simp only [items]
      split
      · rfl
      · simp only [vals, List.map_append] at ih ⊢; rw [ih l lo lo', ih r (lo + 2 ^ h) (lo' + 2 ^ h)]
theorem items_len (h : Nat) : ∀ (t : PT) (lo : Nat), (items h t lo).length ≤ 2 ^ h := by
  induction h with
  | zero => intro t lo; cases t with
    | nil => simp [items]
    | node i a k l r => simp only [items]; split <;> simp
  | succ h ih => intro t lo; cases t with
    | nil => simp [items]
    | node i a k l r =>
      simp only [items]
      split
      · simp
      · have h1 := ih l lo; have h2 := ih r (lo + 2 ^ h); rw [List.length_append, Nat.pow_succ]; omega
theorem items_in (h : Nat) : ∀ (t : PT) (lo : Nat), ∀ x ∈ items h t lo, lo ≤ x.1 ∧ x.1 < lo + 2 ^ h := by
  induction h with
  | zero => intro t lo x hx; cases t with
    | nil => simp [items] at hx
    | node i a k l r => simp only [items] at hx; split at hx <;> simp at hx; subst hx; simp
  | succ h ih => intro t lo x hx; cases t with
    | nil => simp [items] at hx
    | node i a k l r =>
      simp only [items] at hx
      rw [Nat.pow_succ]
      split at hx
      · simp at hx
      · rcases List.mem_append.1 hx with h1 | h1
        · have := ih l lo x h1; omega
        · have := ih r _ x h1; omega
theorem keys_in (h : Nat) : ∀ (t : PT) (lo : Nat), ∀ x ∈ keys h t lo, lo ≤ x ∧ x < lo + 2 ^ h := by
  induction h with
  | zero => intro t lo x hx; cases t with
    | nil => simp [keys] at hx
    | node i a k l r => simp [keys] at hx; subst hx; simp
  | succ h ih => intro t lo x hx; cases t with
    | nil => simp [keys] at hx
    | node i a k l r =>
      simp only [keys] at hx
      rw [Nat.pow_succ]
      rcases List.mem_append.1 hx with h1 | h1
      · have := ih l lo x h1; omega
      · have := ih r _ x h1; omega
theorem items_sorted (h : Nat) : ∀ (t : PT) (lo : Nat), (items h t lo).Pairwise (fun x y => x.1 < y.1) := by
  induction h with
  | zero => intro t lo; cases t with
    | nil => simp [items]
    | node i a k l r => simp only [items]; split <;> simp
  | succ h ih => intro t lo; cases t with
    | nil => simp [items]
    | node i a k l r =>
      simp only [items]
      split
      · simp
      · rw [List.pairwise_append]
        exact ⟨ih l lo, ih r _, fun x hx y hy => by have := items_in h l lo x hx; have := items_in h r _ y hy; omega⟩
theorem pow_lt (h : Nat) (hh : h ≤ 32) : 2 ^ h < 4611686018427387904 := Nat.lt_of_le_of_lt (Nat.pow_le_pow_right (by decide) hh) (by decide)
theorem Wf.ag {h : Nat} {t : PT} (hw : Wf h t) (lo : Nat) : t.ag = agV (vals (items h t lo)) := by
  cases t with
  | nil => cases h <;> rfl
  | node i a k l r =>
    cases h with
    | zero =>
      rcases hw with rfl | ⟨-, v, hv, rfl⟩
      · rfl
      · simp [items, vals, agV, PT.ag, Ag.one, sumV, hv, minV, maxV]
    | succ h =>
      simp only [Wf] at hw
      cases k with
      | true => rw [if_pos rfl] at hw; subst hw; rfl
      | false => rw [if_neg (by simp)] at hw; rw [items_vals _ _ lo 0]; exact hw.1
theorem items_kill (h : Nat) (t : PT) (lo : Nat) : items h t.kill lo = [] := by
  cases t with
  | nil => cases h <;> rfl
  | node i a k l r => cases h <;> rfl
theorem keys_kill (h : Nat) (t : PT) (lo : Nat) : keys h t.kill lo = keys h t lo := by
  cases t with
  | nil => rfl
  | node i a k l r => cases h <;> rfl
theorem kill_nil {t : PT} : t.kill = .nil ↔ t = .nil := by cases t <;> simp [PT.kill]
theorem Sh.kill {h : Nat} {t : PT} (hs : Sh h t) : Sh h t.kill := by cases t with
  | nil => exact hs
  | node i a k l r => cases h <;> exact hs
theorem Wf.kill (h : Nat) (t : PT) : Wf h t.kill := by
  cases t with
  | nil => cases h <;> trivial
  | node i a k l r => cases h with
    | zero => exact .inl rfl
    | succ h => show if true = true then _ else _; rw [if_pos rfl]

/-- One tree stands as another did: the same nodes, the same leaves. -/
structure Like (h : Nat) (t t' : PT) : Prop where
  idx : t'.idx = t.idx
  ids : t'.ids = t.ids
  keys : ∀ lo, keys h t' lo = keys h t lo
  sh : Sh h t'
theorem Like.kill {h : Nat} {t : PT} (hs : Sh h t) : Like h t t.kill := ⟨by simp, by simp, fun lo => keys_kill h t lo, hs.kill⟩

/-- A node that was pushed. -/
theorem push_law {h : Nat} {ns : List Nd} {i : Int} {a : Ag} {k : Bool} {l r : PT} (hr : Rep ns (.node i a k l r)) (hd : (PT.node i a k l r).ids.Nodup) (hs : Sh (h + 1) (.node i a k l r)) (hw : Wf (h + 1) (.node i a k l r)) :
    ∃ l' r', (pushN ns i).1 = ⟨l.idx, r.idx, a, false⟩ ∧ Rep (pushN ns i).2 (.node i a false l' r') ∧ Like h l l' ∧ Like h r r' ∧ Wf h l' ∧ Wf h r' ∧ (∀ lo, items h l' lo ++ items h r' (lo + 2 ^ h) = items (h + 1) (.node i a k l r) lo) ∧
      (l' = .nil ↔ l = .nil) ∧ (r' = .nil ↔ r = .nil) ∧ ∀ j, j ∉ (PT.node i a k l r).ids → getN (pushN ns i).2 j = getN ns j := by
  obtain ⟨p1, p2, p3⟩ := hr.push hd
  obtain ⟨s1, s2, s3⟩ := hs
  cases k with
  | true => exact ⟨l.kill, r.kill, p1, p2, .kill s2, .kill s3, .kill _ _, .kill _ _, fun lo => by rw [items_kill, items_kill]; rfl, kill_nil, kill_nil, p3⟩
  | false =>
    simp only [Wf] at hw
    rw [if_neg (by simp)] at hw
    exact ⟨l, r, p1, p2, ⟨rfl, rfl, fun _ => rfl, s2⟩, ⟨rfl, rfl, fun _ => rfl, s3⟩, hw.2.1, hw.2.2, fun lo => rfl, Iff.rfl, Iff.rfl, p3⟩

theorem idx_nil {ns : List Nd} {t : PT} (h : Rep ns t) : t.idx = 0 ↔ t = .nil := by
  cases t with
  | nil => exact ⟨fun _ => rfl, fun _ => rfl⟩
  | node i a k l r => exact ⟨fun e => by have := h.1; simp [PT.idx] at e; omega, fun e => by cases e⟩
end Go.Proofs.Ytcdldjiogoapkaa
