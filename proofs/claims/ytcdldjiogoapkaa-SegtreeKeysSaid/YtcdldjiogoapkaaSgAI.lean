import Derived.Test.YtcdldjiogoapkaaSgAH
namespace Go.Proofs.Ytcdldjiogoapkaa
open Go.RowKit

/-! Plain facts on rows. -/
theorem agV_s (vs : List Int) : (agV vs).s = wrap64 (sumV vs) := by
  cases vs with
  | nil => simp [agV, Ag.zero, sumV, wrap64]
  | cons v vs => rfl
abbrev Srt (row : List (Nat × Int)) : Prop := row.Pairwise (fun x y => x.1 < y.1)
theorem inS_iff {slo shi : Nat} {x : Nat × Int} : inS slo shi x = true ↔ slo ≤ x.1 ∧ x.1 ≤ shi := by unfold inS; simp
theorem filter_split {row : List (Nat × Int)} (h : Srt row) {lo cut hi : Nat} (h1 : lo ≤ cut) (h2 : cut < hi) : row.filter (inS lo hi) = row.filter (inS lo cut) ++ row.filter (inS (cut + 1) hi) := by
  induction row with
  | nil => rfl
  | cons x row ih =>
    have hx : ∀ y ∈ row, x.1 < y.1 := fun y hy => List.rel_of_pairwise_cons h hy
    have ih := ih h.of_cons
    simp only [List.filter_cons]
    by_cases c1 : inS lo cut x = true
    · have : inS lo hi x = true := by rw [inS_iff] at c1 ⊢; omega
      have n2 : ¬ inS (cut + 1) hi x = true := by rw [inS_iff] at c1 ⊢; omega
      rw [if_pos this, if_pos c1, if_neg n2, ih]; rfl
    · by_cases c2 : inS (cut + 1) hi x = true
      · have : inS lo hi x = true := by rw [inS_iff] at c2 ⊢; omega
        have e : row.filter (inS lo cut) = [] := by
          rw [List.filter_eq_nil_iff]
          intro y hy
          have := hx y hy
          rw [inS_iff] at c2 ⊢; omega
        rw [if_pos this, if_neg c1, if_pos c2, ih, e]; rfl
      · have : ¬ inS lo hi x = true := by rw [inS_iff] at c1 c2 ⊢; omega
        rw [if_neg this, if_neg c1, if_neg c2, ih]
theorem filter_len (p : Nat × Int → Bool) (row : List (Nat × Int)) : (row.filter p).length + (row.filter (fun x => !p x)).length = row.length := by
  induction row with
  | nil => rfl
  | cons x row ih => simp only [List.filter_cons]; cases p x <;> simp <;> omega
theorem filter_sum (p : Nat × Int → Bool) (row : List (Nat × Int)) : sumV (vals (row.filter p)) + sumV (vals (row.filter (fun x => !p x))) = sumV (vals row) := by
  induction row with
  | nil => rfl
  | cons x row ih => simp only [List.filter_cons, vals] at ih ⊢; cases p x <;> simp [sumV] <;> omega
theorem filter_whole {row : List (Nat × Int)} (h : ∀ x ∈ row, x.1 < 4294967296) : row.filter (inS 0 4294967295) = row := by
  rw [List.filter_eq_self]; intro x hx; rw [inS_iff]; have := h x hx; omega
theorem filter_kill (row : List (Nat × Int)) (lo cut : Nat) : (row.filter (fun x => !inS lo cut x)).filter (inS lo cut) = [] := by
  rw [List.filter_filter, List.filter_eq_nil_iff]; intro x hx; cases inS lo cut x <;> simp
theorem filter_rest (row : List (Nat × Int)) (lo cut hi : Nat) : (row.filter (fun x => !inS lo cut x)).filter (inS (cut + 1) hi) = row.filter (inS (cut + 1) hi) := by
  rw [List.filter_filter]
  congr 1
  funext x
  by_cases c : inS (cut + 1) hi x = true
  · have : ¬ inS lo cut x = true := by rw [inS_iff] at c ⊢; omega
    simp [c, this]
  · simp [c]
theorem filter_none (row : List (Nat × Int)) : row.filter (inS 1 0) = [] := by
  rw [List.filter_eq_nil_iff]; intro x hx; rw [inS_iff]; omega
theorem putL_get (k : Nat) (v : Int) (row : List (Nat × Int)) : (putL k v row).filter (inS k k) = [(k, v)] := by
  unfold putL
  rw [List.filter_append, List.filter_cons, if_pos (by rw [inS_iff]; exact ⟨Nat.le_refl _, Nat.le_refl _⟩), List.filter_filter, List.filter_filter,
    (List.filter_eq_nil_iff (l := row)).2, (List.filter_eq_nil_iff (l := row)).2]
  · rfl
  · intro x hx; simp only [Bool.and_eq_true, inS_iff, decide_eq_true_eq]; omega
  · intro x hx; simp only [Bool.and_eq_true, inS_iff, decide_eq_true_eq]; omega
theorem distF_self (f k : Nat) : distF f k k = 0 := by cases f <;> simp [distF]
theorem lackL_mem {k : Nat} {ks : List Nat} (h : k ∈ ks) : lackL ks k = 0 := by
  induction ks with
  | nil => simp at h
  | cons x ks ih =>
    show min _ _ = 0
    rcases List.mem_cons.1 h with e | e
    · subst e; rw [distF_self]; omega
    · rw [ih e]; omega
theorem putL_len (k : Nat) (v : Int) (row : List (Nat × Int)) : (putL k v row).length ≤ row.length + 1 := by
  have h := filter_len (fun x => decide (x.1 < k)) row
  have h2 : (row.filter (fun x => decide (k < x.1))).length ≤ (row.filter (fun x => !decide (x.1 < k))).length := by
    clear h
    induction row with
    | nil => simp
    | cons x row ih =>
      simp only [List.filter_cons]
      by_cases c : x.1 < k
      · rw [if_neg (by simp; omega), if_neg (by simp; omega)]; exact ih
      · rw [if_pos (c := (!decide (x.1 < k)) = true) (by simp; omega)]
        split
        · simp only [List.length_cons]; omega
        · simp only [List.length_cons]; omega
  unfold putL
  rw [List.length_append, List.length_cons]
  omega

abbrev IsU (c : Nat) (χ : Col) (w : World) (v : Value) (xs : List Nat) : Prop := IsL 1 rU c χ w v xs
theorem IsU.keep {c : Nat} {χ χ' : Col} {w w' : World} {v : Value} {xs : List Nat} (h : IsU c χ w v xs) (hs : Same (· = c) χ χ' w w') : IsU c χ' w' v xs :=
  IsL.keep (D := (· = c)) (by omega) (rU_on _) rfl h hs
theorem IsL.getU {c : Nat} {χ : Col} {w : World} {A : Option Addr} {cap n : Nat} {xs : List Nat} (h : IsU c χ w (.slice A n cap) xs) (i : Nat) (hi : i < xs.length) :
    ∃ b o, A = some ⟨b, o, none⟩ ∧ w.cell? ⟨b, o + i, none⟩ = some (.int .u32 (xs[i] : Nat)) ∧ xs[i] < 4294967296 := by
  obtain ⟨A', c', e, h1, h2, h3, h4⟩ := h
  cases e
  obtain ⟨b, o, cs, e, hb, hl, ⟨rfl, hr⟩, hc⟩ := h4 i hi
  exact ⟨b, o, e, by simpa using hc 0 (by simp), hr⟩
/-- Blocks of a law's own. -/
def Dats (χ : Col) (W : World) (L : List (Nat × Obj)) : Prop := ∀ p ∈ L, Dat χ W p.1 p.2
theorem Dats.call {χ χ' : Col} {W W' : World} {L : List (Nat × Obj)} (d : Dats χ W L) (ag : ∀ b, b < W.heap.size → χ' b = χ b) (hc : Chg χ tree1 W W') : Dats χ' W' L := fun p hp => (d p hp).call ag hc
theorem Dats.below {χ : Col} {W W' : World} {L : List (Nat × Obj)} (d : Dats χ W L) (hb : Below W.heap.size W W') : Dats (paint χ W.heap.size 10) W' L := fun p hp => (d p hp).below hb 10
theorem Dats.alloc {χ : Col} {W : World} {L : List (Nat × Obj)} (d : Dats χ W L) (o : Obj) : Dats (paint χ W.heap.size 10) (W.alloc o) ((W.heap.size, o) :: L) := fun p hp => by
  rcases List.mem_cons.1 hp with e | e
  · subst e; exact Dat.new χ W o
  · exact (d p e).below ((Below.refl _ _).alloc (Nat.le_refl _) _) 10
theorem Lw.alloc {w : World} {χ : Col} {W : World} {pt n : Nat} {lim : Int} {row : List (Nat × Int)} {ever : List Nat} (h : Lw w χ W pt lim row ever n) (o : Obj) : Lw w (paint χ W.heap.size 10) (W.alloc o) pt lim row ever n :=
  h.below ((Below.refl _ _).alloc (Nat.le_refl _) _) 10
end Go.Proofs.Ytcdldjiogoapkaa
