import Derived.Test.YtpchodnknkdlgaaInAC
namespace Go.Proofs.Ytpchodnknkdlgaa
open Go.RowKit Go.Shelf
attribute [local go_sem] World.cell?_alloc_some

/-! Sets as rows. -/
def namesL (sets : List (List Int)) : List Int := Go.Lib.compact (sortL sets.flatten)
def mrowTo (names s : List Int) (k : Nat) : List Int := (s.take k).foldl (fun r x => r.set (names.countP (· < x)) 1) (List.replicate names.length 0)
def mrow (names s : List Int) : List Int := mrowTo names s s.length
def matL (sets : List (List Int)) : List (List Int) := sets.map (mrow (namesL sets))
theorem mrowTo_len (names s : List Int) (k : Nat) : (mrowTo names s k).length = names.length := by
  unfold mrowTo
  generalize s.take k = l
  suffices ∀ (r : List Int), (l.foldl (fun r x => r.set (names.countP (· < x)) 1) r).length = r.length by rw [this]; simp
  induction l with
  | nil => intro r; rfl
  | cons x l ih => intro r; rw [List.foldl_cons, ih, List.length_set]
theorem mrowTo_succ (names s : List Int) (k : Nat) (hk : k < s.length) : mrowTo names s (k + 1) = (mrowTo names s k).set (names.countP (· < s[k])) 1 := by
  unfold mrowTo
  rw [List.take_succ_eq_append_getElem hk, List.foldl_append]; rfl
theorem sortL_sorted (xs : List Int) : (sortL xs).Pairwise (· ≤ ·) := by
  have := List.pairwise_mergeSort (le := fun x y : Int => decide (x ≤ y)) (by intro a b c h1 h2; simp at *; omega) (by intro a b; simp; omega) xs
  exact this.imp fun h => by simpa using h
theorem sortL_mem {xs : List Int} {x : Int} : x ∈ sortL xs ↔ x ∈ xs := by unfold sortL; exact (List.mergeSort_perm _ _).mem_iff
/-- what is in order keeps its things, each once. -/
theorem compact_mem {zs : List Int} {x : Int} : x ∈ Go.Lib.compact zs ↔ x ∈ zs := by
  unfold Go.Lib.compact Go.Lib.compactUpTo
  simp only [List.mem_map, List.mem_filter, List.mem_range]
  constructor
  · rintro ⟨i, ⟨hi, -⟩, rfl⟩
    rw [getElem!_pos _ _ (by simpa using hi)]; simp
  · intro hx
    obtain ⟨i, hi, e⟩ := List.getElem_of_mem hx
    induction i using Nat.strongRecOn with
    | _ i ih =>
      by_cases hk : Go.Lib.keeps zs.toArray i = true
      · exact ⟨i, ⟨hi, hk⟩, by rw [getElem!_pos _ _ (by simpa using hi)]; simpa using e⟩
      · have h2 : i ≠ 0 ∧ zs.toArray[i]! = zs.toArray[i - 1]! := by
          constructor
          · rintro rfl; exact hk (Go.Lib.keeps_lt_one _ 0 (by omega))
          · exact Classical.byContradiction fun h => hk (Go.Lib.keeps_pos h)
        rw [getElem!_pos _ _ (by simpa using hi), getElem!_pos _ _ (by simp; omega)] at h2
        refine ih (i - 1) (by omega) (by omega) ?_
        have := h2.2
        simp only [List.getElem_toArray] at this
        rw [← this, e]
theorem compact_lt {zs : List Int} (h : zs.Pairwise (· ≤ ·)) : (Go.Lib.compact zs).Pairwise (· < ·) := by
  unfold Go.Lib.compact Go.Lib.compactUpTo
  rw [List.pairwise_map, List.pairwise_filter]
  refine List.pairwise_lt_range.imp_of_mem ?_
  intro i j hi hj hij hki hkj
  have hi := List.mem_range.1 hi
  have hj := List.mem_range.1 hj
  rw [getElem!_pos _ _ (by simpa using hi), getElem!_pos _ _ (by simpa using hj)]
  simp only [List.getElem_toArray]
  have hne : zs.toArray[j]! ≠ zs.toArray[j - 1]! := by
    intro e
    rw [Go.Lib.keeps_neg (by omega) e] at hkj
    cases hkj
  rw [getElem!_pos _ _ (by simpa using hj), getElem!_pos _ _ (by simp; omega)] at hne
  simp only [List.getElem_toArray] at hne
  have h1 := List.pairwise_iff_getElem.1 h (j - 1) j (by omega) hj (by omega)
  have h2 : zs[i] ≤ zs[j - 1] := by
    by_cases e : i = j - 1
    · subst e; omega
    · exact List.pairwise_iff_getElem.1 h i (j - 1) hi (by omega) (by omega)
  omega
theorem namesL_lt (sets : List (List Int)) : (namesL sets).Pairwise (· < ·) := compact_lt (sortL_sorted _)
theorem namesL_mem {sets : List (List Int)} {x : Int} : x ∈ namesL sets ↔ ∃ s ∈ sets, x ∈ s := by
  unfold namesL; rw [compact_mem, sortL_mem, List.mem_flatten]
theorem namesL_len (sets : List (List Int)) : (namesL sets).length ≤ sets.flatten.length := by
  unfold namesL; have := compact_len (sortL sets.flatten); rwa [sortL_len] at this
/-- what is there has its place. -/
theorem place_lt {names : List Int} {x : Int} (hx : x ∈ names) : names.countP (· < x) < names.length := by
  rcases Nat.lt_or_ge (names.countP (· < x)) names.length with h | h
  · exact h
  · have := List.countP_eq_length.1 (Nat.le_antisymm List.countP_le_length h) x hx
    simp at this

theorem MatAt.below {base : Nat} {W W' : World} {v : Value} {vs : List Value} {M : List (List Int)} (h : MatAt base W v vs M) (hb : Below W.heap.size W W') : MatAt base W' v vs M :=
  ⟨owns_same h.out fun b e => hb.block b (h.out.lt b e).2, fun i hi => let ⟨g, cap, h1, h2⟩ := h.row i hi; ⟨g, cap, h1, owns_same h2 fun b e => hb.block b (h2.lt b e).2⟩, h.ne, h.no⟩
theorem matAt_nil (base : Nat) (W : World) : MatAt base W (.slice none 0 0) [] [] :=
  ⟨World.ownsRow_nil _ _ _ _, fun i hi => by simp at hi, fun i j s t h => by simp at h, fun i s h => by simp at h⟩
theorem MatAt.push {base g cap : Nat} {W w1 : World} {v v' : Value} {vs : List Value} {M : List (List Int)} {R : List Int} {o : Obj} (h : MatAt base W v vs M)
    (ho : W.ownsRow base 2 1 (.slice (some ⟨g, 0, none⟩) R.length cap) R.length (R.map vI)) (hf : ∀ (i : Nat) (t : Value), vs[i]? = some t → t.ownBlock ≠ some g) (hv : v.ownBlock ≠ some g) (hb : base ≤ W.heap.size)
    (hown : w1.ownsRow base 46 1 v' (M.length + 1) (vs ++ [.slice (some ⟨g, 0, none⟩) R.length cap])) (hg : (W.alloc o).grownBy w1 v.ownBlock) (hat : v'.ownBlock = v.ownBlock ∨ v'.ownBlock = some (W.alloc o).heap.size) :
    MatAt base w1 v' (vs ++ [.slice (some ⟨g, 0, none⟩) R.length cap]) (M ++ [R]) ∧ Below base W w1 := by
  have hl := h.len
  have kb : ∀ b, b < W.heap.size → v.ownBlock ≠ some b → w1.heap[b]? = W.heap[b]? := fun b hb hn => (hg.block b (by simp; omega) (fun e => hn e.symm)).trans (Below.heap_alloc _ _ _ hb)
  have hgl : g < W.heap.size := (ho.lt g rfl).2
  have old : ∀ (i : Nat) t, (vs ++ [Value.slice (some ⟨g, 0, none⟩) R.length cap])[i]? = some t → (i < vs.length ∧ vs[i]? = some t) ∨ (i = vs.length ∧ t = .slice (some ⟨g, 0, none⟩) R.length cap) := by
    intro i t ht
    rw [List.getElem?_append] at ht
    split at ht
    · exact .inl ⟨‹_›, ht⟩
    · have : i - vs.length < 1 := by rcases Nat.lt_or_ge (i - vs.length) 1 with h | h; exact h; rw [List.getElem?_eq_none (by simpa using h)] at ht; cases ht
      have e : i - vs.length = 0 := by omega
      rw [e] at ht
      exact .inr ⟨by omega, by simpa using ht.symm⟩
  have bl : ∀ (i : Nat) t, vs[i]? = some t → ∀ b, t.ownBlock = some b → b < W.heap.size := fun i t ht b e => by
    obtain ⟨hi, -⟩ := List.getElem?_eq_some_iff.1 ht
    obtain ⟨g2, c2, h1, h2⟩ := h.row i (by omega)
    rw [ht] at h1; cases h1
    exact (h2.lt b e).2
  refine ⟨⟨?_, fun j hj => ?_, fun i j s t hs ht hij b e => ?_, fun i s hs b e => ?_⟩, push_base h.out hg (Nat.le_refl _) hb⟩
  · rw [List.length_append]; exact hown
  · rw [List.length_append] at hj
    by_cases hjl : j < M.length
    · obtain ⟨g2, c2, h1, h2⟩ := h.row j hjl
      rw [List.getElem_append_left hjl]
      refine ⟨g2, c2, by rw [List.getElem?_append_left (by omega)]; exact h1, owns_same h2 fun b e => kb b (h2.lt b e).2 fun e2 => h.no j _ h1 b e e2⟩
    · have hje : j = M.length := by simp at hj; omega
      subst hje
      have e : (M ++ [R])[M.length]'(by simp) = R := by simp
      rw [e]
      refine ⟨g, cap, by rw [← hl]; simp, owns_same ho fun b e => kb b (ho.lt b e).2 fun e2 => hv (by cases e; exact e2)⟩
  · rcases old i s hs with ⟨hi, hs⟩ | ⟨hi, rfl⟩ <;> rcases old j t ht with ⟨hj, ht⟩ | ⟨hj, rfl⟩
    · exact h.ne i j s t hs ht hij b e
    · intro e2
      have e3 : g = b := Option.some.inj e2
      subst e3
      exact hf i s hs e
    · have e3 : g = b := Option.some.inj e
      subst e3
      exact hf j t ht
    · omega
  · have hbl : b < W.heap.size ∧ v.ownBlock ≠ some b := by
      rcases old i s hs with ⟨hi, hs⟩ | ⟨hi, rfl⟩
      · exact ⟨bl i s hs b e, h.no i s hs b e⟩
      · have e3 : g = b := Option.some.inj e
        subst e3; exact ⟨hgl, hv⟩
    rcases hat with e2 | e2
    · rw [e2]; exact hbl.2
    · rw [e2]; intro e3
      have := Option.some.inj e3
      simp at this; omega
end Go.Proofs.Ytpchodnknkdlgaa
