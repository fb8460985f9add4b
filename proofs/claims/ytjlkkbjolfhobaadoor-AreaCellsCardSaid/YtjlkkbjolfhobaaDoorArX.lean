import Derived.Test.YtjlkkbjolfhobaaDoorArW
namespace Go.Proofs.YtjlkkbjolfhobaaDoor
open Go.RowKit

/-! Plain laws of an area's cells. -/
theorem NF.sub {l l' : List Sp} (h : NF l) (hs : l'.Sublist l) : NF l' := ⟨fun s hm => h.ok s (hs.subset hm), h.gap.sublist hs⟩
theorem NF.apart {l : List Sp} (h : NF l) {s t : Sp} (hs : s ∈ l) (ht : t ∈ l) : s = t ∨ s.2 + 1 < t.1 ∨ t.2 + 1 < s.1 := by
  obtain ⟨i, hi, rfl⟩ := List.getElem_of_mem hs
  obtain ⟨j, hj, rfl⟩ := List.getElem_of_mem ht
  have hp := List.pairwise_iff_getElem.1 h.gap
  rcases Nat.lt_trichotomy i j with c | c | c
  · exact .inr (.inl (hp i j hi hj c))
  · subst c; exact .inl rfl
  · exact .inr (.inr (hp j i hj hi c))
theorem cellsTo_mem {a : Ar} {n x : Nat} {s : Sp} : (x, s) ∈ cellsTo a n ↔ x < n ∧ s ∈ nf (atA a x) := by
  unfold cellsTo
  simp only [List.mem_flatMap, List.mem_range, List.mem_map]
  constructor
  · rintro ⟨i, hi, t, ht, e⟩; cases e; exact ⟨hi, ht⟩
  · rintro ⟨hx, hs⟩; exact ⟨x, hx, s, hs, rfl⟩
/-- what a cell of an area is. -/
theorem cell_law {a : Ar} (wa : ∀ l ∈ a, WfS l) {x lo hi : Nat} (h : (x, lo, hi) ∈ cellsL a) : lo ≤ hi ∧ hi < 4294967296 ∧ x < a.length ∧ inA a x lo = true ∧ inA a x hi = true ∧ (0 < lo → inA a x (lo - 1) = false) ∧ (hi < 4294967295 → inA a x (hi + 1) = false) := by
  obtain ⟨hx, hm⟩ := cellsTo_mem.1 h
  have hn := nf_spec (atA_wf wa x)
  obtain ⟨h1, h2⟩ := hn.nf.ok _ hm
  have hin : ∀ k, inA a x k = true ↔ Mem k (nf (atA a x)) := fun k => by rw [in_of, hn.iff, Int.toNat_natCast]; exact ⟨fun g => g.2, fun g => ⟨by omega, g⟩⟩
  refine ⟨h1, h2, hx, (hin _).2 ⟨_, hm, Nat.le_refl _, h1⟩, (hin _).2 ⟨_, hm, h1, Nat.le_refl _⟩, fun h0 => ?_, fun h0 => ?_⟩
  · refine Bool.eq_false_iff.2 fun g => ?_
    obtain ⟨t, ht, g1, g2⟩ := (hin _).1 g
    rcases hn.nf.apart hm ht with rfl | c | c
    · simp only at g1; omega
    · simp only at c; omega
    · simp only at c; omega
  · refine Bool.eq_false_iff.2 fun g => ?_
    obtain ⟨t, ht, g1, g2⟩ := (hin _).1 g
    rcases hn.nf.apart hm ht with rfl | c | c
    · simp only at g2; omega
    · simp only at c; omega
    · simp only at c; omega
theorem cellsTo_sorted (a : Ar) (n : Nat) : (cellsTo a n).Pairwise fun x y => x.1 ≤ y.1 := by
  induction n with
  | zero => simp [cellsTo]
  | succ n ih =>
    rw [cellsTo_succ, List.pairwise_append]
    refine ⟨ih, ?_, fun x hx y hy => ?_⟩
    · rw [List.pairwise_map]
      exact List.pairwise_of_forall fun _ _ => Nat.le_refl _
    · obtain ⟨s, hs, rfl⟩ := List.mem_map.1 hy
      obtain ⟨x1, x2⟩ := x
      have := (cellsTo_mem.1 hx).1
      simp only; omega
theorem cells_mono (a : Ar) (i j : Nat) (hi : i < (cellsL a).length) (hj : j < (cellsL a).length) (hij : i < j) : ((cellsL a)[i]).1 ≤ ((cellsL a)[j]).1 :=
  List.pairwise_iff_getElem.1 (cellsTo_sorted a a.length) i j hi hj hij
/-- a label's spans in a row of cells. -/
def labL (cl : List (Nat × Sp)) (i : Nat) : List Sp := (cl.filter fun x => x.1 == i).map (·.2)
theorem labL_cells (a : Ar) (n i : Nat) : labL (cellsTo a n) i = if i < n then nf (atA a i) else [] := by
  induction n with
  | zero => simp [cellsTo, labL]
  | succ n ih =>
    have e : labL (cellsTo a (n + 1)) i = labL (cellsTo a n) i ++ labL ((nf (atA a n)).map fun s => (n, s)) i := by
      unfold labL; rw [cellsTo_succ, List.filter_append, List.map_append]
    have e2 : labL ((nf (atA a n)).map fun s => (n, s)) i = if n = i then nf (atA a n) else [] := by
      unfold labL
      rw [List.filter_map]
      by_cases h : n = i
      · subst h; simp [Function.comp_def]
      · simp [Function.comp_def, h]
    rw [e, ih, e2]
    by_cases h1 : i < n
    · rw [if_pos h1, if_neg (by omega), if_pos (by omega), List.append_nil]
    · by_cases h2 : n = i
      · subst h2; rw [if_neg h1, if_pos rfl, if_pos (by omega), List.nil_append]
      · rw [if_neg h1, if_neg h2, if_neg (by omega), List.append_nil]
/-- the area of a row's first cells. -/
def partK (cl : List (Nat × Sp)) (k : Nat) : Ar := if k = 0 then [] else (List.range 16).map fun i => labL (cl.take k) i
theorem partK_len (cl : List (Nat × Sp)) (k : Nat) : (partK cl k).length ≤ 16 := by unfold partK; split <;> simp
theorem partK_at (cl : List (Nat × Sp)) (k i : Nat) (h : i < 16) : atA (partK cl k) i = labL (cl.take k) i := by
  unfold partK
  by_cases hk : k = 0
  · subst hk; rw [if_pos rfl]; simp [atA, labL]
  · rw [if_neg hk, atA_lt (by simpa using h)]; simp
theorem labL_sub (cl : List (Nat × Sp)) (k i : Nat) : (labL (cl.take k) i).Sublist (labL cl i) := ((List.take_sublist k cl).filter _).map _
theorem labL_nf {a : Ar} (wa : ∀ l ∈ a, WfS l) (k i : Nat) : NF (labL ((cellsL a).take k) i) := by
  refine NF.sub ?_ (labL_sub (cellsL a) k i)
  unfold cellsL
  rw [labL_cells]
  split
  · exact (nf_spec (atA_wf wa i)).nf
  · exact NF.nil
theorem labL_len {a : Ar} (wa : ∀ l ∈ a, WfS l) (sa : Sm 20 a) (k i : Nat) : (labL ((cellsL a).take k) i).length ≤ 20 := by
  refine Nat.le_trans (labL_sub (cellsL a) k i).length_le ?_
  unfold cellsL
  rw [labL_cells]
  split
  · exact Nat.le_trans (nf_len (atA_wf wa i)) (sa.at i)
  · simp
theorem partK_sm {a : Ar} (wa : ∀ l ∈ a, WfS l) (sa : Sm 20 a) (k : Nat) : Sm 20 (partK (cellsL a) k) := fun l hl => by
  unfold partK at hl
  split at hl
  · simp at hl
  · obtain ⟨i, -, rfl⟩ := List.mem_map.1 hl
    exact labL_len wa sa k i
theorem part_step {a u : Ar} (wa : ∀ l ∈ a, WfS l) {k x mk : Nat} {s : Sp} (hk : k < (cellsL a).length) (hx : (cellsL a)[k] = (x, s)) (hmk : mk = 2 ^ x)
    (hu : IsU (partK (cellsL a) k) (ofL 16 (bitsN mk) (nf [s])) u) (hl : u.length = max (partK (cellsL a) k).length (ofL 16 (bitsN mk) (nf [s])).length) (hs : s.1 < 4294967296 ∧ s.2 < 4294967296) : u = partK (cellsL a) (k + 1) := by
  have hpl := partK_len (cellsL a) k
  have h16 : (partK (cellsL a) (k + 1)).length = 16 := by unfold partK; rw [if_neg (by omega)]; simp
  have hw : WfS [s] := fun t ht => by simp at ht; subst ht; exact hs
  refine ar_eq (P := fun i key => Mem key (atA (partK (cellsL a) k) i) ∨ Mem key (atA (ofL 16 (bitsN mk) (nf [s])) i)) (by rw [hl, ofL_len, h16]; omega) hu (fun l hl => ?_) fun i hi key => ?_
  · unfold partK at hl
    rw [if_neg (by omega)] at hl
    obtain ⟨i, -, rfl⟩ := List.mem_map.1 hl
    exact labL_nf wa (k + 1) i
  · rw [h16] at hi
    have e : labL ((cellsL a).take (k + 1)) i = labL ((cellsL a).take k) i ++ if x = i then [s] else [] := by
      unfold labL
      rw [List.take_succ_eq_append_getElem hk, hx, List.filter_append, List.map_append]
      congr 1
      by_cases h : x = i
      · simp [h]
      · simp [h]
    rw [partK_at _ _ _ hi, partK_at _ _ _ hi, e, mem_ofL (Nat.le_refl _), (nf_spec hw).iff, hmk, Nat.testBit_two_pow, decide_eq_true_iff]
    constructor
    · rintro (⟨t, ht, h1, h2⟩ | ⟨⟨-, rfl⟩, t, ht, h1, h2⟩)
      · exact ⟨t, List.mem_append_left _ ht, h1, h2⟩
      · exact ⟨t, List.mem_append_right _ (by rw [if_pos rfl]; exact ht), h1, h2⟩
    · rintro ⟨t, ht, h1, h2⟩
      rcases List.mem_append.1 ht with h | h
      · exact .inl ⟨t, h, h1, h2⟩
      · by_cases hxi : x = i
        · rw [if_pos hxi] at h
          exact .inr ⟨⟨hi, hxi⟩, t, h, h1, h2⟩
        · rw [if_neg hxi] at h; simp at h
theorem part_all {a : Ar} (wa : ∀ l ∈ a, WfS l) (h16 : a.length ≤ 16) : (subB (partK (cellsL a) (cellsL a).length) a && subB a (partK (cellsL a) (cellsL a).length)) = true := by
  have e : ∀ i key, Mem key (atA (partK (cellsL a) (cellsL a).length) i) ↔ Mem key (atA a i) := fun i key => by
    by_cases hi : i < 16
    · rw [partK_at _ _ _ hi, List.take_length]
      unfold cellsL
      rw [labL_cells]
      by_cases h : i < a.length
      · rw [if_pos h]; exact (nf_spec (atA_wf wa i)).iff key
      · rw [if_neg h, atA_ge (by omega)]
    · rw [atA_ge (a := a) (by omega), atA_ge (by have := partK_len (cellsL a) (cellsL a).length; omega)]
  rw [subB_iff.2 fun i k h => (e i k).1 h, subB_iff.2 fun i k h => (e i k).2 h]; rfl
theorem cells_none {a : Ar} (wa : ∀ l ∈ a, WfS l) : emptyB a = decide ((cellsL a).length = 0) := eq_of_iff (by
  rw [emptyB_iff, decide_eq_true_iff]
  constructor
  · intro h
    refine List.length_eq_zero_iff.2 (List.eq_nil_iff_forall_not_mem.2 fun y hy => ?_)
    obtain ⟨x, s⟩ := y
    obtain ⟨hx, hs⟩ := cellsTo_mem.1 hy
    have hn := nf_spec (atA_wf wa x)
    exact h x s.1 ((hn.iff _).1 ⟨s, hs, Nat.le_refl _, (hn.nf.ok s hs).1⟩)
  · intro h i k hk
    have hn := nf_spec (atA_wf wa i)
    obtain ⟨s, hs, -⟩ := (hn.iff k).2 hk
    have hi : i < a.length := Classical.byContradiction fun c => by rw [atA_ge (by omega)] at hk; exact mem_nil hk
    have hm : (i, s) ∈ cellsL a := cellsTo_mem.2 ⟨hi, hs⟩
    rw [List.length_eq_zero_iff.1 h] at hm
    simp at hm)
end Go.Proofs.YtjlkkbjolfhobaaDoor
