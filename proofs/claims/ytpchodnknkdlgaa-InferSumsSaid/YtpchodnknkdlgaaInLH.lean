import Derived.Test.YtpchodnknkdlgaaInLG
namespace Go.Proofs.Ytpchodnknkdlgaa
open Go.RowKit
attribute [local go_sem] World.cell?_alloc_some frozen_alloc_some

/-! Rows of one's own, of rows that lie beside it. -/
/-- 1: the block of v's own; 0: all else. -/
def colV (v : Value) : Col := fun b => if v.ownBlock = some b then 1 else 0
/-- v is an own row, from base on, of rows that lie in other blocks. -/
def RowsAt (base : Nat) (W : World) (v : Value) (l : List (List Int)) : Prop :=
  ∃ vs, W.ownsRow base 24 1 v l.length vs ∧ ∀ i (hi : i < l.length), ∃ x, vs[i]? = some x ∧ IsI 0 (colV v) W x l[i]
theorem RowsAt.keep {base : Nat} {W W' : World} {v : Value} {l : List (List Int)} (h : RowsAt base W v l) (hb : Below W.heap.size W W') : RowsAt base W' v l := by
  obtain ⟨vs, h1, h2⟩ := h
  refine ⟨vs, owns_same h1 fun b e => hb.block b (h1.lt b e).2, fun i hi => ?_⟩
  obtain ⟨x, e, hx⟩ := h2 i hi
  exact ⟨x, e, IsI.keep hx (Same.below' hb)⟩
theorem IsI.recol {χ χ' : Col} {w w' : World} {v : Value} {xs : List Int} (h : IsI 0 χ w v xs) (hs : ∀ b, b < w.heap.size → χ b = 0 → χ' b = 0 ∧ w'.heap[b]? = w.heap[b]?) : IsI 0 χ' w' v xs :=
  IsI.keep h fun b hb e => ⟨by have := (hs b hb e).1; rw [this]; exact e.symm, (hs b hb e).2⟩
theorem RowsAt.isII {base : Nat} {W : World} {v : Value} {l : List (List Int)} (h : RowsAt base W v l) (hl : l.length ≤ 1000000) : IsII 0 0 (fun _ => 0) W v l := by
  obtain ⟨vs, h1, h3⟩ := h
  refine IsL.of_owns (by omega) h1 (by omega) (fun _ _ => rfl) fun i hi => ?_
  obtain ⟨s, e, ho⟩ := h3 i hi
  have hii : i < vs.length := by
    rcases Nat.lt_or_ge i vs.length with h | h
    · exact h
    · rw [List.getElem?_eq_none h] at e; cases e
  refine ⟨s, ?_, ho.recol fun b _ _ => ⟨rfl, rfl⟩⟩
  rw [show i * 1 = i by omega, List.drop_eq_getElem_cons hii]
  have : vs[i] = s := by rw [List.getElem?_eq_getElem hii] at e; exact Option.some.inj e
  rw [this]; rfl
/-- what lay before the row was begun lies beside it. -/
theorem RowsAt.old {base n : Nat} {w W : World} {v x : Value} {vs : List Value} {s : List Int} (h : W.ownsRow base 24 1 v n vs) (hbase : w.heap.size ≤ base) (hb : Below w.heap.size w W) (hx : IsI 0 (fun _ => 0) w x s) : IsI 0 (colV v) W x s :=
  hx.recol fun b hbl _ => ⟨by unfold colV; rw [if_neg fun e => by have := (h.lt b e).1; omega], hb.block b hbl⟩
theorem RowsAt.push {base : Nat} {W w1 : World} {v v' x : Value} {vs : List Value} {l : List (List Int)} {r : List Int} {o : Obj}
    (h1 : W.ownsRow base 24 1 v l.length vs) (h2 : ∀ i (hi : i < l.length), ∃ x, vs[i]? = some x ∧ IsI 0 (colV v) W x l[i]) (hx : IsI 0 (colV v) W x r)
    (hown : w1.ownsRow base 24 1 v' (l.length + 1) (vs ++ [x])) (hg : (W.alloc o).grownBy w1 v.ownBlock) (hat : v'.ownBlock = v.ownBlock ∨ v'.ownBlock = some (W.alloc o).heap.size) (hb : base ≤ W.heap.size) :
    RowsAt base w1 v' (l ++ [r]) ∧ Below base W w1 := by
  have hvl : vs.length = l.length := by have := h1.1; omega
  have kb : ∀ b, b < W.heap.size → colV v b = 0 → colV v' b = 0 ∧ w1.heap[b]? = W.heap[b]? := fun b hbl hn => by
    have hne : v.ownBlock ≠ some b := fun e => by unfold colV at hn; rw [if_pos e] at hn; cases hn
    refine ⟨?_, (hg.block b (by simp; omega) (fun e => hne e.symm)).trans (Below.heap_alloc _ _ _ hbl)⟩
    unfold colV
    rw [if_neg]
    intro e
    rcases hat with e2 | e2
    · exact hne (e2.symm.trans e)
    · rw [e2] at e
      have := Option.some.inj e
      simp at this; omega
  refine ⟨⟨vs ++ [x], by rw [List.length_append]; exact hown, fun i hi => ?_⟩, push_base h1 hg (Nat.le_refl _) hb⟩
  by_cases hil : i < l.length
  · obtain ⟨y, e, hy⟩ := h2 i hil
    exact ⟨y, by rw [List.getElem?_append_left (by omega)]; exact e, by rw [List.getElem_append_left hil]; exact hy.recol kb⟩
  · have hie : i = l.length := by simp at hi; omega
    subst hie
    exact ⟨x, by rw [← hvl]; simp, by simpa using hx.recol kb⟩
theorem owns_one {w : World} {base e : Nat} (x : Value) (hb : base ≤ w.heap.size) : (w.alloc (.cells #[x] e)).ownsRow base e 1 (.slice (some ⟨w.heap.size, 0, none⟩) 1 1) 1 [x] :=
  ⟨rfl, .inr ⟨w.heap.size, 1, #[x], rfl, hb, heap_alloc_at w _, Nat.le_refl _, by unfold maxLen; omega, rfl, rfl⟩⟩
theorem RowsAt.one {w W : World} {x : Value} {r : List Int} (hx : IsI 0 (fun _ => 0) w x r) (hb : Below w.heap.size w W) : RowsAt w.heap.size (W.alloc (.cells #[x] 24)) (.slice (some ⟨W.heap.size, 0, none⟩) 1 1) [r] := by
  have h := owns_one (w := W) (base := w.heap.size) (e := 24) x hb.size
  refine ⟨[x], h, fun i hi => ?_⟩
  have hi0 : i = 0 := by simpa using hi
  subst hi0
  exact ⟨x, rfl, RowsAt.old h (Nat.le_refl _) (hb.alloc hb.size _) hx⟩
theorem RowsAt.nil {W : World} {base : Nat} (hb : base ≤ W.heap.size) : RowsAt base (W.alloc (.cells #[] 24)) (.slice (some ⟨W.heap.size, 0, none⟩) 0 0) [] :=
  ⟨[], World.ownsRow_made (e := 24) (size := 1) W #[] 0 hb (Nat.zero_le _) rfl, fun i hi => by simp at hi⟩
/-- the row of an argument, as values. -/
theorem isV_of {c d : Nat} {χ : Col} {w : World} {v : Value} {l : List (List Int)} (h : IsII c d χ w v l) : ∃ vs : List Value, vs.length = l.length ∧ IsL 1 rV c χ w v vs ∧ ∀ i (hi : i < l.length), ∃ x, vs[i]? = some x ∧ IsI d χ w x l[i] := by
  obtain ⟨A, cap, rfl, h1, h2, h3, h4⟩ := h
  have hq : ∀ i : Nat, ∃ x : Value, ∀ hi : i < l.length, IsI d χ w x l[i] ∧ ∃ b o, A = some ⟨b, o, none⟩ ∧ χ b = c ∧ w.cell? ⟨b, o + i, none⟩ = some x := fun i => by
    by_cases hi : i < l.length
    · obtain ⟨b, o, cs, e1, e2, e3, ⟨x, rfl, hx⟩, e5⟩ := h4 i hi
      exact ⟨x, fun _ => ⟨hx, b, o, e1, e2, by have := e5 0 (by simp); simpa using this⟩⟩
    · exact ⟨undef, fun h => absurd h hi⟩
  obtain ⟨f, hf⟩ := Classical.axiomOfChoice hq
  refine ⟨(List.range l.length).map f, by simp, ⟨A, cap, by simp, by simpa using h1, h2, by simpa using h3, fun i hi => ?_⟩, fun i hi => ⟨f i, by simp [hi], (hf i hi).1⟩⟩
  have hi2 : i < l.length := by simpa using hi
  obtain ⟨hx, b, o, e1, e2, e3⟩ := hf i hi2
  refine ⟨b, o, [f i], e1, e2, rfl, ⟨by simp, ?_⟩, fun j hj => ?_⟩
  · obtain ⟨A2, c2, e, -⟩ := hx
    simp only [List.getElem_map, List.getElem_range]
    rw [e]; rfl
  · have hj0 : j = 0 := by simpa using hj
    subst hj0
    simpa using e3
end Go.Proofs.Ytpchodnknkdlgaa
