import Derived.Test.YtpchodnknkdlgaaInAL
namespace Go.Proofs.Ytpchodnknkdlgaa
open Go.RowKit
attribute [local go_sem] World.cell?_alloc_some frozen_alloc_some

/-- values, as they lie. -/
def rV : Rp Value := fun _ _ cs x => cs = [x] ∧ x.oneCell' = true
theorem rV_one : rV.One := by rintro χ w cs x ⟨rfl, h⟩ u hu; simp at hu; subst hu; exact h
theorem rV_on (D : Nat → Prop) : rV.On D := fun _ _ _ _ _ _ h _ => h
theorem isV_own {base c : Nat} {χ : Col} {w : World} {v : Value} {n : Nat} {vs : List Value} (h : w.ownsRow base 24 1 v n vs) (hl : n ≤ 1000000) (hc : ∀ b, v.ownBlock = some b → χ b = c) (h1 : ∀ x ∈ vs, x.oneCell' = true) : IsL 1 rV c χ w v vs := by
  have hn : n = vs.length := by have := h.1; omega
  subst hn
  exact IsL.of_owns (by omega) h (by omega) hc fun i hi => by
    rw [Nat.mul_one, List.drop_eq_getElem_cons hi]
    exact ⟨rfl, h1 _ (List.getElem_mem hi)⟩
/-- The document's list of what was told: an own row, from base on, of rows that are read in w0. -/
def Tol (base : Nat) (w0 W : World) (v : Value) (l : List (List Int)) : Prop :=
  ∃ vs, W.ownsRow base 24 1 v l.length vs ∧ ∀ i (hi : i < l.length), ∃ x, vs[i]? = some x ∧ IsI 0 (fun _ => 0) w0 x l[i]
theorem Tol.one {base : Nat} {w0 W : World} {l : List (List Int)} {vs : List Value} {v : Value} (h : W.ownsRow base 24 1 v l.length vs) (h2 : ∀ i (hi : i < l.length), ∃ x, vs[i]? = some x ∧ IsI 0 (fun _ => 0) w0 x l[i]) : ∀ x ∈ vs, x.oneCell' = true := by
  intro x hx
  obtain ⟨i, hi, rfl⟩ := List.getElem_of_mem hx
  have hl : vs.length = l.length := by have := h.1; omega
  obtain ⟨y, e, A, cap, e2, -⟩ := h2 i (by omega)
  rw [List.getElem?_eq_getElem hi] at e
  cases e
  rw [e2]; rfl
theorem below_set4 {B g : Nat} {a w : World} {v0 v1 v2 v3 : Value} (h : Below B a w) (hg : B ≤ g := by first | exact Nat.le_refl _ | omega) : Below B a ((((w.setCell ⟨g, 0, none⟩ v0).setCell ⟨g, 1, none⟩ v1).setCell ⟨g, 2, none⟩ v2).setCell ⟨g, 3, none⟩ v3) :=
  (((h.setCell hg _).setCell hg _).setCell hg _).setCell hg _
theorem flat_one (vs : List Value) : vs.flatMap (fun x => [x]) = vs := by induction vs with
  | nil => rfl
  | cons x xs ih => rw [List.flatMap_cons, ih]; rfl
theorem tol_cells {base : Nat} {w0 w W : World} {At : Option Addr} {ct : Nat} {l : List (List Int)} {vs : List Value} (h1 : w.ownsRow base 24 1 (.slice At l.length ct) l.length vs) (h2 : ∀ i (hi : i < l.length), ∃ x, vs[i]? = some x ∧ IsI 0 (fun _ => 0) w0 x l[i]) (hb : Below w.heap.size w W) (hb0 : Below w0.heap.size w0 w) :
    ∀ i (hi : i < l.length), ∃ g o x, At = some ⟨g, o, none⟩ ∧ W.cell? ⟨g, o + i, none⟩ = some x ∧ IsI 0 (fun _ => 0) W x l[i] := by
  intro i hi
  obtain ⟨x, e, hx⟩ := h2 i hi
  obtain ⟨-, (⟨e2, h0⟩ | ⟨g, cap', cur, e2, -⟩)⟩ := id h1
  · omega
  · cases e2
    have := h1.cells (g := g) rfl i x e
    rw [add0] at this
    exact ⟨g, 0, x, rfl, by rw [Nat.zero_add]; exact below_cellA hb this, IsI.keep hx (Same.below' (hb0.trans (hb.mono hb0.size)))⟩
end Go.Proofs.Ytpchodnknkdlgaa
