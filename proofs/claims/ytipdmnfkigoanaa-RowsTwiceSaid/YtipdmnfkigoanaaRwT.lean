import Derived.Test.YtipdmnfkigoanaaRwR
namespace Go.Proofs.Ytipdmnfkigoanaa
open Go.RowKit Go.Maps

/-! A law's own map beside the rows. -/
variable {w : World} {χ χ' : Col} {W W' : World} {rb mb n : Nat} {L : RL} {ev : List Cl} {last : Nat} {F : Cl → Option Int}
theorem Lr.grown {b : Nat} (h : Lr w χ W rb L ev last) (hg : W.grownBy W' (some b)) (hc : χ b ≠ 1) (hb : w.heap.size ≤ b) : Lr w (paint χ W.heap.size 5) W' rb L ev last :=
  ⟨h.rw_.keep fun k hk hk1 => ⟨paint_low hk, hg.block k hk fun e => hc (by rw [← Option.some.inj e]; exact hk1)⟩, h.bel.trans (grown_belowN hg hb h.bel.size), fun b hl => (paint_low (Nat.lt_of_lt_of_le hl h.bel.size)).trans (h.low b hl)⟩
structure Mk (N : Nat) (χ : Col) (W : World) (mb n : Nat) (F : Cl → Option Int) : Prop where
  hi : N ≤ mb
  col : χ mb ≠ 1
  map : MapF krC erV W mb n F
theorem Mk.turn {N : Nat} (d : Mk N χ W mb n F) (ag : ∀ b, b < W.heap.size → χ' b = χ b) (hc : Chg χ (· = 1) W W') : Mk N χ' W' mb n F := ⟨d.hi, by rw [ag mb d.map.lt]; exact d.col, d.map.below (hc.blk mb d.map.lt d.col)⟩
theorem Mk.below {N : Nat} (d : Mk N χ W mb n F) (hb : Below W.heap.size W W') (c : Nat) : Mk N (paint χ W.heap.size c) W' mb n F := ⟨d.hi, by rw [paint_low d.map.lt]; exact d.col, d.map.below (hb.block mb d.map.lt)⟩
/-- A range over it. -/
structure Rk (N : Nat) (χ : Col) (W : World) (mb r n : Nat) (F : Cl → Option Int) (left : Cl → Bool) (cnt : Nat) : Prop where
  hi : N ≤ mb
  col : χ mb ≠ 1
  hi2 : N ≤ r
  col2 : χ r ≠ 1
  rg : RangeF krC erV W mb r n F left cnt
variable {r cnt : Nat} {left : Cl → Bool}
theorem Rk.mk_ {N : Nat} (d : Rk N χ W mb r n F left cnt) : Mk N χ W mb n F := ⟨d.hi, d.col, d.rg.owns⟩
theorem Rk.below {N : Nat} (d : Rk N χ W mb r n F left cnt) (hb : Below W.heap.size W W') (c : Nat) : Rk N (paint χ W.heap.size c) W' mb r n F left cnt :=
  ⟨d.hi, by rw [paint_low d.rg.owns.lt]; exact d.col, d.hi2, by rw [paint_low d.rg.lt]; exact d.col2, d.rg.of_blocks (hb.block mb d.rg.owns.lt) (hb.block r d.rg.lt)⟩
theorem Mk.range {N : Nat} (d : Mk N χ W mb n F) (hN : N ≤ W.heap.size) (h : RangeF krC erV W' mb W.heap.size n F left cnt) : Rk N (paint χ W.heap.size 5) W' mb W.heap.size n F left cnt :=
  ⟨d.hi, by rw [paint_low d.map.lt]; exact d.col, hN, by rw [paint_high (Nat.le_refl _)]; omega, h⟩
theorem Rk.next {N : Nat} {left' : Cl → Bool} {cnt' : Nat} (d : Rk N χ W mb r n F left cnt) (h : RangeF krC erV W' mb r n F left' cnt') : Rk N (paint χ W.heap.size 5) W' mb r n F left' cnt' :=
  ⟨d.hi, by rw [paint_low d.rg.owns.lt]; exact d.col, d.hi2, by rw [paint_low d.rg.lt]; exact d.col2, h⟩
/-- Other blocks, when the map's turns. -/
theorem Dk.grown {b k : Nat} {o : Obj} (d : Dk χ W k o) (hg : W.grownBy W' (some b)) (hne : k ≠ b) : Dk (paint χ W.heap.size 5) W' k o := by
  have hl := (Array.getElem?_eq_some_iff.1 d.at_).1
  exact ⟨by rw [paint_low hl]; exact d.col, (hg.block k hl fun e => hne (Option.some.inj e)).trans d.at_⟩
/-- How many of the cells so far are in an area. -/
theorem count_in {a : Ar} {L : RL} {last : Nat} (h : RwL L last) {ks : List Cl} (hn : ks.Nodup) (hk : ∀ x, x ∈ ks ↔ (verO L x).isSome = true) : (ks.filter fun x => inA a x.lab x.key).length = (inR a L).length := by
  have hp : ks.Perm (L.map (·.1)) := (List.perm_ext_iff_of_nodup hn h.nd).2 fun x => by rw [hk x, verO_isSome]
  rw [(hp.filter _).length_eq]
  unfold inR
  rw [List.length_map]
  clear hp hk hn h
  induction L with
  | nil => rfl
  | cons p L ih =>
    simp only [List.map_cons, List.filter_cons]
    cases inA a p.1.lab p.1.key <;> simp [ih]
theorem inR_up {a : Ar} {L : RL} {last : Nat} (h : RwL L last) : (inR a L).Pairwise (· < ·) := by
  unfold inR
  rw [List.pairwise_map]
  exact h.up.filter _
end Go.Proofs.Ytipdmnfkigoanaa
