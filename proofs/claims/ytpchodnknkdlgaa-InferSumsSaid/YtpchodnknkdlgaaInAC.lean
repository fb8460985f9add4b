import Derived.Test.YtpchodnknkdlgaaInAB
import Derived.Test.YtpchodnknkdlgaaCel
namespace Go.Proofs.Ytpchodnknkdlgaa
open Go.RowKit Go.Shelf

/-! The names: sorted, each once. -/
def sortL (xs : List Int) : List Int := xs.mergeSort fun x y => decide (x ≤ y)
theorem sortL_len (xs : List Int) : (sortL xs).length = xs.length := by unfold sortL; exact List.length_mergeSort _
theorem holds_own {w : World} {base g cap n : Nat} {xs : List Int} (h : w.ownsRow base 3 1 (.slice (some ⟨g, 0, none⟩) n cap) n (xs.map vI)) : Go.Sort.Holds (Value.int .i64) w g 0 xs.toArray := by
  intro j hj
  have hj : j < xs.length := by simpa using hj
  have := h.cells (g := g) rfl j (.int .i64 xs[j]) (by simp [hj, vI])
  rw [add0] at this
  rw [Nat.zero_add, getElem!_pos _ _ (by simpa using hj)]
  exact ⟨by simpa using this, owns_frozen h j⟩
theorem owns_cap {w : World} {base e g cap n : Nat} {xs : List Value} (h : w.ownsRow base e 1 (.slice (some ⟨g, 0, none⟩) n cap) n xs) : n ≤ cap := by
  obtain ⟨_, (⟨e, _⟩ | ⟨g', cap', cur, e, hg, hh, hcap, hmax, hsz, htk⟩)⟩ := h
  · cases e
  · cases e; exact hcap
/-- a row, shortened. -/
theorem owns_short {w : World} {base e g cap n m : Nat} {xs : List Value} (h : w.ownsRow base e 1 (.slice (some ⟨g, 0, none⟩) n cap) n xs) (hm : m ≤ n) : w.ownsRow base e 1 (.slice (some ⟨g, 0, none⟩) m cap) m (xs.take m) := by
  obtain ⟨h1, (⟨e, _⟩ | ⟨g', cap', cur, e, hg, hh, hcap, hmax, hsz, htk⟩)⟩ := h
  · cases e
  · cases e
    refine ⟨by simp; omega, .inr ⟨g, cap, cur, rfl, hg, hh, by omega, hmax, hsz, ?_⟩⟩
    rw [← htk, List.take_take, Nat.mul_one, Nat.min_eq_left (by omega)]
theorem sort_own (w : World) (v : Value) (base n : Nat) (xs : List Int) (h : w.ownsRow base 3 1 v n (xs.map vI)) (hl : n ≤ 1000000) :
    Calls Try.prog 30 #[v] w fun e w' => e = .returned (.tuple #[]) ∧ w'.ownsRow base 3 1 v n ((sortL xs).map vI) ∧ w.grownBy w' v.ownBlock := by
  obtain ⟨h1, (⟨rfl, h0⟩ | ⟨g, cap, cur, rfl, hg, hh, hcap, hmax, hsz, htk⟩)⟩ := id h
  · have hx : xs = [] := List.length_eq_zero_iff.1 (by simpa [h0] using h1)
    subst hx
    refine (Any.slices_Sort_int_none Try.sortI none 0 w).mono ?_
    rintro e w' ⟨rfl, rfl⟩
    exact ⟨rfl, by simpa [sortL] using h, rfl, rfl, rfl, Nat.le_refl _, fun _ _ _ => rfl⟩
  · have hn : n = xs.length := by simpa using h1.symm
    subst hn
    have hlt : g < w.heap.size := (h.lt g rfl).2
    refine (Any.slices_Sort_int Try.sortI g 0 cap xs w (holds_own h) hlt (by omega)).mono ?_
    rintro e w' ⟨rfl, q, os, rfl⟩
    exact ⟨rfl, owns_put h (sortL_len xs)⟩
theorem compact_len (xs : List Int) : (Go.Lib.compact xs).length ≤ xs.length := by
  unfold Go.Lib.compact Go.Lib.compactUpTo
  rw [List.length_map]
  exact Nat.le_trans (List.length_filter_le _ _) (by simp)
theorem compact_own (w : World) (v : Value) (base n : Nat) (xs : List Int) (h : w.ownsRow base 3 1 v n (xs.map vI)) (hl : n ≤ 1000000) :
    Calls Try.prog 31 #[v] w fun e w' => ∃ v', e = .returned v' ∧ w'.ownsRow base 3 1 v' (Go.Lib.compact xs).length ((Go.Lib.compact xs).map vI) ∧ v'.ownBlock = v.ownBlock ∧ w.grownBy w' v.ownBlock := by
  obtain ⟨h1, (⟨rfl, h0⟩ | ⟨g, cap, cur, rfl, hg, hh, hcap, hmax, hsz, htk⟩)⟩ := id h
  · have hx : xs = [] := List.length_eq_zero_iff.1 (by simpa [h0] using h1)
    subst hx
    refine (Any.slices_Compact_int_empty Try.compI none 0 w).mono ?_
    rintro e w' ⟨rfl, rfl⟩
    exact ⟨_, rfl, by simpa [Go.Lib.compact, Go.Lib.compactUpTo] using World.ownsRow_nil _ _ _ _, rfl, rfl, rfl, rfl, Nat.le_refl _, fun _ _ _ => rfl⟩
  · have hn : n = xs.length := by simpa using h1.symm
    subst hn
    have hlt : g < w.heap.size := (h.lt g rfl).2
    have hc := compact_len xs
    refine (Any.slices_Compact_int Try.compI g 0 cap xs w (holds_own h) (by omega) (by omega)).mono ?_
    rintro e w' ⟨rfl, q, rfl⟩
    obtain ⟨k1, k2⟩ := owns_put (q := q) (os := #[]) h (ys := Go.Lib.compact xs ++ List.replicate (xs.length - (Go.Lib.compact xs).length) 0) (by simp; omega)
    rw [Go.Sort.grow_empty] at k1 k2
    refine ⟨_, rfl, ?_, rfl, k2⟩
    have := owns_short k1 hc
    rwa [← List.map_take, List.take_left'] at this
    rfl
end Go.Proofs.Ytpchodnknkdlgaa
