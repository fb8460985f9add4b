import Derived.Test.YtipdmnfkigoanaaSpSort
import Derived.Test.YtipdmnfkigoanaaIvQ
import Derived.RangeFuncBox
import Derived.Outline
namespace Go.Proofs.Ytipdmnfkigoanaa
open Go.RowKit
attribute [local go_sem] World.cell?_alloc_some frozen_alloc_some

theorem own_last {w : World} {base g cap : Nat} {o : List Sp} {t : Sp} (h : w.ownsRow base 63 2 (.slice (some ⟨g, 0, none⟩) (o ++ [t]).length cap) (o ++ [t]).length ((o ++ [t]).flatMap spc)) :
    (w.cell? ⟨g, o.length * 2, none⟩ = some (.int .u32 t.1) ∧ w.cell? ⟨g, o.length * 2 + 1, none⟩ = some (.int .u32 t.2)) ∧ w.frozen? ⟨g, o.length * 2 + 1, none⟩ = false := by
  have hl := flat_len spc 2 (fun _ => rfl) o
  have e : ∀ j, (⟨g, 0, none⟩ : Addr).add j = ⟨g, j, none⟩ := fun j => by simp only [Addr.add]; split <;> simp_all
  have c0 := h.cells (g := g) rfl (o.length * 2) (.int .u32 t.1) (by rw [List.flatMap_append, List.getElem?_append_right (by omega), hl]; simp [spc])
  have c1 := h.cells (g := g) rfl (o.length * 2 + 1) (.int .u32 t.2) (by rw [List.flatMap_append, List.getElem?_append_right (by omega), hl]; simp [spc])
  rw [e] at c0 c1
  refine ⟨⟨c0, c1⟩, ?_⟩
  obtain ⟨h1, (⟨e, -⟩ | ⟨g', cap', cur, e, hg, hh, -⟩)⟩ := h
  · cases e
  · cases e
    simp [World.frozen?, hh]
theorem _root_.Go.World.ownsRow.lt1 {w : World} {base e sz g o n m cap : Nat} {xs : List Value} (h : w.ownsRow base e sz (.slice (some ⟨g, o, none⟩) n cap) m xs) : base ≤ g := (h.lt g rfl).1
theorem own_set {w : World} {base g cap : Nat} {o : List Sp} {t : Sp} {m : Nat} (h : w.ownsRow base 63 2 (.slice (some ⟨g, 0, none⟩) (o ++ [t]).length cap) (o ++ [t]).length ((o ++ [t]).flatMap spc)) :
    (w.setCell ⟨g, o.length * 2 + 1, none⟩ (.int .u32 m)).ownsRow base 63 2 (.slice (some ⟨g, 0, none⟩) (o ++ [t]).length cap) (o ++ [(t.1, m)]).length ((o ++ [(t.1, m)]).flatMap spc) := by
  have hl := flat_len spc 2 (fun _ => rfl) o
  have := owns_setCell (o := o.length * 2 + 1) (v := .int .u32 m) h
  have e : ((o ++ [t]).flatMap spc).set (o.length * 2 + 1) (.int .u32 m) = (o ++ [(t.1, m)]).flatMap spc := by
    rw [List.flatMap_append, List.set_append_right _ _ (by omega), hl, List.flatMap_append]
    simp [spc]
  rw [e] at this
  simpa using this

end Go.Proofs.Ytipdmnfkigoanaa
