import Derived.Test.YtfapeemdlphjbaaDoorIvH
namespace Go.Proofs.YtfapeemdlphjbaaDoor
open Go.RowKit
attribute [local go_sem] World.cell?_alloc_some frozen_alloc_some

theorem buildN_succ (p : Nat → Bool) (c : List Nat) (i : Nat) (h : i + 1 < c.length) : buildN p c (i + 1) = if p c[i] then growL (buildN p c i) c[i] c[i + 1] else buildN p c i := by
  rw [buildN]
  simp [List.getD, List.getElem?_eq_getElem h, List.getElem?_eq_getElem (show i < c.length by omega)]

end Go.Proofs.YtfapeemdlphjbaaDoor
