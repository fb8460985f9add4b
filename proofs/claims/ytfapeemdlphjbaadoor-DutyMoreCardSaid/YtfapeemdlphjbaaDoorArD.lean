import Derived.Test.YtfapeemdlphjbaaDoorArC
import Derived.Test.YtfapeemdlphjbaaDoorRG
import Derived.Test.YtfapeemdlphjbaaDoorIvJ
namespace Go.Proofs.YtfapeemdlphjbaaDoor
open Go.RowKit
attribute [local go_sem] World.cell?_alloc_some frozen_alloc_some

/-- the set of a row of spans. -/
def nf (l : List Sp) : List Sp := buildL l [] 0
theorem nf_spec {l : List Sp} (h : WfS l) : IsSet (fun k => Mem k l) (nf l) := buildMake_spec h
/-- the spans of the first k labels, each with its label. -/
def cellsTo (a : Ar) (k : Nat) : List (Nat × Sp) := (List.range k).flatMap fun i => (nf (atA a i)).map fun s => (i, s)
theorem cellsTo_succ (a : Ar) (k : Nat) : cellsTo a (k + 1) = cellsTo a k ++ (nf (atA a k)).map fun s => (k, s) := by
  unfold cellsTo; rw [List.range_succ, List.flatMap_append]; simp
theorem cellsTo_pre (a : Ar) {k n : Nat} (h : k ≤ n) : cellsTo a k <+: cellsTo a n := by
  induction n with
  | zero => rw [show k = 0 by omega]; exact List.prefix_refl _
  | succ n ih =>
    by_cases e : k = n + 1
    · rw [e]; exact List.prefix_refl _
    · rw [cellsTo_succ]; exact (ih (by omega)).trans (List.prefix_append _ _)
def cellsL (a : Ar) : List (Nat × Sp) := cellsTo a a.length

/-- What comes with a cell. -/
def YCell (x : Nat × Sp) (vs : Array Value) : Prop := vs = #[.int .i64 x.1, .agg #[.int .u32 x.2.1, .int .u32 x.2.2]]

end Go.Proofs.YtfapeemdlphjbaaDoor
