import Derived.Test.YtipdmnfkigoanaaIvA
namespace Go.Proofs.Ytipdmnfkigoanaa
open Go.RowKit
attribute [local go_sem] World.cell?_alloc_some frozen_alloc_some

theorem notL_lt {q : Nat} {s : Sp} {a : List Sp} (h : q < s.1) : notL q (s :: a) = [(q, s.1 - 1)] ++ notL (s.2 + 1) a := by
  rw [notL, if_pos h]
theorem notL_ge {q : Nat} {s : Sp} {a : List Sp} (h : ¬ q < s.1) : notL q (s :: a) = notL (s.2 + 1) a := by
  rw [notL, if_neg h]; rfl

theorem not_new {p : Nat → Prop} {n m : Nat} {l o : List Sp} {w : World} {v : Value} (h : IsSet p l) (e : l = o) (V : w.ownsRow n 63 2 v o.length (o.flatMap spc)) (hm : m ≤ n) (hl : o.length ≤ 1000000) : NewS m w v l := by
  subst e; exact ⟨V.mono_base hm, h.nf.wf, hl⟩
end Go.Proofs.Ytipdmnfkigoanaa
