import Derived.Test.YtipdmnfkigoanaaIvD
namespace Go.Proofs.Ytipdmnfkigoanaa
open Go.RowKit Go.Shelf
attribute [local go_sem] World.cell?_alloc_some frozen_alloc_some
end Go.Proofs.Ytipdmnfkigoanaa
