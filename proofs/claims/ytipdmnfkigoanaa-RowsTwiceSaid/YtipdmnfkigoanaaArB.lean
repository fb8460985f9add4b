import Derived.Test.YtipdmnfkigoanaaArA
namespace Go.Proofs.Ytipdmnfkigoanaa
open Go.RowKit
attribute [local go_sem] World.cell?_alloc_some frozen_alloc_some
end Go.Proofs.Ytipdmnfkigoanaa
