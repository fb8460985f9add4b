import Derived.Test.YtpchodnknkdlgaaInJ
import Derived.Test.YtpchodnknkdlgaaInAJ
namespace Go.Proofs.Ytpchodnknkdlgaa
open Go.RowKit
attribute [local go_sem] World.cell?_alloc_some
end Go.Proofs.Ytpchodnknkdlgaa
