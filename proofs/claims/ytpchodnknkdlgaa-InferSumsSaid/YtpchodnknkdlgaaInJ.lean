import Derived.Test.YtpchodnknkdlgaaInI
namespace Go.Proofs.Ytpchodnknkdlgaa
open Go.RowKit
end Go.Proofs.Ytpchodnknkdlgaa
