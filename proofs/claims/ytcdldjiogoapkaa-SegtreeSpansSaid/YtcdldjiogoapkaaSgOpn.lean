import Derived.Test.YtcdldjiogoapkaaOpn
import Derived.Test.YtcdldjiogoapkaaSgAI
namespace Go.Proofs.Ytcdldjiogoapkaa
open Go.ChangeShapes Go.WideShapes Go.ChangeAt Go.RowKit Go.Deep

theorem tells_u32 {H : Type} {enc : TypeId × Value → H} {w : World} {e : Nat} (he : Try.prog.underlying e = some (.int .u32)) : Tells H enc w e 1 rU := by
  intro fuel cs d hl h
  match cs, hl with
  | [c], _ =>
    obtain ⟨n, e, _, hw⟩ := DataW.trod_int he h
    obtain ⟨m, rfl, hm⟩ := u32_nat hw
    exact ⟨m, by rw [e], hm⟩
end Go.Proofs.Ytcdldjiogoapkaa
