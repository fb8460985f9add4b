import Derived.Test.YtcdldjiogoapkaaOpn
import Derived.Test.YtcdldjiogoapkaaSgAI
import Derived.Test.YtcdldjiogoapkaaSpOpn
import Derived.ChangeSame
import Derived.Lib.SmallJoins
namespace Go.Proofs.Ytcdldjiogoapkaa
open Go.ChangeShapes Go.WideShapes Go.ChangeAt Go.RowKit Go.Deep

structure OpT where
  kind : Int
  key : Nat
  hi : Nat
  value : Int
def rOp : Rp OpT := fun _ _ cs x => cs = [.int .i64 x.kind, .int .u32 x.key, .int .u32 x.hi, .int .i64 x.value] ∧ x.key < 4294967296 ∧ x.hi < 4294967296 ∧ wrap64 x.value = x.value
set_option maxRecDepth 100000 in
theorem tells_op {H : Type} {enc : TypeId × Value → H} {w : World} : Tells H enc w 34 4 rOp := by
  intro fuel cs d hl h
  match cs, hl with
  | [c0, c1, c2, c3], _ =>
    obtain ⟨y0, y1, y2, y3, n, -, -, h0, h1, h2, h3⟩ := Joins.trod_struct4 Try.underlying34 h
    obtain ⟨n0, e0, _, w0⟩ := DataW.trod_int Try.underlying3 h0
    obtain ⟨n1, e1, _, w1⟩ := DataW.trod_int Try.underlying32 h1
    obtain ⟨n2, e2, _, w2⟩ := DataW.trod_int Try.underlying32 h2
    obtain ⟨n3, e3, _, w3⟩ := DataW.trod_int Try.underlying2 h3
    obtain ⟨m1, rfl, q1⟩ := u32_nat w1
    obtain ⟨m2, rfl, q2⟩ := u32_nat w2
    have f0 : [c0] = [Value.int .i64 n0] := e0
    have f1 : [c1] = [Value.int .u32 (m1 : Int)] := e1
    have f2 : [c2] = [Value.int .u32 (m2 : Int)] := e2
    have f3 : [c3] = [Value.int .i64 n3] := e3
    exact ⟨⟨n0, m1, m2, n3⟩, by injection f0 with f0; injection f1 with f1; injection f2 with f2; injection f3 with f3; rw [f0, f1, f2, f3], q1, q2, i64_wrap w3⟩
end Go.Proofs.Ytcdldjiogoapkaa
