import Derived.Test.YtddpnldgfdooiaaOpn
import Derived.Test.YtddpnldgfdooiaaTkQ
import Derived.ChangeSame
import Derived.Lib.SmallJoins
namespace Go.Proofs.Ytddpnldgfdooiaa
open Go.ChangeShapes Go.WideShapes Go.ChangeAt Go.RowKit Go.Deep

structure OpT where
  kind : Int
  person : Int
  tok : Int
  now : Int
def rOp : Rp OpT := fun _ _ cs x => cs = [.int .i64 x.kind, .int .i64 x.person, .int .u64 x.tok, .int .i64 x.now] ∧ I64 x.person ∧ (Lit.int .u64 x.tok).wf = true
theorem i64_of {a : Int} (h : (Lit.int .i64 a).wf = true) : I64 a := by
  simp [Lit.wf, show IntKind.i64.min = -9223372036854775808 by decide, show IntKind.i64.max = 9223372036854775807 by decide] at h
  exact h
set_option maxRecDepth 100000 in
theorem tells_op {H : Type} {enc : TypeId × Value → H} {w : World} : Tells H enc w 33 4 rOp := by
  intro fuel cs d hl h
  match cs, hl with
  | [c0, c1, c2, c3], _ =>
    obtain ⟨y0, y1, y2, y3, n, -, -, h0, h1, h2, h3⟩ := Joins.trod_struct4 Try.underlying33 h
    obtain ⟨n0, e0, _, w0⟩ := DataW.trod_int Try.underlying3 h0
    obtain ⟨n1, e1, _, w1⟩ := DataW.trod_int Try.underlying3 h1
    obtain ⟨n2, e2, _, w2⟩ := DataW.trod_int Try.underlying31 h2
    obtain ⟨n3, e3, _, w3⟩ := DataW.trod_int Try.underlying2 h3
    have f0 : [c0] = [Value.int .i64 n0] := e0
    have f1 : [c1] = [Value.int .i64 n1] := e1
    have f2 : [c2] = [Value.int .u64 n2] := e2
    have f3 : [c3] = [Value.int .i64 n3] := e3
    exact ⟨⟨n0, n1, n2, n3⟩, by injection f0 with f0; injection f1 with f1; injection f2 with f2; injection f3 with f3; rw [f0, f1, f2, f3], i64_of w1, w2⟩
end Go.Proofs.Ytddpnldgfdooiaa
