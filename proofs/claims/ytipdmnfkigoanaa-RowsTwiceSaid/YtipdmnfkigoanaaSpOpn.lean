import Derived.Test.YtipdmnfkigoanaaOpn
import Derived.Test.YtipdmnfkigoanaaSpR
import Derived.ChangeSame
import Derived.Lib.SmallJoins
namespace Go.Proofs.Ytipdmnfkigoanaa
open Go.ChangeShapes Go.WideShapes Go.ChangeAt Go.RowKit Go.Deep

theorem tells_u32 {H : Type} {enc : TypeId × Value → H} {w : World} {e : Nat} (he : Try.prog.underlying e = some (.int .u32)) : Tells H enc w e 1 rU := by
  intro fuel cs d hl h
  match cs, hl with
  | [c], _ =>
    obtain ⟨n, e, _, hw⟩ := DataW.trod_int he h
    obtain ⟨m, rfl, hm⟩ := u32_nat hw
    exact ⟨m, by rw [e], hm⟩

set_option maxRecDepth 100000 in
theorem tells_span {H : Type} {enc : TypeId × Value → H} {w : World} : Tells H enc w 63 2 rSpan := by
  intro fuel cs d hl h
  match cs, hl with
  | [c0, c1], _ =>
    obtain ⟨y0, y1, n, -, -, h0, h1⟩ := trod_struct2 Try.underlying63 h
    obtain ⟨n0, e0, _, w0⟩ := DataW.trod_int Try.underlying34 h0
    obtain ⟨n1, e1, _, w1⟩ := DataW.trod_int Try.underlying34 h1
    obtain ⟨m0, rfl, q0⟩ := u32_nat w0
    obtain ⟨m1, rfl, q1⟩ := u32_nat w1
    have f0 : [c0] = [Value.int .u32 (m0 : Int)] := e0
    have f1 : [c1] = [Value.int .u32 (m1 : Int)] := e1
    exact ⟨(m0, m1), by injection f0 with f0; injection f1 with f1; rw [f0, f1], q0, q1⟩
set_option maxRecDepth 100000 in
theorem open_span {H : Type} {enc : TypeId × Value → H} {w : World} {v : Value} {d : DataW H} {p : List MemPlace} {base : Nat} (hok : Value.okWide Try.prog w .any base 63 v) (h : DataW.Trod enc Try.prog w 0 (fun _ => true) true 63 v d p) :
    ∃ lo hi : Nat, v = .agg #[.int .u32 lo, .int .u32 hi] ∧ lo < 4294967296 ∧ hi < 4294967296 := by
  obtain ⟨cs, rfl, hsz⟩ := okWide_struct Try.underlying63 hok
  obtain ⟨fuel, hf⟩ := h
  have e2 : cs.size = 2 := hsz.trans (by kernel_rfl)
  have hlen : (Value.agg cs).cells.toList.length = 2 := by simpa [Value.cells] using e2
  obtain ⟨x, h1, h2, h3⟩ := tells_span (H := H) fuel _ _ hlen hf
  have : cs = #[.int .u32 x.1, .int .u32 x.2] := by
    have h1' : cs.toList = [.int .u32 x.1, .int .u32 x.2] := by simpa [Value.cells] using h1
    exact Array.toList_inj.1 h1'
  exact ⟨x.1, x.2, by rw [this], h2, h3⟩

end Go.Proofs.Ytipdmnfkigoanaa
