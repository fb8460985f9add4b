import Derived.Test.YtipdmnfkigoanaaSpOpn
namespace Go.Proofs.Ytipdmnfkigoanaa
open Go.ChangeShapes Go.WideShapes Go.ChangeAt Go.RowKit Go.Deep

/-- A cell: a label and a key. -/
def rCell : Rp (Int × Nat) := fun _ _ cs x => cs = [.int .i64 x.1, .int .u32 x.2] ∧ wrap64 x.1 = x.1 ∧ x.2 < 4294967296
set_option maxRecDepth 100000 in
theorem tells_cell {H : Type} {enc : TypeId × Value → H} {w : World} : Tells H enc w 36 2 rCell := by
  intro fuel cs d hl h
  match cs, hl with
  | [c0, c1], _ =>
    obtain ⟨y0, y1, n, -, -, h0, h1⟩ := trod_struct2 Try.underlying36 h
    obtain ⟨n0, e0, _, w0⟩ := DataW.trod_int Try.underlying3 h0
    obtain ⟨n1, e1, _, w1⟩ := DataW.trod_int Try.underlying34 h1
    obtain ⟨m1, rfl, q1⟩ := u32_nat w1
    have f0 : [c0] = [Value.int .i64 n0] := e0
    have f1 : [c1] = [Value.int .u32 (m1 : Int)] := e1
    exact ⟨(n0, m1), by injection f0 with f0; injection f1 with f1; rw [f0, f1], i64_wrap w0, q1⟩
set_option maxRecDepth 100000 in
theorem open_cell {H : Type} {enc : TypeId × Value → H} {w : World} {v : Value} {d : DataW H} {p : List MemPlace} {base : Nat} (hok : Value.okWide Try.prog w .any base 36 v) (h : DataW.Trod enc Try.prog w 0 (fun _ => true) true 36 v d p) :
    ∃ (lab : Int) (key : Nat), v = .agg #[.int .i64 lab, .int .u32 key] ∧ wrap64 lab = lab ∧ key < 4294967296 := by
  obtain ⟨cs, rfl, hsz⟩ := okWide_struct Try.underlying36 hok
  obtain ⟨fuel, hf⟩ := h
  have e2 : cs.size = 2 := hsz.trans (by kernel_rfl)
  have hlen : (Value.agg cs).cells.toList.length = 2 := by simpa [Value.cells] using e2
  obtain ⟨x, h1, h2, h3⟩ := tells_cell (H := H) fuel _ _ hlen hf
  have : cs = #[.int .i64 x.1, .int .u32 x.2] := by
    have h1' : cs.toList = [.int .i64 x.1, .int .u32 x.2] := by simpa [Value.cells] using h1
    exact Array.toList_inj.1 h1'
  exact ⟨x.1, x.2, by rw [this], h2, h3⟩
end Go.Proofs.Ytipdmnfkigoanaa
