import Derived.Test.YtfapeemdlphjbaaDoorDtA
import Derived.Test.YtfapeemdlphjbaaDoorSpOpn
namespace Go.Proofs.YtfapeemdlphjbaaDoor
open Go.ChangeShapes Go.WideShapes Go.ChangeAt Go.RowKit Go.Deep

theorem tells_bool {H : Type} {enc : TypeId × Value → H} {w : World} {e : Nat} (he : Tryd.prog.underlying e = some .bool) : Tells H enc w e 1 rBo := by
  intro fuel cs d hl h
  obtain ⟨b, rfl, -⟩ := DataW.trod_bool he h
  exact ⟨b, rfl⟩
theorem list7 {α : Type} {cs : List α} (h : cs.length = 7) : ∃ a b c d e f g, cs = [a, b, c, d, e, f, g] := by
  match cs, h with
  | [a, b, c, d, e, f, g], _ => exact ⟨_, _, _, _, _, _, _, rfl⟩
set_option maxRecDepth 100000 in
theorem tells_grant {H : Type} {enc : TypeId × Value → H} {w : World} : Tells H enc w 31 7 rGr := by
  intro fuel cs d hl h
  obtain ⟨c0, c1, c2, c3, c4, c5, c6, rfl⟩ := list7 hl
  obtain ⟨xs, n, -, -, -, hlen, hf⟩ := DataW.trod_struct Tryd.underlying31 h
  obtain ⟨y0, y1, y2, y3, y4, y5, y6, rfl⟩ := list7 hlen
  have h0 := hf 0 _ rfl
  have h1 := hf 1 _ rfl
  have h2 := hf 2 _ rfl
  have h3 := hf 3 _ rfl
  have h4 := hf 4 _ rfl
  have h5 := hf 5 _ rfl
  have h6 := hf 6 _ rfl
  obtain ⟨n0, e0, _, w0⟩ := DataW.trod_int Tryd.underlying3 h0
  obtain ⟨n1, e1, _, w1⟩ := DataW.trod_int Tryd.underlying3 h1
  obtain ⟨n2, e2, _, w2⟩ := DataW.trod_int Tryd.underlying3 h2
  obtain ⟨n3, e3, _, w3⟩ := DataW.trod_int Tryd.underlying3 h3
  obtain ⟨b4, e4, -⟩ := DataW.trod_bool Tryd.underlying4 h4
  obtain ⟨a5, v5, e5, r5⟩ := tells_slice (H := H) (enc := enc) (w := w) Tryd.underlying29 (by kernel_rfl) (by omega) (tells_slice Tryd.underlying45 (by kernel_rfl) (by omega) tells_span) _ _ _ rfl h5
  obtain ⟨n6, e6, _, w6⟩ := DataW.trod_int Tryd.underlying2 h6
  have f0 : [c0] = [Value.int .i64 n0] := e0
  have f1 : [c1] = [Value.int .i64 n1] := e1
  have f2 : [c2] = [Value.int .i64 n2] := e2
  have f3 : [c3] = [Value.int .i64 n3] := e3
  have f4 : [c4] = [Value.bool b4] := e4
  have f5 : [c5] = [v5] := e5
  have f6 : [c6] = [Value.int .i64 n6] := e6
  injection f0 with f0; injection f1 with f1; injection f2 with f2; injection f3 with f3; injection f4 with f4; injection f5 with f5; injection f6 with f6
  exact ⟨⟨n0, n1, n2, n3, b4, a5, n6⟩, v5, by rw [f0, f1, f2, f3, f4, f5, f6], r5⟩
set_option maxRecDepth 100000 in
theorem open_grant {H : Type} {enc : TypeId × Value → H} {w : World} {v : Value} {d : DataW H} {p : List MemPlace} {base : Nat} (hok : Value.okWide Tryd.prog w .any base 31 v) (h : DataW.Trod enc Tryd.prog w 0 (fun _ => true) true 31 v d p) :
    ∃ (g : Gr) (u : Value), v = .agg #[.int .i64 g.par, .int .i64 g.hol, .int .i64 g.ten, .int .i64 g.dep, .bool g.wr, u, .int .i64 g.exp] ∧ RdA w u g.ar := by
  obtain ⟨cs, rfl, hsz⟩ := okWide_struct Tryd.underlying31 hok
  obtain ⟨fuel, hf⟩ := h
  have e2 : cs.size = 7 := hsz.trans (by kernel_rfl)
  have hlen : (Value.agg cs).cells.toList.length = 7 := by simpa [Value.cells] using e2
  obtain ⟨g, u, h1, h2⟩ := tells_grant (H := H) fuel _ _ hlen hf
  refine ⟨g, u, ?_, h2⟩
  have h1' : cs.toList = [.int .i64 g.par, .int .i64 g.hol, .int .i64 g.ten, .int .i64 g.dep, .bool g.wr, u, .int .i64 g.exp] := by simpa [Value.cells] using h1
  rw [show cs = #[.int .i64 g.par, .int .i64 g.hol, .int .i64 g.ten, .int .i64 g.dep, .bool g.wr, u, .int .i64 g.exp] from Array.toList_inj.1 h1']
end Go.Proofs.YtfapeemdlphjbaaDoor
