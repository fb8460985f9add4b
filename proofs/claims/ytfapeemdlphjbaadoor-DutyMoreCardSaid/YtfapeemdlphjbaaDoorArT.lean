import Derived.Test.YtfapeemdlphjbaaDoorArF
import Derived.Test.YtfapeemdlphjbaaDoorRows
import Derived.Test.YtfapeemdlphjbaaDoorOpn
import Derived.ProofKit
import Derived.Handed
namespace Go.Proofs.YtfapeemdlphjbaaDoor
open Go.ChangeShapes Go.WideShapes Go.ChangeAt Go.RowKit

theorem mapM_get {α β : Type} (f : α → Option β) : ∀ (l : List α) (r : List β), l.mapM f = some r → r.length = l.length ∧ ∀ i (h1 : i < l.length) (h2 : i < r.length), f l[i] = some r[i]
  | [], r, h => by simp at h; subst h; simp
  | x :: l, r, h => by
    simp only [List.mapM_cons, Option.bind_eq_bind, Option.bind_eq_some_iff, Option.pure_def, Option.some.injEq] at h
    obtain ⟨y, hy, ys, hys, rfl⟩ := h
    obtain ⟨h1, h2⟩ := mapM_get f l ys hys
    refine ⟨by simp [h1], fun i hi1 hi2 => ?_⟩
    cases i with
    | zero => exact hy
    | succ i => exact h2 i (by simpa using hi1) (by simpa using hi2)
theorem tabName : Tryd.prog.globalNamed "math/bits.deBruijn64tab" = some 0 := by kernel_rfl
theorem tabType : (Tryd.prog.globals[0]?).map (·.type) = some 78 := by kernel_rfl
theorem tabCells : Tryd.prog.cellsOf 78 = 64 := by kernel_rfl
theorem byteCells : Tryd.prog.cellsOf 5 = 1 := by kernel_rfl
theorem tabData {H : Type} : (Rows.laid_math_bits_deBruijn64tab : DataW H) = .agg (Lib.deBruijn64tab.map fun n : Nat => .lit (.int .u8 n)) := by kernel_rfl
theorem tab_of_laid {W : World} (h : laidMet Tryd.prog [("math/bits.deBruijn64tab", Rows.laid_math_bits_deBruijn64tab)] W) : Tab W := by
  obtain ⟨ps, ⟨g, t, cs, fuel, p, q, hg, ht, hvar, hd, _, _⟩, _⟩ := h
  obtain rfl := Option.some.inj (tabName.symm.trans hg)
  obtain rfl := Option.some.inj (tabType.symm.trans ht)
  cases fuel with
  | zero => simp [DataW.trod] at hd
  | succ fuel =>
    simp only [DataW.trod, Tryd.underlying78, tabCells, byteCells] at hd
    split at hd
    · rename_i hl
      obtain ⟨xs, hxs, hx⟩ := Option.map_eq_some_iff.1 hd
      obtain ⟨hlen, hget⟩ := mapM_get _ _ _ hxs
      rw [tabData] at hx
      injection hx with hx1 hx2
      injection hx1 with hx1
      rw [List.length_range] at hlen
      intro j hj
      have hj : j < 64 := hj
      have h1 := hget j (by rw [List.length_range]; exact hj) (by omega)
      have hc : List.take 1 (List.drop (j * 1) cs.toList) = [cs.toList[j]'(by omega)] := by
        rw [Nat.mul_one, List.drop_eq_getElem_cons (by omega)]; rfl
      rw [List.getElem_range, hc] at h1
      obtain ⟨n, e1, e2, -⟩ := DataW.trod_int Tryd.underlying5 h1
      have h2 : (xs.map (·.1))[j]? = (Lib.deBruijn64tab.map fun n : Nat => (DataW.lit (.int .u8 n) : DataW Unit))[j]? := by rw [hx1]
      have hj' : j < Lib.deBruijn64tab.length := hj
      rw [List.getElem?_map, List.getElem?_map, List.getElem?_eq_getElem (show j < xs.length by omega), List.getElem?_eq_getElem hj'] at h2
      simp only [Option.map_some, Option.some.injEq, e2] at h2
      injection h2 with h2
      injection h2 with _ h2
      have h3 : cs[j]? = some (.int .u8 n) := by
        have : cs.toList[j]? = some (.int .u8 n) := by
          rw [List.getElem?_eq_getElem (show j < cs.toList.length by omega)]
          injection e1 with e1
          rw [e1]
        simpa using this
      have h4 := World.var?_cell hg hvar j
      rw [h4, h3, h2]
      simp [List.getD, List.getElem?_eq_getElem hj']
    · cases hd
def cells64 : Array Value := (Lib.deBruijn64tab.map fun n : Nat => Value.int .u8 n).toArray
/-- the settled world, but the table's variable is laid. -/
noncomputable def laidWorld (os : Os) : World :=
  { World.holding Tryd.prog os ⟨#[], #[], []⟩ with heap := (World.holding Tryd.prog os ⟨#[], #[], []⟩).heap.modify 0 fun
      | .cells _ t frozen => .cells cells64 t frozen
      | o => o }
theorem laidWorld_row (os : Os) (args : Array Value) : ((laidWorld os).forCall (fun _ _ => 0) ⟨#[], args, []⟩).memory.heap[0]? = some (.cells cells64 78 (0, 0)) := by kernel_rfl
theorem laid_world (os : Os) (args : Array Value) : laidMet Tryd.prog [("math/bits.deBruijn64tab", Rows.laid_math_bits_deBruijn64tab)] ((laidWorld os).forCall (fun _ _ => 0) ⟨#[], args, []⟩).memory :=
  ⟨_, ⟨0, 78, cells64, 70, [], [], by kernel_rfl, by kernel_rfl, by kernel_rfl, by kernel_rfl, rfl, rfl⟩, by decide, fun b off h => by
    have h' : MemPlace.cell b off ∈ (List.range 64).map (fun i => MemPlace.cell 0 i) := h
    obtain ⟨i, hi, e⟩ := List.mem_map.1 h'
    cases e
    have hi := List.mem_range.1 hi
    refine ⟨⟨_, _, laidWorld_row os args⟩, fun u v hc => ?_⟩
    simp only [World.cell?, laidWorld_row os args] at hc
    have h64 : cells64[off]? = some (Value.int .u8 (Lib.deBruijn64tab.getD off 0)) := by
      have hj' : off < Lib.deBruijn64tab.length := hi
      simp [cells64, List.getElem?_map, List.getElem?_eq_getElem hj', List.getD]
    have h5 : cells64[off]? = some (Value.iface u v) := by simpa using hc
    rw [h64] at h5
    cases h5⟩
end Go.Proofs.YtfapeemdlphjbaaDoor
