import Derived.Test.YtpchodnknkdlgaaInC
import Derived.Shelf.Sort.Plain
import Derived.Shelf.Slices.In.SortNone
import Derived.Shelf.Slices.CompactI
import Derived.Shelf.Slices.SearchI
import Derived.Shelf.Slices.Empties
namespace Go.Proofs.Ytpchodnknkdlgaa
open Go.RowKit Go.Shelf

def Try.sortI_ren : Go.Shelf.Ren := ⟨fun | 189 => 30 | 125 => 40 | 257 => 39 | 128 => 54 | 129 => 55 | 294 => 46 | 295 => 47 | 296 => 48 | 297 => 49 | 298 => 50 | 299 => 51 | 216 => 41 | 300 => 52 | 301 => 53 | 328 => 57 | 329 => 58 | 330 => 59 | 331 => 60 | 332 => 61 | 215 => 56 | 343 => 62 | n => n, fun | 28 => 24 | 3 => 3 | 46 => 69 | 0 => 0 | 51 => 82 | 53 => 84 | 4 => 4 | 183 => 76 | 182 => 75 | 131 => 26 | 5 => 5 | 9 => 9 | 218 => 85 | 222 => 89 | 228 => 91 | 229 => 92 | n => n, fun | n => n⟩
theorem Try.sortI : Go.Proofs.Lays.n189 Try.prog Try.sortI_ren := {
  mixed := by kernel_rfl,
  f125 := Try.func40.trans (congrArg some (by kernel_rfl)),
  f128 := Try.func54.trans (congrArg some (by kernel_rfl)),
  f129 := Try.func55.trans (congrArg some (by kernel_rfl)),
  f189 := Try.func30.trans (congrArg some (by kernel_rfl)),
  f215 := Try.func56.trans (congrArg some (by kernel_rfl)),
  f216 := Try.func41.trans (congrArg some (by kernel_rfl)),
  f257 := Try.func39.trans (congrArg some (by kernel_rfl)),
  f294 := Try.func46.trans (congrArg some (by kernel_rfl)),
  f295 := Try.func47.trans (congrArg some (by kernel_rfl)),
  f296 := Try.func48.trans (congrArg some (by kernel_rfl)),
  f297 := Try.func49.trans (congrArg some (by kernel_rfl)),
  f298 := Try.func50.trans (congrArg some (by kernel_rfl)),
  f299 := Try.func51.trans (congrArg some (by kernel_rfl)),
  f300 := Try.func52.trans (congrArg some (by kernel_rfl)),
  f301 := Try.func53.trans (congrArg some (by kernel_rfl)),
  f328 := Try.func57.trans (congrArg some (by kernel_rfl)),
  f329 := Try.func58.trans (congrArg some (by kernel_rfl)),
  f330 := Try.func59.trans (congrArg some (by kernel_rfl)),
  f331 := Try.func60.trans (congrArg some (by kernel_rfl)),
  f332 := Try.func61.trans (congrArg some (by kernel_rfl)),
  f343 := Try.func62.trans (congrArg some (by kernel_rfl)),
  t0 := Try.underlying0,
  a0 := Try.isAgg0,
  z0 := Try.sizeOf0,
  v0 := Try.zeroValue0,
  t3 := Try.underlying3,
  a3 := Try.isAgg3,
  z3 := Try.sizeOf3,
  v3 := Try.zeroValue3,
  t4 := Try.underlying4,
  a4 := Try.isAgg4,
  z4 := Try.sizeOf4,
  v4 := Try.zeroValue4,
  t5 := Try.underlying5,
  a5 := Try.isAgg5,
  z5 := Try.sizeOf5,
  v5 := Try.zeroValue5,
  t9 := Try.underlying9,
  a9 := Try.isAgg9,
  z9 := Try.sizeOf9,
  v9 := Try.zeroValue9,
  t28 := Try.underlying24,
  a28 := Try.isAgg24,
  z28 := Try.sizeOf24,
  v28 := Try.zeroValue24,
  t46 := Try.underlying69,
  a46 := Try.isAgg69,
  z46 := Try.sizeOf69,
  v46 := Try.zeroValue69,
  t51 := Try.underlying82,
  a51 := Try.isAgg82,
  z51 := Try.sizeOf82,
  v51 := Try.zeroValue82,
  t53 := Try.underlying84,
  a53 := Try.isAgg84,
  z53 := Try.sizeOf84,
  v53 := Try.zeroValue84,
  t131 := Try.underlying26,
  a131 := Try.isAgg26,
  z131 := Try.sizeOf26,
  v131 := Try.zeroValue26,
  t182 := Try.underlying75,
  a182 := Try.isAgg75,
  z182 := Try.sizeOf75,
  v182 := Try.zeroValue75,
  t183 := Try.underlying76,
  a183 := Try.isAgg76,
  z183 := Try.sizeOf76,
  v183 := Try.zeroValue76,
  t218 := Try.underlying85,
  a218 := Try.isAgg85,
  z218 := Try.sizeOf85,
  v218 := Try.zeroValue85,
  t222 := Try.underlying89,
  a222 := Try.isAgg89,
  z222 := Try.sizeOf89,
  v222 := Try.zeroValue89,
  t228 := Try.underlying91,
  a228 := Try.isAgg91,
  z228 := Try.sizeOf91,
  v228 := Try.zeroValue91,
  t229 := Try.underlying92,
  a229 := Try.isAgg92,
  z229 := Try.sizeOf92,
  v229 := Try.zeroValue92 }

def Try.compI_ren : Go.Shelf.Ren := ⟨fun | 20 => 31 | n => n, fun | 22 => 24 | 3 => 3 | 4 => 4 | 0 => 0 | n => n, fun | n => n⟩
theorem Try.compI : Go.Proofs.Lays2.n20 Try.prog Try.compI_ren := {
  mixed := by kernel_rfl,
  f20 := Try.func31.trans (congrArg some (by kernel_rfl)),
  t0 := Try.underlying0,
  a0 := Try.isAgg0,
  z0 := Try.sizeOf0,
  v0 := Try.zeroValue0,
  t3 := Try.underlying3,
  a3 := Try.isAgg3,
  z3 := Try.sizeOf3,
  v3 := Try.zeroValue3,
  t4 := Try.underlying4,
  a4 := Try.isAgg4,
  z4 := Try.sizeOf4,
  v4 := Try.zeroValue4,
  t22 := Try.underlying24,
  a22 := Try.isAgg24,
  z22 := Try.sizeOf24,
  v22 := Try.zeroValue24,
  i3 := by kernel_rfl }

def Try.binI_ren : Go.Shelf.Ren := ⟨fun | 25 => 32 | 31 => 41 | 32 => 42 | 37 => 56 | n => n, fun | 22 => 24 | 3 => 3 | 4 => 4 | 40 => 69 | 0 => 0 | n => n, fun | n => n⟩
theorem Try.binI : Go.Proofs.Lays2.n25 Try.prog Try.binI_ren := {
  mixed := by kernel_rfl,
  f25 := Try.func32.trans (congrArg some (by kernel_rfl)),
  f31 := Try.func41.trans (congrArg some (by kernel_rfl)),
  f32 := Try.func42.trans (congrArg some (by kernel_rfl)),
  f37 := Try.func56.trans (congrArg some (by kernel_rfl)),
  t0 := Try.underlying0,
  a0 := Try.isAgg0,
  z0 := Try.sizeOf0,
  v0 := Try.zeroValue0,
  t3 := Try.underlying3,
  a3 := Try.isAgg3,
  z3 := Try.sizeOf3,
  v3 := Try.zeroValue3,
  t4 := Try.underlying4,
  a4 := Try.isAgg4,
  z4 := Try.sizeOf4,
  v4 := Try.zeroValue4,
  t22 := Try.underlying24,
  a22 := Try.isAgg24,
  z22 := Try.sizeOf24,
  v22 := Try.zeroValue24,
  t40 := Try.underlying69,
  a40 := Try.isAgg69,
  z40 := Try.sizeOf69,
  v40 := Try.zeroValue69 }

def vI (x : Int) : Value := .int .i64 x
/-- An own row, written over. -/
theorem owns_put {w : World} {base g cap n : Nat} {xs ys : List Int} {q : Nat} {os : Array Obj} (h : w.ownsRow base 3 1 (.slice (some ⟨g, 0, none⟩) n cap) n (xs.map vI)) (hl : ys.length = xs.length) :
    (Go.Sort.grow (Go.Sort.putRow (Value.int .i64) (Go.Sort.ahead w q) g 0 ys.toArray) os).ownsRow base 3 1 (.slice (some ⟨g, 0, none⟩) n cap) n (ys.map vI) ∧ w.grownBy (Go.Sort.grow (Go.Sort.putRow (Value.int .i64) (Go.Sort.ahead w q) g 0 ys.toArray) os) (some g) := by
  obtain ⟨h1, (⟨e, h0⟩ | ⟨g', cap', cur, e, hg, hh, hcap, hmax, hsz, htk⟩)⟩ := id h
  · cases e
  · cases e
    have hlt : g < w.heap.size := (h.lt g rfl).2
    have hn : n = xs.length := by have := h1; simp at this; omega
    refine ⟨⟨by simp [hl]; omega, .inr ⟨g, cap, Go.Sort.putCells (Value.int .i64) 0 ys.toArray cur, rfl, hg, ?_, hcap, hmax, by simp [Go.Sort.putCells, hsz], ?_⟩⟩, ⟨rfl, rfl, rfl, ?_, fun b hb hne => ?_⟩⟩
    · unfold Go.Sort.putRow
      rw [Go.Sort.heap_grow_old _ _ (by simpa [Go.Sort.mapBlock, Go.Sort.ahead] using hlt)]
      simp [Go.Sort.mapBlock, Go.Sort.ahead, Array.getElem?_modify, hh, Go.Sort.onCells]
    · apply List.ext_getElem
      · simp [Go.Sort.putCells, hsz, hl]; omega
      · intro j hj1 hj2
        have hj3 : j < ys.length := by simpa using hj2
        rw [List.getElem_take]
        simp only [Go.Sort.putCells, Array.getElem_toList, Array.getElem_mapIdx, List.size_toArray, Nat.zero_add, Nat.zero_le, true_and]
        rw [if_pos (by simpa using hj3)]
        simp [hj3, vI]
    · simp [Go.Sort.putRow, Go.Sort.mapBlock, Go.Sort.ahead, Go.Sort.grow]
    · unfold Go.Sort.putRow
      rw [Go.Sort.heap_grow_old _ _ (by simpa [Go.Sort.mapBlock, Go.Sort.ahead] using hb)]
      have : g ≠ b := fun e => hne (by subst e; rfl)
      simp [Go.Sort.mapBlock, Go.Sort.ahead, Array.getElem?_modify, this]
end Go.Proofs.Ytpchodnknkdlgaa
