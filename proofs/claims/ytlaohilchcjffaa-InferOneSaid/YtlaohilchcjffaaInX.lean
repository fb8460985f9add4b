import Derived.Test.YtlaohilchcjffaaInC
import Derived.Shelf.Sort.Plain
import Derived.Shelf.Slices.In.SortNone
import Derived.Shelf.Slices.CompactI
import Derived.Shelf.Slices.SearchI
import Derived.Shelf.Slices.Empties
namespace Go.Proofs.Ytlaohilchcjffaa
open Go.RowKit Go.Shelf

def Try.sortI_ren : Go.Shelf.Ren := ⟨fun | 189 => 35 | 125 => 43 | 257 => 42 | 128 => 55 | 129 => 56 | 294 => 47 | 295 => 48 | 296 => 49 | 297 => 50 | 298 => 51 | 299 => 52 | 216 => 44 | 300 => 53 | 301 => 54 | 328 => 58 | 329 => 59 | 330 => 60 | 331 => 61 | 332 => 62 | 215 => 57 | 343 => 63 | n => n, fun | 28 => 23 | 3 => 3 | 46 => 73 | 0 => 0 | 51 => 85 | 53 => 87 | 4 => 4 | 183 => 79 | 182 => 78 | 131 => 42 | 5 => 5 | 9 => 9 | 218 => 88 | 222 => 92 | 228 => 94 | 229 => 95 | n => n, fun | n => n⟩
theorem Try.sortI : Go.Proofs.Lays.n189 Try.prog Try.sortI_ren := {
  mixed := by kernel_rfl,
  f125 := Try.func43.trans (congrArg some (by kernel_rfl)),
  f128 := Try.func55.trans (congrArg some (by kernel_rfl)),
  f129 := Try.func56.trans (congrArg some (by kernel_rfl)),
  f189 := Try.func35.trans (congrArg some (by kernel_rfl)),
  f215 := Try.func57.trans (congrArg some (by kernel_rfl)),
  f216 := Try.func44.trans (congrArg some (by kernel_rfl)),
  f257 := Try.func42.trans (congrArg some (by kernel_rfl)),
  f294 := Try.func47.trans (congrArg some (by kernel_rfl)),
  f295 := Try.func48.trans (congrArg some (by kernel_rfl)),
  f296 := Try.func49.trans (congrArg some (by kernel_rfl)),
  f297 := Try.func50.trans (congrArg some (by kernel_rfl)),
  f298 := Try.func51.trans (congrArg some (by kernel_rfl)),
  f299 := Try.func52.trans (congrArg some (by kernel_rfl)),
  f300 := Try.func53.trans (congrArg some (by kernel_rfl)),
  f301 := Try.func54.trans (congrArg some (by kernel_rfl)),
  f328 := Try.func58.trans (congrArg some (by kernel_rfl)),
  f329 := Try.func59.trans (congrArg some (by kernel_rfl)),
  f330 := Try.func60.trans (congrArg some (by kernel_rfl)),
  f331 := Try.func61.trans (congrArg some (by kernel_rfl)),
  f332 := Try.func62.trans (congrArg some (by kernel_rfl)),
  f343 := Try.func63.trans (congrArg some (by kernel_rfl)),
  t0 := Try.underlying0,
  a0 := Try.isAgg0,
  z0 := Try.sizeOf0,
  v0 := Try.zeroValue0,
  t3 := Try.underlying3,
  a3 := Try.isAgg3,
  z3 := Try.sizeOf3,
  v3 := Try.zeroValue3,
  t4 := Try.underlying4,
  a4 := Try.isAgg4,
  z4 := Try.sizeOf4,
  v4 := Try.zeroValue4,
  t5 := Try.underlying5,
  a5 := Try.isAgg5,
  z5 := Try.sizeOf5,
  v5 := Try.zeroValue5,
  t9 := Try.underlying9,
  a9 := Try.isAgg9,
  z9 := Try.sizeOf9,
  v9 := Try.zeroValue9,
  t28 := Try.underlying23,
  a28 := Try.isAgg23,
  z28 := Try.sizeOf23,
  v28 := Try.zeroValue23,
  t46 := Try.underlying73,
  a46 := Try.isAgg73,
  z46 := Try.sizeOf73,
  v46 := Try.zeroValue73,
  t51 := Try.underlying85,
  a51 := Try.isAgg85,
  z51 := Try.sizeOf85,
  v51 := Try.zeroValue85,
  t53 := Try.underlying87,
  a53 := Try.isAgg87,
  z53 := Try.sizeOf87,
  v53 := Try.zeroValue87,
  t131 := Try.underlying42,
  a131 := Try.isAgg42,
  z131 := Try.sizeOf42,
  v131 := Try.zeroValue42,
  t182 := Try.underlying78,
  a182 := Try.isAgg78,
  z182 := Try.sizeOf78,
  v182 := Try.zeroValue78,
  t183 := Try.underlying79,
  a183 := Try.isAgg79,
  z183 := Try.sizeOf79,
  v183 := Try.zeroValue79,
  t218 := Try.underlying88,
  a218 := Try.isAgg88,
  z218 := Try.sizeOf88,
  v218 := Try.zeroValue88,
  t222 := Try.underlying92,
  a222 := Try.isAgg92,
  z222 := Try.sizeOf92,
  v222 := Try.zeroValue92,
  t228 := Try.underlying94,
  a228 := Try.isAgg94,
  z228 := Try.sizeOf94,
  v228 := Try.zeroValue94,
  t229 := Try.underlying95,
  a229 := Try.isAgg95,
  z229 := Try.sizeOf95,
  v229 := Try.zeroValue95 }

def Try.compI_ren : Go.Shelf.Ren := ⟨fun | 20 => 36 | n => n, fun | 22 => 23 | 3 => 3 | 4 => 4 | 0 => 0 | n => n, fun | n => n⟩
theorem Try.compI : Go.Proofs.Lays2.n20 Try.prog Try.compI_ren := {
  mixed := by kernel_rfl,
  f20 := Try.func36.trans (congrArg some (by kernel_rfl)),
  t0 := Try.underlying0,
  a0 := Try.isAgg0,
  z0 := Try.sizeOf0,
  v0 := Try.zeroValue0,
  t3 := Try.underlying3,
  a3 := Try.isAgg3,
  z3 := Try.sizeOf3,
  v3 := Try.zeroValue3,
  t4 := Try.underlying4,
  a4 := Try.isAgg4,
  z4 := Try.sizeOf4,
  v4 := Try.zeroValue4,
  t22 := Try.underlying23,
  a22 := Try.isAgg23,
  z22 := Try.sizeOf23,
  v22 := Try.zeroValue23,
  i3 := by kernel_rfl }

def Try.binI_ren : Go.Shelf.Ren := ⟨fun | 25 => 37 | 31 => 44 | 32 => 45 | 37 => 57 | n => n, fun | 22 => 23 | 3 => 3 | 4 => 4 | 40 => 73 | 0 => 0 | n => n, fun | n => n⟩
theorem Try.binI : Go.Proofs.Lays2.n25 Try.prog Try.binI_ren := {
  mixed := by kernel_rfl,
  f25 := Try.func37.trans (congrArg some (by kernel_rfl)),
  f31 := Try.func44.trans (congrArg some (by kernel_rfl)),
  f32 := Try.func45.trans (congrArg some (by kernel_rfl)),
  f37 := Try.func57.trans (congrArg some (by kernel_rfl)),
  t0 := Try.underlying0,
  a0 := Try.isAgg0,
  z0 := Try.sizeOf0,
  v0 := Try.zeroValue0,
  t3 := Try.underlying3,
  a3 := Try.isAgg3,
  z3 := Try.sizeOf3,
  v3 := Try.zeroValue3,
  t4 := Try.underlying4,
  a4 := Try.isAgg4,
  z4 := Try.sizeOf4,
  v4 := Try.zeroValue4,
  t22 := Try.underlying23,
  a22 := Try.isAgg23,
  z22 := Try.sizeOf23,
  v22 := Try.zeroValue23,
  t40 := Try.underlying73,
  a40 := Try.isAgg73,
  z40 := Try.sizeOf73,
  v40 := Try.zeroValue73 }

def vI (x : Int) : Value := .int .i64 x
/-- An own row, written over. -/
theorem owns_put {w : World} {base g cap n : Nat} {xs ys : List Int} {q : Nat} {os : Array Obj} (h : w.ownsRow base 3 1 (.slice (some ⟨g, 0, none⟩) n cap) n (xs.map vI)) (hl : ys.length = xs.length) :
    (Go.Sort.grow (Go.Sort.putRow (Value.int .i64) (Go.Sort.ahead w q) g 0 ys.toArray) os).ownsRow base 3 1 (.slice (some ⟨g, 0, none⟩) n cap) n (ys.map vI) ∧ w.grownBy (Go.Sort.grow (Go.Sort.putRow (Value.int .i64) (Go.Sort.ahead w q) g 0 ys.toArray) os) (some g) := by
  obtain ⟨h1, (⟨e, h0⟩ | ⟨g', cap', cur, e, hg, hh, hcap, hmax, hsz, htk⟩)⟩ := id h
  · cases e
  · cases e
    have hlt : g < w.heap.size := (h.lt g rfl).2
    have hn : n = xs.length := by have := h1; simp at this; omega
    refine ⟨⟨by simp [hl]; omega, .inr ⟨g, cap, Go.Sort.putCells (Value.int .i64) 0 ys.toArray cur, rfl, hg, ?_, hcap, hmax, by simp [Go.Sort.putCells, hsz], ?_⟩⟩, ⟨rfl, rfl, rfl, ?_, fun b hb hne => ?_⟩⟩
    · unfold Go.Sort.putRow
      rw [Go.Sort.heap_grow_old _ _ (by simpa [Go.Sort.mapBlock, Go.Sort.ahead] using hlt)]
      simp [Go.Sort.mapBlock, Go.Sort.ahead, Array.getElem?_modify, hh, Go.Sort.onCells]
    · apply List.ext_getElem
      · simp [Go.Sort.putCells, hsz, hl]; omega
      · intro j hj1 hj2
        have hj3 : j < ys.length := by simpa using hj2
        rw [List.getElem_take]
        simp only [Go.Sort.putCells, Array.getElem_toList, Array.getElem_mapIdx, List.size_toArray, Nat.zero_add, Nat.zero_le, true_and]
        rw [if_pos (by simpa using hj3)]
        simp [hj3, vI]
    · simp [Go.Sort.putRow, Go.Sort.mapBlock, Go.Sort.ahead, Go.Sort.grow]
    · unfold Go.Sort.putRow
      rw [Go.Sort.heap_grow_old _ _ (by simpa [Go.Sort.mapBlock, Go.Sort.ahead] using hb)]
      have : g ≠ b := fun e => hne (by subst e; rfl)
      simp [Go.Sort.mapBlock, Go.Sort.ahead, Array.getElem?_modify, this]
end Go.Proofs.Ytlaohilchcjffaa
