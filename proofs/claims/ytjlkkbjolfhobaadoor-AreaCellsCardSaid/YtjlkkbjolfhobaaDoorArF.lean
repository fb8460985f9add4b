import Derived.Test.YtjlkkbjolfhobaaDoorArE
import Derived.Shelf.Spec.TrailingZeros
namespace Go.Proofs.YtjlkkbjolfhobaaDoor
open Go.RowKit Go.Shelf

def Tryd.tz_ren : Go.Shelf.Ren := ⟨fun | 29 => 54 | n => n, fun | 22 => 55 | 3 => 3 | 4 => 4 | 25 => 81 | 54 => 85 | 0 => 0 | 5 => 5 | n => n, fun | 1 => 0 | n => n⟩
theorem Tryd.tz : Go.Proofs.Lays7.n29 Tryd.prog Tryd.tz_ren := {
  mixed := by kernel_rfl,
  f29 := Tryd.func54.trans (congrArg some (by kernel_rfl)),
  t0 := Tryd.underlying0,
  a0 := Tryd.isAgg0,
  z0 := Tryd.sizeOf0,
  v0 := Tryd.zeroValue0,
  i0 := by kernel_rfl,
  t3 := Tryd.underlying3,
  a3 := Tryd.isAgg3,
  z3 := Tryd.sizeOf3,
  v3 := Tryd.zeroValue3,
  i3 := by kernel_rfl,
  t4 := Tryd.underlying4,
  a4 := Tryd.isAgg4,
  z4 := Tryd.sizeOf4,
  v4 := Tryd.zeroValue4,
  i4 := by kernel_rfl,
  t5 := Tryd.underlying5,
  a5 := Tryd.isAgg5,
  z5 := Tryd.sizeOf5,
  v5 := Tryd.zeroValue5,
  i5 := by kernel_rfl,
  t22 := Tryd.underlying55,
  a22 := Tryd.isAgg55,
  z22 := Tryd.sizeOf55,
  v22 := Tryd.zeroValue55,
  i22 := by kernel_rfl,
  t25 := Tryd.underlying81,
  a25 := Tryd.isAgg81,
  z25 := Tryd.sizeOf81,
  v25 := Tryd.zeroValue81,
  i25 := by kernel_rfl,
  t54 := Tryd.underlying85,
  a54 := Tryd.isAgg85,
  z54 := Tryd.sizeOf85,
  g1 := by kernel_rfl }


/-- math/bits's table, in its variable. -/
abbrev Tab (w : World) : Prop := TabAt 0 Lib.deBruijn64tab w
theorem Tab.keep {w w' : World} (h : Tab w) (hb : Below w.heap.size w w') : Tab w' := fun j hj => by
  have h1 := h j hj
  exact (World.cell?_of_block (hb.block _ (World.block_lt_of_cell? _ _ h1))).trans h1
theorem tz_calls (x : Nat) (hx : x < 18446744073709551616) (w : World) (hT : Tab w) :
    Calls Tryd.prog 54 #[.int .u64 x] w fun e w' => e = .returned (.int .i64 (Lib.ctz 64 x)) ∧ w' = w :=
  Any7.bits_TrailingZeros64 Tryd.tz x hx w fun _ => hT
end Go.Proofs.YtjlkkbjolfhobaaDoor
