import Derived.Test.YtfapeemdlphjbaaDoorArE
import Derived.Shelf.Spec.TrailingZeros
namespace Go.Proofs.YtfapeemdlphjbaaDoor
open Go.RowKit Go.Shelf

def Tryd.tz_ren : Go.Shelf.Ren := ⟨fun | 29 => 39 | n => n, fun | 22 => 61 | 3 => 3 | 4 => 4 | 25 => 76 | 54 => 78 | 0 => 0 | 5 => 5 | n => n, fun | 1 => 0 | n => n⟩
theorem Tryd.tz : Go.Proofs.Lays7.n29 Tryd.prog Tryd.tz_ren := {
  mixed := by kernel_rfl,
  f29 := Tryd.func39.trans (congrArg some (by kernel_rfl)),
  t0 := Tryd.underlying0,
  a0 := Tryd.isAgg0,
  z0 := Tryd.sizeOf0,
  v0 := Tryd.zeroValue0,
  i0 := by kernel_rfl,
  t3 := Tryd.underlying3,
  a3 := Tryd.isAgg3,
  z3 := Tryd.sizeOf3,
  v3 := Tryd.zeroValue3,
  i3 := by kernel_rfl,
  t4 := Tryd.underlying4,
  a4 := Tryd.isAgg4,
  z4 := Tryd.sizeOf4,
  v4 := Tryd.zeroValue4,
  i4 := by kernel_rfl,
  t5 := Tryd.underlying5,
  a5 := Tryd.isAgg5,
  z5 := Tryd.sizeOf5,
  v5 := Tryd.zeroValue5,
  i5 := by kernel_rfl,
  t22 := Tryd.underlying61,
  a22 := Tryd.isAgg61,
  z22 := Tryd.sizeOf61,
  v22 := Tryd.zeroValue61,
  i22 := by kernel_rfl,
  t25 := Tryd.underlying76,
  a25 := Tryd.isAgg76,
  z25 := Tryd.sizeOf76,
  v25 := Tryd.zeroValue76,
  i25 := by kernel_rfl,
  t54 := Tryd.underlying78,
  a54 := Tryd.isAgg78,
  z54 := Tryd.sizeOf78,
  g1 := by kernel_rfl }


/-- math/bits's table, in its variable. -/
abbrev Tab (w : World) : Prop := TabAt 0 Lib.deBruijn64tab w
theorem Tab.keep {w w' : World} (h : Tab w) (hb : Below w.heap.size w w') : Tab w' := fun j hj => by
  have h1 := h j hj
  exact (World.cell?_of_block (hb.block _ (World.block_lt_of_cell? _ _ h1))).trans h1
theorem tz_calls (x : Nat) (hx : x < 18446744073709551616) (w : World) (hT : Tab w) :
    Calls Tryd.prog 39 #[.int .u64 x] w fun e w' => e = .returned (.int .i64 (Lib.ctz 64 x)) ∧ w' = w :=
  Any7.bits_TrailingZeros64 Tryd.tz x hx w fun _ => hT
end Go.Proofs.YtfapeemdlphjbaaDoor
