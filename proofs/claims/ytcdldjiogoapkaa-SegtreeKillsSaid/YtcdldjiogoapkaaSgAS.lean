import Derived.Test.YtcdldjiogoapkaaSgAP
import Derived.Test.YtcdldjiogoapkaaSgAQ
import Derived.Laws.AppendOwnNone
namespace Go.Proofs.Ytcdldjiogoapkaa
open Go.RowKit
attribute [local go_sem] World.cell?_alloc_some frozen_alloc_some field_na field_ac field_as

/-! Appending a slice that is read. -/
theorem rPair_one : rPair.One := by rintro χ w cs x rfl u hu; simp at hu; rcases hu with rfl | rfl <;> rfl
theorem infoU32 : (Try.prog.info? 32).map (fun i => (i.zero, i.size, i.bytes)) = some (some (.int .u32 0), 1, 4) := by kernel_rfl

def ucells (k : Nat) : List Value := [.int .u32 k]
end Go.Proofs.Ytcdldjiogoapkaa
