import Derived.Test.YtcdldjiogoapkaaCel
namespace Go.Proofs.Ytcdldjiogoapkaa
open Go.RowKit

/-- What is told of values. -/
structure Ag where
  c : Int
  s : Int
  mn : Int
  mx : Int
def Ag.zero : Ag := ⟨0, 0, 0, 0⟩
def Ag.one (v : Int) : Ag := ⟨1, v, v, v⟩
def Ag.merge (a b : Ag) : Ag :=
  if a.c < 1 then (if b.c < 1 then Ag.zero else b) else if b.c < 1 then a else ⟨wrap64 (a.c + b.c), wrap64 (a.s + b.s), if b.mn < a.mn then b.mn else a.mn, if a.mx < b.mx then b.mx else a.mx⟩
abbrev Ag.val (a : Ag) : Value := .agg #[.int .i64 a.c, .int .i64 a.s, .int .i64 a.mn, .int .i64 a.mx]

theorem one_calls (w : World) (v : Int) :
    Calls Try.prog 33 #[.int .i64 v] w fun e w' => e = .returned (Ag.one v).val ∧ Below w.heap.size w w' := by
  go_enter Try.func33, Try.ntmps33
  go_wp2
  refine bodyPost_ret (v := (Ag.one v).val) (by simp [results, Try.results33, go_sem, Ag.one]) rfl ⟨rfl, ?_⟩
  exact (Below.refl _ _).alloc (Nat.le_refl _) _

theorem merge_calls (w : World) (a b : Ag) :
    Calls Try.prog 54 #[a.val, b.val] w fun e w' => e = .returned (Ag.merge a b).val ∧ Below w.heap.size w w' := by
  go_enter Try.func54, Try.ntmps54
  go_wp2
  all_goals
    refine bodyPost_ret (v := (Ag.merge a b).val) (by simp [results, Try.results54, go_sem]; unfold Ag.merge Ag.zero; split <;> (try split) <;> (try split) <;> (try split) <;> first | (exfalso; omega) | simp_all) rfl ⟨rfl, ?_⟩
    exact (((Below.refl _ _).alloc (Nat.le_refl _) _).alloc (by simp) _).alloc (by simp; omega) _
end Go.Proofs.Ytcdldjiogoapkaa
