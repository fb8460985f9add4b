import Derived.Test.YtipdmnfkigoanaaArA
import Derived.Test.YtipdmnfkigoanaaIvL
namespace Go.Proofs.Ytipdmnfkigoanaa
open Go.RowKit
attribute [local go_sem] World.cell?_alloc_some frozen_alloc_some Oper.semAt_some

def fewB (a : Ar) : Bool := a.all (fun l => decide (l.length ≤ 20)) && decide (a.length ≤ 20)
theorem fewB_iff {a : Ar} : fewB a = true ↔ Sm 20 a ∧ a.length ≤ 20 := by
  unfold fewB Sm; simp
set_option maxRecDepth 100000 in
set_option maxHeartbeats 4000000 in
theorem few_calls (w : World) (v : Value) (a : Ar) (hr : RdA w v a) :
    Calls Try.prog 8 #[v] w fun e w' => e = .returned (.bool (fewB a)) ∧ w' = w := by
  obtain ⟨A, cap, rfl, a1, a2, a3, -⟩ := id hr
  unfold maxLen at a2
  have HR := Lib.hid hr
  clear hr
  go_enter Try.func8, Try.ntmps8
  go_wp2
  go_loopw [3] (fun i wr => ∃ k : Nat, k ≤ a.length ∧ i = .int .i64 k ∧ Hid (Sm 20 (a.take k)) ∧ wr = w) (fun i _ => a.length - (intOf i).toNat)
  case atStart => exact ⟨0, by omega, rfl, fun l hl => by simp at hl, rfl⟩
  case round =>
    obtain ⟨k, hk, rfl, HS, rfl⟩ := hrel
    by_cases hlt : k < a.length
    · obtain ⟨gb, go, u, rfl, hc, hu⟩ := HR.out.get k hlt
      have HT : Hid (a.take (k + 1) = a.take k ++ [a[k]]) := List.take_succ_eq_append_getElem hlt
      have hmem : Hid (a[k] ∈ a) := List.getElem_mem hlt
      obtain ⟨m, hm⟩ : ∃ m, m = a[k] := ⟨_, rfl⟩
      rw [← hm] at hu HT hmem
      obtain ⟨A', c', rfl, -⟩ := id hu
      clear hm hu
      by_cases h20 : 20 < m.length
      · have hf : Hid (fewB a = false) := by
          show _ = _
          rw [← Bool.not_eq_true, fewB_iff]
          intro h; have := h.1 _ hmem.out; omega
        go_wp2
        go_ret
        exact ⟨ret_bool hf.out.symm, rfl⟩
      · have HS2 : Hid (Sm 20 (a.take (k + 1))) := by
          show Sm 20 _
          rw [HT.out]; intro l hl
          rcases List.mem_append.1 hl with h | h
          · exact HS.out l h
          · simp at h; subst h; omega
        go_wp2
        refine ⟨⟨k + 1, hlt, by go_num, HS2, trivial⟩, by simp [intOf]; omega⟩
    · have HS2 : Hid (Sm 20 a) := by have := HS.out; rwa [List.take_of_length_le (by omega)] at this
      have HQ : Hid (fewB a = decide (a.length ≤ 20)) := by
        show _ = _
        rw [Bool.eq_iff_iff, fewB_iff, decide_eq_true_iff]; exact ⟨fun h => h.2, fun h => ⟨HS2.out, h⟩⟩
      go_wp2
      go_ret
      exact ⟨ret_bool (by rw [HQ.out]; simp; omega), rfl⟩
end Go.Proofs.Ytipdmnfkigoanaa
