import Derived.Test.YtpchodnknkdlgaaInD
namespace Go.Proofs.Ytpchodnknkdlgaa
open Go.RowKit

set_option maxHeartbeats 1000000 in
theorem in_calls (w : World) (v : Value) (n : Int) (xs : List Int) {χ : Col} {cl : Nat} (h : IsI cl χ w v xs) :
    Calls Try.prog 34 #[v, .int .i64 n] w fun e w' => e = .returned (.bool (decide (n ∈ xs))) ∧ w' = w := by
  obtain ⟨A, c, rfl, h1, h2, h3, -⟩ := id h
  unfold maxLen at h2
  obtain ⟨r, hr⟩ : ∃ r, r = decide (n ∈ xs) := ⟨_, rfl⟩
  rw [← hr]
  have HR := Lib.hid hr; clear hr
  go_enter Try.func34, Try.ntmps34
  go_wp2
  go_loop [5] (fun i => ∃ k : Nat, k ≤ xs.length ∧ i = .int .i64 k ∧ Hid (r = decide (n ∈ xs.drop k))) (fun i => xs.length - (intOf i).toNat)
  case atStart => exact ⟨0, by omega, rfl, HR⟩
  case round =>
    obtain ⟨k, hk, rfl, hm⟩ := hrel
    by_cases hlt : k < xs.length
    · obtain ⟨b, o, rfl, hcell⟩ := h.getI k hlt
      have hm2 : Hid (r = decide (n = xs[k] ∨ n ∈ xs.drop (k + 1))) := by
        show _ = _; rw [hm.out, List.drop_eq_getElem_cons hlt]; exact decide_eq_decide.2 List.mem_cons
      by_cases hx : (xs[k] == n) = true
      · have hr : Hid (r = true) := by show _ = _; rw [hm2.out]; simp at hx; simp [hx]
        go_wp2
        go_ret
        exact ⟨ret_bool hr.out.symm, rfl⟩
      · have hx := Bool.eq_false_iff.2 hx
        have hm' : Hid (r = decide (n ∈ xs.drop (k + 1))) := by
          show _ = _; rw [hm2.out]; simp at hx; simp [Ne.symm hx]
        go_wp2
        go_round
        case rel => exact ⟨k+1, hlt, by go_num, hm'⟩
        case measure => simp [intOf]; omega
    · have hr : Hid (r = false) := by show _ = _; rw [hm.out, List.drop_eq_nil_of_le (by omega)]; simp
      go_wp2
      go_ret
      exact ⟨ret_bool hr.out.symm, rfl⟩

end Go.Proofs.Ytpchodnknkdlgaa
