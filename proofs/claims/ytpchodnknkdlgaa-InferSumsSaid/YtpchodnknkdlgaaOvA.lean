import Derived.Test.YtpchodnknkdlgaaBase
namespace Go.Proofs.Ytpchodnknkdlgaa
open Go.RowKit

def rightM : Int → List Int → Bool
  | _, [] => true
  | l, x :: xs => if x ≤ l then false else rightM x xs
theorem rightM_drop (l : Int) (xs : List Int) (k : Nat) (h : k < xs.length) : rightM l (xs.drop k) = if xs[k] ≤ l then false else rightM xs[k] (xs.drop (k+1)) := by
  rw [List.drop_eq_getElem_cons h, rightM]

set_option maxHeartbeats 400000 in
theorem right_calls (w : World) (v : Value) (xs : List Int) {χ : Col} {cl : Nat} (h : IsI cl χ w v xs) :
    Calls Try.prog 15 #[v] w fun e w' => e = .returned (.bool (rightM 0 xs)) ∧ w' = w := by
  obtain ⟨A, c, rfl, h1, h2, h3, -⟩ := id h
  unfold maxLen at h2
  go_enter Try.func15, Try.ntmps15
  go_wp2
  go_loop [3, 8] (fun l i => ∃ (k : Nat) (m : Int), k ≤ xs.length ∧ i = .int .i64 k ∧ l = .int .i64 m ∧ Hid (rightM 0 xs = rightM m (xs.drop k))) (fun _ i => xs.length - (intOf i).toNat)
  case atStart => exact ⟨0, 0, by omega, rfl, rfl, rfl⟩
  case round =>
    obtain ⟨k, m, hk, rfl, rfl, hm⟩ := hrel
    by_cases hlt : k < xs.length
    · obtain ⟨b, o, rfl, hcell⟩ := h.getI k hlt
      by_cases hx : xs[k] ≤ m
      · have hm' : Hid (rightM 0 xs = false) := by show _ = _; rw [hm.out, rightM_drop m xs k hlt, if_pos hx]
        clear hm
        go_wp2
        go_ret
        exact ⟨ret_bool hm'.out.symm, rfl⟩
      · have hm' : Hid (rightM 0 xs = rightM xs[k] (xs.drop (k+1))) := by show _ = _; rw [hm.out, rightM_drop m xs k hlt, if_neg hx]
        go_wp2
        go_round
        case rel => exact ⟨k+1, xs[k], hlt, by go_num, rfl, hm'⟩
        case measure => simp [intOf]; omega
    · have hm' : Hid (rightM 0 xs = true) := by show _ = _; rw [hm.out, List.drop_eq_nil_of_le (by omega)]; rfl
      clear hm
      go_wp2
      go_ret
      exact ⟨ret_bool hm'.out.symm, rfl⟩
end Go.Proofs.Ytpchodnknkdlgaa
