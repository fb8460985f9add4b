import Derived.Test.YtpchodnknkdlgaaInAH
namespace Go.Proofs.Ytpchodnknkdlgaa
open Go.RowKit
attribute [local go_sem] World.cell?_alloc_some

theorem isII_lit2 {w : World} {b : Nat} {v u : Value} {x y : List Int} {t : TypeId} (h : IsI 0 (fun _ => 0) w v x) (k : IsI 0 (fun _ => 0) w u y) (hb : b = w.heap.size) :
    IsII 0 0 (fun _ => 0) (w.alloc (.cells #[v, u] t)) (.slice (some ⟨b, 0, none⟩) 2 2) [x, y] := by
  subst hb
  refine ⟨_, _, rfl, Nat.le_refl _, by unfold maxLen; omega, ⟨by simp, fun h => by cases h⟩, fun i hi => ?_⟩
  have hi2 : i = 0 ∨ i = 1 := by simp at hi; omega
  rcases hi2 with rfl | rfl
  · refine ⟨w.heap.size, 0, [v], rfl, rfl, rfl, ⟨v, rfl, h.alloc _⟩, fun j hj => ?_⟩
    have hj0 : j = 0 := by simpa using hj
    subst hj0
    simp
  · refine ⟨w.heap.size, 0, [u], rfl, rfl, rfl, ⟨u, rfl, k.alloc _⟩, fun j hj => ?_⟩
    have hj0 : j = 0 := by simpa using hj
    subst hj0
    simp
/-- What holds of a control of color c at block pb through a law: its numbers and sets; nothing that lay when the law was called has turned. -/
def CI (c : Nat) (w : World) (pb : Nat) (χ : Col) (k r b : Int) (sets : List (List Int)) (W : World) : Prop :=
  CtlAt c χ W pb k r b sets ∧ Below w.heap.size w W ∧ ∀ b, b < w.heap.size → χ b = 0
theorem CI.chg {c : Nat} {w : World} {pb : Nat} {χ χ2 : Col} {k r b : Int} {sets : List (List Int)} {C : Nat → Prop} {W W2 : World} (h : CI c w pb χ k r b sets W) (hc : Chg χ C W W2) (hx : ∀ b, b < W.heap.size → χ2 b = χ b)
    (h0 : ¬ C 0) (h1 : ¬ C c) (h2 : ¬ C (c + 1)) : CI c w pb χ2 k r b sets W2 :=
  ⟨h.1.keep (Same.chg' hc hx (fun x hx => by rcases hx with rfl | rfl <;> assumption)), h.2.1.trans (hc.below (fun b hb => by rw [h.2.2 b hb]; exact h0) h.2.1.size),
   fun b hb => (hx b (by have := h.2.1.size; omega)).trans (h.2.2 b hb)⟩
theorem CI.color {c : Nat} {w : World} {pb : Nat} {χ χ2 : Col} {k r b : Int} {sets : List (List Int)} {W W2 : World} (h : CI c w pb χ k r b sets W) (hc : Below W.heap.size W W2) (hx : ∀ b, b < W.heap.size → χ2 b = χ b) : CI c w pb χ2 k r b sets W2 :=
  h.chg (C := fun _ => False) (Chg.of_below hc) hx id id id
theorem CI.step {c : Nat} {w : World} {pb : Nat} {χ : Col} {k r b : Int} {sets : List (List Int)} {W W2 : World} (h : CI c w pb χ k r b sets W) (hb : Below W.heap.size W W2) : CI c w pb χ k r b sets W2 := h.color hb fun _ _ => rfl
theorem CI.ask {c : Nat} {w : World} {pb : Nat} {χ : Col} {k r b : Int} {sets sets' : List (List Int)} {W W2 : World} (h : CI c w pb χ k r b sets W) (hc : c ≠ 0)
    (hb : ∃ χ', (∀ b, b < W.heap.size → χ' b = χ b) ∧ CtlAt c χ' W2 pb k r b sets' ∧ Chg χ (· = c) W W2) : ∃ χ', (∀ b, b < W.heap.size → χ' b = χ b) ∧ Chg χ (· = c) W W2 ∧ CI c w pb χ' k r b sets' W2 := by
  obtain ⟨χ', h1, h2, h3⟩ := hb
  have hs := h.2.1.size
  exact ⟨χ', h1, h3, h2, h.2.1.trans (h3.below (C := (· = c)) (fun b hb => by rw [h.2.2 b hb]; exact fun e => hc e.symm) hs), fun b hb => by rw [h1 b (by omega)]; exact h.2.2 b hb⟩
theorem CI.args {c : Nat} {w : World} {pb : Nat} {χ : Col} {k r b : Int} {sets : List (List Int)} {W : World} (h : CI c w pb χ k r b sets W) {v : Value} {a : List Int} (ha : IsI 0 (fun _ => 0) w v a) : IsI 0 (fun _ => 0) W v a := ha.keep (Same.below' h.2.1)
theorem ci_new {w W : World} (hb : Below w.heap.size w W) (k r b : Int) : ∃ χ, CI 1 w W.heap.size χ k r b [] (W.alloc (.cells #[.int .i64 k, .int .i64 r, .int .i64 b, .slice none 0 0] 53)) :=
  ⟨fun b => if b < W.heap.size then 0 else 1, ctlAt_new W 1 _ k r b (by simp), hb.alloc hb.size _, fun b h => if_pos (by have := hb.size; omega)⟩

def fewM (s : List (List Int)) (m : Int) : Bool := s.all (fun x => decide (x.length ≤ 40)) && decide ((s.length : Int) ≤ m)
set_option maxHeartbeats 1000000 in
theorem few_calls (w : World) (v : Value) (m : Int) (s : List (List Int)) {χ : Col} {ca cb : Nat} (h : IsII ca cb χ w v s) :
    Calls Try.prog 10 #[v, .int .i64 m] w fun e w' => e = .returned (.bool (fewM s m)) ∧ w' = w := by
  obtain ⟨A, c, rfl, a1, a2, a3, -⟩ := id h
  unfold maxLen at a2
  obtain ⟨r, hr⟩ : ∃ r, r = fewM s m := ⟨_, rfl⟩
  rw [← hr]
  have HR := Lib.hid hr
  have H := Lib.hid h
  clear hr h
  go_enter Try.func10, Try.ntmps10
  go_wp2
  go_loopw [9] (fun i wr => ∃ k : Nat, k ≤ s.length ∧ i = .int .i64 k ∧ Hid (∀ x ∈ s.take k, x.length ≤ 40) ∧ wr = w) (fun i _ => s.length - (intOf i).toNat)
  case atStart => exact ⟨0, by omega, rfl, fun x hx => by simp at hx, rfl⟩
  case round =>
    obtain ⟨k, hk, rfl, HZ, rfl⟩ := hrel
    by_cases hlt : k < s.length
    · obtain ⟨b, o, u, rfl, hc, hu⟩ := H.out.getS k hlt
      obtain ⟨Au, cu, rfl, u1, u2, u3, -⟩ := id hu
      unfold maxLen at u2
      have HT : Hid (s.take (k + 1) = s.take k ++ [s[k]]) := List.take_succ_eq_append_getElem hlt
      have HM : Hid (s[k] ∈ s) := List.getElem_mem hlt
      obtain ⟨x, hx⟩ : ∃ x, x = s[k] := ⟨_, rfl⟩
      rw [← hx] at HT HM hc u1 u3
      clear hx hu
      by_cases h40 : 40 < x.length
      · have HF : Hid (r = false) := by
          show _ = _
          rw [HR.out]; unfold fewM
          rw [Bool.and_eq_false_iff]; left
          rw [List.all_eq_false]
          exact ⟨x, HM.out, by simpa using h40⟩
        go_wp2
        go_ret
        exact ⟨ret_bool HF.out.symm, rfl⟩
      · have HZ2 : Hid (∀ y ∈ s.take (k + 1), y.length ≤ 40) := by
          intro y hy
          rw [HT.out] at hy
          rcases List.mem_append.1 hy with h | h
          · exact HZ.out y h
          · rw [List.mem_singleton.1 h]; omega
        go_wp2
        exact ⟨⟨k + 1, hlt, by go_num, HZ2, trivial⟩, by simp [intOf]; omega⟩
    · have hke : k = s.length := by omega
      subst hke
      have HF : Hid (r = decide ((s.length : Int) ≤ m)) := by
        show _ = _
        rw [HR.out]; unfold fewM
        rw [show s.all (fun x => decide (x.length ≤ 40)) = true from List.all_eq_true.2 fun x hx => by have := HZ.out x (by rw [List.take_length]; exact hx); simpa using this, Bool.true_and]
      go_wp2
      go_ret
      exact ⟨ret_bool HF.out.symm, rfl⟩
end Go.Proofs.Ytpchodnknkdlgaa
