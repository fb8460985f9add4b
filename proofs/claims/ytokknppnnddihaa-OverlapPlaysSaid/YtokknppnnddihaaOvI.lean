import Derived.Test.YtokknppnnddihaaOvF
import Derived.Test.YtokknppnnddihaaOvG
namespace Go.Proofs.Ytokknppnnddihaa
open Go.RowKit

theorem recAt_new (w : World) (c : Nat) (χ : Col) (hc : χ w.heap.size = c) : RecAt c χ (w.alloc (.cells #[.slice none 0 0] 27)) w.heap.size [] :=
  ⟨.slice none 0 0, [], hc, by simp, by simp, World.ownsRow_nil _ _ _ _, fun b e => (by cases e), fun i hi => by simp at hi⟩

/-- What holds of a record at block pb through a law: its sets; nothing that lay when the law was called has turned. -/
def RInv (w : World) (pb : Nat) (χ : Col) (sets : List (List Int)) (W : World) : Prop :=
  RecAt 1 χ W pb sets ∧ Below w.heap.size w W ∧ ∀ b, b < w.heap.size → χ b = 0
theorem RInv.step {w : World} {pb : Nat} {χ : Col} {sets : List (List Int)} {W W2 : World} (h : RInv w pb χ sets W) (hb : Below W.heap.size W W2) : RInv w pb χ sets W2 :=
  ⟨h.1.keep (Same.below' hb), h.2.1.trans (hb.mono h.2.1.size), h.2.2⟩
theorem RInv.lit {w : World} {pb : Nat} {χ : Col} {sets : List (List Int)} {W : World} (h : RInv w pb χ sets W) (o : Obj) : RInv w pb χ sets (W.alloc o) :=
  h.step ((Below.refl _ _).alloc (Nat.le_refl _) _)
theorem RInv.add {w : World} {pb : Nat} {χ : Col} {sets sets' : List (List Int)} {W W2 : World} (h : RInv w pb χ sets W)
    (hb : ∃ χ', (∀ b, b < W.heap.size → χ' b = χ b) ∧ RecAt 1 χ' W2 pb sets' ∧ Chg χ (· = 1) W W2) : ∃ χ', RInv w pb χ' sets' W2 := by
  obtain ⟨χ', h1, h2, h3⟩ := hb
  have hs := h.2.1.size
  exact ⟨χ', h2, h.2.1.trans (h3.below (C := (· = 1)) (fun b hb => by rw [h.2.2 b hb]; omega) hs), fun b hb => by rw [h1 b (by omega)]; exact h.2.2 b hb⟩
theorem RInv.chg {w : World} {pb : Nat} {χ χ2 : Col} {sets : List (List Int)} {C : Nat → Prop} {W W2 : World} (h : RInv w pb χ sets W) (hc : Chg χ C W W2) (hx : ∀ b, b < W.heap.size → χ2 b = χ b)
    (h0 : ¬ C 0) (h1 : ¬ C 1) (h2 : ¬ C 2) : RInv w pb χ2 sets W2 :=
  ⟨h.1.keep (Same.chg' hc hx (fun x hx => by rcases hx with rfl | rfl <;> assumption)), h.2.1.trans (hc.below (fun b hb => by rw [h.2.2 b hb]; exact h0) h.2.1.size),
   fun b hb => (hx b (by have := h.2.1.size; omega)).trans (h.2.2 b hb)⟩
theorem RInv.color {w : World} {pb : Nat} {χ χ2 : Col} {sets : List (List Int)} {W W2 : World} (h : RInv w pb χ sets W) (hc : Below W.heap.size W W2) (hx : ∀ b, b < W.heap.size → χ2 b = χ b) : RInv w pb χ2 sets W2 :=
  h.chg (C := fun _ => False) (Chg.of_below hc) hx id id id
theorem rinv_new {w W : World} (hb : Below w.heap.size w W) : ∃ χ, RInv w W.heap.size χ [] (W.alloc (.cells #[.slice none 0 0] 27)) :=
  ⟨fun b => if b < W.heap.size then 0 else 1, recAt_new W 1 _ (by simp), hb.alloc hb.size _, fun b h => if_pos (by have := hb.size; omega)⟩
theorem RInv.args {w : World} {pb : Nat} {χ : Col} {sets : List (List Int)} {W : World} (h : RInv w pb χ sets W) {v : Value} {a : List Int} (ha : IsI 0 (fun _ => 0) w v a) : IsI 0 (fun _ => 0) W v a := ha.keep (Same.below' h.2.1)
theorem below_cell {w W : World} {p : Addr} {v : Value} (hb : Below w.heap.size w W) (hc : w.cell? p = some v) : W.cell? p = some v :=
  (hb.cell (World.block_lt_of_cell? w _ hc)).trans hc
theorem isII_lit {w : World} {b : Nat} {v : Value} {x : List Int} {t : TypeId} (h : IsI 0 (fun _ => 0) w v x) (hb : b = w.heap.size) :
    IsII 0 0 (fun _ => 0) (w.alloc (.cells #[v] t)) (.slice (some ⟨b, 0, none⟩) 1 1) [x] := by
  subst hb
  refine ⟨_, _, rfl, Nat.le_refl _, by unfold maxLen; omega, ⟨by simp, fun h => by cases h⟩, fun i hi => ⟨w.heap.size, 0, [v], rfl, rfl, rfl, ⟨v, rfl, ?_⟩, fun j hj => ?_⟩⟩
  · have : i = 0 := by simpa using hi
    subst this
    exact h.alloc _
  · have h1 : i = 0 := by simpa using hi
    have h2 : j = 0 := by simpa using hj
    subst h1; subst h2
    simp

set_option maxHeartbeats 4000000 in
theorem alive_calls (w : World) : Calls Try.prog 8 #[] w fun e w' => e = .returned (.bool true) ∧ Below w.heap.size w w' := by
  obtain ⟨χ, hI⟩ := rinv_new (Below.refl w.heap.size w)
  have m1 : Hid (sharedM [1, 2, 3] [2, 3, 4] = 2) := by show _ = _; simp [sharedM, rightM, mergeN]
  have m2 : Hid (mostM [2, 3, 4] [[1, 2, 3]] = 2) := by show _ = _; simp [mostM, sharedM, rightM, mergeN]; rfl
  have r1 : Hid (rightM 0 [1, 2, 3] = true) := rfl
  have r2 : Hid (rightM 0 [2, 2] = false) := rfl
  have r3 : Hid (rightM 0 [1, 5] = true) := rfl
  have r4 : Hid (rightM 0 [0] = false) := rfl
  go_enter Try.func8, Try.ntmps8
  go_wp2_with fail
  refine (shared_calls _ _ _ [1, 2, 3] [2, 3, 4] ((isI_lit [1, 2, 3] (by simp) rfl (by simp)).alloc _) (isI_lit [2, 3, 4] (by simp) rfl (by simp))).mono ?_
  rintro e W1 ⟨rfl, hq⟩
  rw [m1.out]
  have I1 := hI.step (below_lit (below_lit (quiet_below hq)))
  clear hq hI
  go_wp2_with fail
  refine (add_yes _ _ _ [1, 2, 3] (I1.step ((Below.refl _ _).alloc (Nat.le_refl _) _)).1 (isI_lit [1, 2, 3] rfl rfl (by simp)) (by simp) (by simp) r1).mono ?_
  rintro e W2 ⟨rfl, hq⟩
  obtain ⟨χ2, I2⟩ := (I1.step ((Below.refl _ _).alloc (Nat.le_refl _) _)).add hq
  clear hq I1
  go_wp2_with fail
  refine (add_no _ _ _ [2, 2] (isI_lit [2, 2] rfl rfl (by simp)) r2).mono ?_
  rintro e W3 ⟨rfl, hq⟩
  have I3 := I2.step (below_lit (same_below hq))
  clear hq I2
  go_wp2_with fail
  refine (most_calls _ _ _ [2, 3, 4] (I3.step ((Below.refl _ _).alloc (Nat.le_refl _) _)).1 (isI_lit [2, 3, 4] rfl rfl (by simp)) (by simp)).mono ?_
  rintro e W4 ⟨rfl, hq⟩
  have I4 := I3.step (below_lit (quiet_below hq))
  clear hq I3
  rw [show ([] ++ [[1, 2, 3]] : List (List Int)) = [[1, 2, 3]] from rfl] at I4 ⊢
  rw [m2.out]
  go_wp2_with fail
  refine (test_calls _ _ _ [2, 3, 4] 2 (I4.step ((Below.refl _ _).alloc (Nat.le_refl _) _)).1 (isI_lit [2, 3, 4] rfl rfl (by simp)) (by simp)).mono ?_
  rintro e W5 ⟨rfl, hq⟩
  have I5 := I4.step (below_lit (quiet_below hq))
  clear hq I4
  rw [m2.out]
  go_wp2_with fail
  refine (test_calls _ _ _ [2, 3, 4] 1 (I5.step ((Below.refl _ _).alloc (Nat.le_refl _) _)).1 (isI_lit [2, 3, 4] rfl rfl (by simp)) (by simp)).mono ?_
  rintro e W6 ⟨rfl, hq⟩
  have I6 := I5.step (below_lit (quiet_below hq))
  clear hq I5
  rw [m2.out]
  go_wp2_with fail
  refine (len_calls _ _ I6.1 (by simp)).mono ?_
  rintro e W7 ⟨rfl, rfl⟩
  go_wp2_with fail
  refine (right_calls _ _ [1, 5] (isI_lit [1, 5] rfl rfl (by simp))).mono ?_
  rintro e W8 ⟨rfl, hq⟩
  have I8 := I6.step (below_lit (same_below hq))
  clear hq I6
  rw [r3.out]
  go_wp2_with fail
  refine (right_calls _ _ [0] (isI_lit [0] rfl rfl (by simp))).mono ?_
  rintro e W9 ⟨rfl, hq⟩
  have I9 := I8.step (below_lit (same_below hq))
  clear hq I8
  rw [r4.out]
  go_wp2_with fail
  refine (allf_calls _ _ 9 (cO := 0) (cI := 1) I9.1 (by simp) (by simp) (by omega)).mono ?_
  rintro e W10 ⟨v, χ10, rfl, h1, h2, h3⟩
  obtain ⟨A, cap, rfl⟩ := h2.isII
  have I10 := I9.step h3
  go_wp2
  go_ret
  exact ⟨rfl, I10.2.1⟩
end Go.Proofs.Ytokknppnnddihaa
