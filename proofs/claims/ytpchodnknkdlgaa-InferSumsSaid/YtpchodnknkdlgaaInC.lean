import Derived.Test.YtpchodnknkdlgaaOvB
import Derived.Test.YtpchodnknkdlgaaCloneI
namespace Go.Proofs.Ytpchodnknkdlgaa
open Go.RowKit
theorem infoII : (Try.prog.info? 24).map (fun i => (i.zero, i.size, i.bytes)) = some (some (.slice none 0 0), 1, 24) := by kernel_rfl

/-- A record at block pb: its variable and its row of color c, the sets of color c + 1. -/
def RecAt (c : Nat) (χ : Col) (w : World) (pb : Nat) (sets : List (List Int)) : Prop :=
  ∃ rv vs, χ pb = c ∧ w.cell? ⟨pb, 3, none⟩ = some rv ∧ w.frozen? ⟨pb, 3, none⟩ = false ∧ w.ownsRow 0 24 1 rv sets.length vs ∧
    (∀ b, rv.ownBlock = some b → χ b = c ∧ b ≠ pb) ∧ (∀ i (hi : i < sets.length), rSl 1 (rInt .i64) (c + 1) χ w ((vs.drop i).take 1) sets[i])

theorem RecAt.isII {c : Nat} {χ : Col} {w : World} {pb : Nat} {sets : List (List Int)} (h : RecAt c χ w pb sets) (hl : sets.length ≤ 1000000) :
    ∃ rv, w.cell? ⟨pb, 3, none⟩ = some rv ∧ IsII c (c + 1) χ w rv sets := by
  obtain ⟨rv, vs, h1, h2, h3, h4, h5, h6⟩ := h
  exact ⟨rv, h2, IsL.of_owns (by omega) h4 (by omega) (fun b e => (h5 b e).1) (fun i hi => by simpa using h6 i hi)⟩

theorem RecAt.keep {c : Nat} {χ χ' : Col} {w w' : World} {pb : Nat} {sets : List (List Int)} (h : RecAt c χ w pb sets) (hs : Same (fun x => x = c ∨ x = c + 1) χ χ' w w') : RecAt c χ' w' pb sets := by
  obtain ⟨rv, vs, h1, h2, h3, h4, h5, h6⟩ := h
  have hlt : pb < w.heap.size := by have := World.block_lt_of_cell? w _ h2; simpa using this
  have hp := hs pb hlt (.inl h1)
  refine ⟨rv, vs, hp.1.trans h1, (World.cell?_of_block hp.2).trans h2, (World.frozen?_of_block hp.2).trans h3, owns_same h4 fun b e => ?_, fun b e => ?_, fun i hi => ?_⟩
  · exact (hs b (h4.lt b e).2 (.inl (h5 b e).1)).2
  · exact ⟨(hs b (h4.lt b e).2 (.inl (h5 b e).1)).1.trans (h5 b e).1, (h5 b e).2⟩
  · exact rSl_on (D := fun x => x = c ∨ x = c + 1) (by omega) (rInt_on _ _) (.inr rfl) _ _ _ _ _ _ (h6 i hi) hs

set_option maxHeartbeats 1000000 in
theorem add_no (w : World) (pb : Nat) (v : Value) (xs : List Int) {cl : Nat} {χ : Col} (h : IsI cl χ w v xs) (HR : Hid (rightM 0 xs = false)) :
    Calls Try.prog 26 #[.pointer (some ⟨pb, 3, none⟩), v] w fun e w' => e = .returned (.int .i64 21) ∧ w' = w := by
  go_enter Try.func26, Try.ntmps26
  go_wp2_with fail
  refine (right_calls _ _ _ h).mono ?_
  rintro e w' ⟨rfl, rfl⟩
  rw [HR.out]
  go_wp2
  go_ret
  exact ⟨rfl, rfl⟩

theorem add_close {c pb gg cap cap' : Nat} {A' : Option Addr} {χ : Col} {w w1 w2 : World} {sets : List (List Int)} {xs : List Int} {rv : Value} {vs : List Value} (hl : xs.length ≤ 1000000)
    (r1 : χ pb = c) (r2 : w.cell? ⟨pb, 3, none⟩ = some rv) (r4 : w.ownsRow 0 24 1 rv sets.length vs)
    (r5 : ∀ b, rv.ownBlock = some b → χ b = c ∧ b ≠ pb) (r6 : ∀ i (hi : i < sets.length), rSl 1 (rInt .i64) (c + 1) χ w ((vs.drop i).take 1) sets[i])
    (hown1 : w1.ownsRow w.heap.size 3 1 (.slice A' xs.length cap') xs.length (xs.map (Value.int .i64))) (hb1 : Below w.heap.size w w1)
    (hown2 : w2.ownsRow 0 24 1 (.slice (some ⟨gg, 0, none⟩) (sets.length + 1) cap) (sets.length + 1) (vs ++ [.slice A' xs.length cap']))
    (hgrow : (w1.alloc (.cells #[.slice A' xs.length cap'] 24)).grownBy w2 rv.ownBlock) (hat : rv.ownBlock = some gg ∨ gg = w1.heap.size + 1)
    (hc2 : w2.cell? ⟨pb, 3, none⟩ = some rv) (hf2 : w2.frozen? ⟨pb, 3, none⟩ = false) :
    ∃ χ', (∀ b, b < w.heap.size → χ' b = χ b) ∧ RecAt c χ' (w2.setCell ⟨pb, 3, none⟩ (.slice (some ⟨gg, 0, none⟩) (sets.length + 1) cap)) pb (sets ++ [xs]) ∧
      Chg χ (· = c) w (w2.setCell ⟨pb, 3, none⟩ (.slice (some ⟨gg, 0, none⟩) (sets.length + 1) cap)) ∧ (∀ j, j ≠ 3 → (w2.setCell ⟨pb, 3, none⟩ (.slice (some ⟨gg, 0, none⟩) (sets.length + 1) cap)).cell? ⟨pb, j, none⟩ = w.cell? ⟨pb, j, none⟩) := by
  have hlt : pb < w.heap.size := by have := World.block_lt_of_cell? w _ r2; simpa using this
  have hvs : vs.length = sets.length := by have := r4.1; simpa using this
  have hs1 := hb1.size
  have hg1 : gg ≠ pb := by
    rcases hat with h | h
    · exact (r5 gg h).2
    · omega
  have hsz2 : w1.heap.size + 1 ≤ w2.heap.size := by have := hgrow.size; simpa using this
  have hold : ∀ b, b < w1.heap.size → b ≠ pb → some b ≠ rv.ownBlock → (w2.setCell ⟨pb, 3, none⟩ (.slice (some ⟨gg, 0, none⟩) (sets.length + 1) cap)).heap[b]? = w1.heap[b]? := fun b hb hp hr =>
    (Below.heap_setCell _ _ _ _ hp).trans ((hgrow.block b (by simp; omega) hr).trans (Below.heap_alloc _ _ _ hb))
  refine ⟨fun b => if b < w.heap.size then χ b else if b < w1.heap.size then c + 1 else c, fun b hb => if_pos hb, ⟨.slice (some ⟨gg, 0, none⟩) (sets.length + 1) cap, vs ++ [.slice A' xs.length cap'], ?_, ?_, ?_, ?_, ?_, ?_⟩, ?_, fun j hj => (World.cell?_setCell_other _ _ _ _ (by intro e; exact hj (by injection e with _ e2 _; omega))).trans (World.cell?_of_block ((hgrow.block pb (by simp; omega) (fun e => (r5 pb e.symm).2 rfl)).trans ((Below.heap_alloc _ _ _ (by omega)).trans (hb1.block pb hlt))))⟩
  · simp only [if_pos hlt]; exact r1
  · exact World.cell?_setCell_same' _ _ _ (by rw [hc2]; rfl)
  · rw [World.frozen?_setCell]; exact hf2
  · rw [List.length_append]
    exact owns_same hown2 fun b e => Below.heap_setCell _ _ _ _ (by cases e; exact hg1)
  · intro b e
    cases e
    refine ⟨?_, hg1⟩
    show (if gg < w.heap.size then χ gg else if gg < w1.heap.size then c + 1 else c) = c
    rcases hat with h | h
    · have := (r4.lt gg h).2
      rw [if_pos this]; exact (r5 gg h).1
    · rw [if_neg (by omega), if_neg (by omega)]
  · intro i hi
    by_cases hi' : i < sets.length
    · rw [List.getElem_append_left hi', List.drop_append_of_le_length (by omega), List.take_append_of_le_length (by simp; omega)]
      refine rSl_on (D := fun x => x = c + 1) (by omega) (rInt_on _ _) rfl _ _ _ _ _ _ (r6 i hi') fun b hb hc => ⟨if_pos hb, ?_⟩
      rw [hold b (by omega) (fun e => by subst e; omega) (fun e => by have := (r5 b e.symm).1; omega)]
      exact hb1.block b hb
    · have hie : i = sets.length := by simp at hi; omega
      subst hie
      have e1 : List.take 1 (List.drop sets.length (vs ++ [.slice A' xs.length cap'])) = [.slice A' xs.length cap'] := by rw [← hvs, List.drop_left]; rfl
      rw [List.getElem_append_right (by omega), e1]
      simp only [Nat.sub_self, List.getElem_cons_zero]
      refine ⟨_, rfl, isI_owns (owns_same hown1 fun b e => ?_) (by omega) fun b e => ?_⟩
      · have := hown1.lt b e
        exact hold b this.2 (by omega) (fun e2 => by have := (r4.lt b e2.symm).2; omega)
      · have := hown1.lt b e
        simp only [if_neg (show ¬ b < w.heap.size by omega), if_pos this.2]
  · refine ⟨?_, ?_, ?_, ?_, fun b hb hc => ?_⟩
    · exact hgrow.os.trans hb1.os
    · exact hgrow.tape.trans hb1.tape
    · exact hgrow.output.trans hb1.output
    · simp [World.setCell]; omega
    · rw [hold b (by omega) (fun e => hc (by rw [e]; exact r1)) (fun e => hc (r5 b e.symm).1)]
      exact hb1.block b hb

attribute [local go_sem ↓] Go.wp_at_zero Go.wp_at_succ
set_option maxHeartbeats 2000000 in
theorem add_yes (w : World) (pb : Nat) (v : Value) (xs : List Int) {cl c : Nat} {χ χa : Col} {sets : List (List Int)} (hR : RecAt c χ w pb sets) (h : IsI cl χa w v xs) (hl : xs.length ≤ 1000000) (hn : sets.length ≤ 1000000)
    (HR : Hid (rightM 0 xs = true)) :
    Calls Try.prog 26 #[.pointer (some ⟨pb, 3, none⟩), v] w fun e w' => e = .returned (.int .i64 0) ∧
      ∃ χ', (∀ b, b < w.heap.size → χ' b = χ b) ∧ RecAt c χ' w' pb (sets ++ [xs]) ∧ Chg χ (· = c) w w' ∧ (∀ j, j ≠ 3 → w'.cell? ⟨pb, j, none⟩ = w.cell? ⟨pb, j, none⟩) := by
  obtain ⟨rv, vs, r1, r2, r3, r4, r5, r6⟩ := hR
  obtain ⟨i0, hi0, hz0, hz1, hz2⟩ := info_parts infoII
  have hlt : pb < w.heap.size := by have := World.block_lt_of_cell? w _ r2; simpa using this
  have R6 := Lib.hid r6; clear r6
  have R5 := Lib.hid r5; clear r5
  have R1 := Lib.hid r1; clear r1
  go_enter Try.func26, Try.ntmps26
  go_wp2_with fail
  refine (right_calls _ _ _ h).mono ?_
  rintro e w' ⟨rfl, rfl⟩
  rw [HR.out]
  go_wp2
  go_region_law
    (first
      | (go_simp; go_at_call 37; refine (cloneI_calls _ _ _ (by exact h) hl).mono ?_; rintro e w1 ⟨A', cap', rfl, hown1, hb1⟩; obtain ⟨hc1, hf1⟩ := keep_below (a := ⟨pb, 3, none⟩) hb1 r2 r3; have hca := fun o => (keep_alloc (a := ⟨pb, 3, none⟩) o hc1 hf1).1)
      | (refine step_append_lies _ (by rfl) _ _ _ (by rfl) 0 24 i0 _ 1 24 Try.underlying22 hi0 hz0 hz1 hz2 rfl (by omega) rv sets.length vs (by rfl) (owns_same r4 (fun b e => (Below.heap_alloc _ _ _ (by have := hb1.size; have := (r4.lt b e).2; simp at *; omega)).trans (hb1.block b (by have := (r4.lt b e).2; simpa using this)))) ⟨w1.heap.size, 0, none⟩ 1 1 [.slice A' xs.length cap'] (by rfl) (by rfl) (World.news_of_block (cs := #[.slice A' xs.length cap']) (t := 24) (fr := (0, 0)) (heap_alloc_new w1 _)) (by simp [Value.oneCell']) (by omega) (by unfold maxLen; omega) (by omega) (by simp) (w1.heap.size + 1) (by simp) ?_; intro gg cap w2 hown2 hgrow hat hlt2; obtain ⟨hc2, hf2⟩ := keep_grown (a := ⟨pb, 3, none⟩) hgrow (fun e => (R5.out pb e.symm).2 rfl) (keep_alloc (a := ⟨pb, 3, none⟩) _ hc1 hf1).1 (keep_alloc (a := ⟨pb, 3, none⟩) _ hc1 hf1).2))
  all_goals go_wp2
  all_goals go_ret
  all_goals exact ⟨rfl, add_close hl R1.out r2 r4 R5.out R6.out hown1 (undrew hb1) hown2 hgrow hat hc2 hf2⟩
end Go.Proofs.Ytpchodnknkdlgaa
