import Derived.Test.YtcdldjiogoapkaaSgAF
namespace Go.Proofs.Ytcdldjiogoapkaa
open Go.RowKit
attribute [local go_sem] World.cell?_alloc_some frozen_alloc_some field_na field_ac field_as

set_option maxRecDepth 100000 in
set_option maxHeartbeats 4000000 in
theorem alive_calls (w : World) : Calls Try.prog 9 #[] w fun e w' => e = .returned (.bool true) ∧ Below w.heap.size w w' := by
  go_enter Try.func9, Try.ntmps9
  go_wp2_with fail
  refine (s_new w 34 1 (fun _ => 0) (by decide) (by decide)).mono ?_
  rintro e w1 ⟨pt, χ1, rfl, -, ag, ht, hb⟩
  have L1 : Lw w χ1 w1 pt 34 [] [] 0 := ⟨ht.congr (by simp), hb, fun b hb => ag b hb⟩
  clear ag ht hb
  go_wp2_with fail
  refine (s_putok w1 2 33 5 L1 (by simp) (by decide) (by unfold wrap64; omega) (by decide) (by decide) (by decide)).mono ?_
  rintro e w2 ⟨rfl, hs⟩
  obtain ⟨χ2, -, -, L2⟩ := L1.put hs
  rw [show putL 2 5 [] = [(2, 5)] by decide] at L2
  clear L1 hs
  go_wp2_with fail
  refine (s_nodes w2 L2.tr).mono ?_
  rintro e w3 ⟨rfl, rfl⟩
  go_wp2_with fail
  refine (s_putok w3 3 1 (-1) L2 (by simp) (by decide) (by unfold wrap64; omega) (by decide) (by decide) (by decide)).mono ?_
  rintro e w4 ⟨rfl, hs⟩
  obtain ⟨χ4, -, -, L4⟩ := L2.put hs
  rw [show putL 3 (-1) [(2, 5)] = [(2, 5), (3, -1)] by decide] at L4
  clear L2 hs
  go_wp2_with fail
  refine (s_nodes w4 L4.tr).mono ?_
  rintro e w5 ⟨rfl, rfl⟩
  go_wp2_with fail
  refine (s_putfull w5 2147483648 32 1 L4 (by simp) (by decide) (by decide) (by decide) (by decide)).mono ?_
  rintro e w6 ⟨rfl, hs⟩
  obtain ⟨χ6, -, -, L6⟩ := L4.call hs
  clear L4 hs
  go_wp2_with fail
  refine (s_fold w6 0 9 L6.tr).mono ?_
  rintro e w7 ⟨rfl, hs⟩
  obtain ⟨χ7, -, -, L7⟩ := L6.call hs
  rw [show agV (vals (List.filter (inS 0 9) [(2, 5), (3, -1)])) = ⟨2, 4, -1, 5⟩ by simp [inS, agV, sumV, minV, maxV, wrap64]]
  clear L6 hs
  have L8 := L7.below ((Below.refl _ w7).alloc (Nat.le_refl _) (BoxA ⟨2, 4, -1, 5⟩)) 10
  have D8 := Dat.new χ7 w7 (BoxA ⟨2, 4, -1, 5⟩)
  clear L7
  simp only [Ag.val]
  go_wp2_with fail
  refine (s_get _ 3 L8.tr).mono ?_
  rintro e w9 ⟨rfl, hs⟩
  obtain ⟨χ9, ag, ch, L9⟩ := L8.call hs
  have D9 := D8.call ag ch
  rw [show agV (vals (List.filter (inS 3 3) [(2, 5), (3, -1)])) = ⟨1, -1, -1, -1⟩ by simp [inS, agV, sumV, minV, maxV, wrap64]]
  clear L8 D8 hs ag ch
  go_wp2_with fail
  refine (s_pairs1 _ 9 20 L9 (by decide) (by decide)).mono ?_
  rintro e w10 hs
  obtain ⟨A, cap, χ10, rfl, ag, ch, L10, -⟩ := L9.pairs hs (by decide)
  have D10 := D9.call ag ch
  clear L9 D9 hs ag ch
  go_wp2_with fail
  refine (s_kill _ 3 4294967295 L10.tr).mono ?_
  rintro e w11 ⟨rfl, hs⟩
  obtain ⟨χ11, ag, ch, L11⟩ := L10.call hs
  have D11 := D10.call ag ch
  rw [show agV (vals (List.filter (inS 3 4294967295) [(2, 5), (3, -1)])) = ⟨1, -1, -1, -1⟩ by simp [inS, agV, sumV, minV, maxV, wrap64]]
  rw [show List.filter (fun x => !inS 3 4294967295 x) [(2, 5), (3, -1)] = [(2, 5)] by simp [inS]] at L11
  clear L10 D10 hs ag ch
  go_wp2_with fail
  refine (s_get _ 3 L11.tr).mono ?_
  rintro e w12 ⟨rfl, hs⟩
  obtain ⟨χ12, ag, ch, L12⟩ := L11.call hs
  have D12 := D11.call ag ch
  rw [show agV (vals (List.filter (inS 3 3) [(2, 5)])) = ⟨0, 0, 0, 0⟩ by simp [inS, agV, Ag.zero]]
  clear L11 D11 hs ag ch
  obtain ⟨⟨x0, x1, x2, x3⟩, y0, y1, y2, y3⟩ := cells4 D12.at_
  go_wp2_with fail
  refine (s_drop _ 2 L12.tr).mono ?_
  rintro e w13 ⟨rfl, hs⟩
  obtain ⟨χ13, ag, ch, L13⟩ := L12.call hs
  rw [show agV (vals (List.filter (inS 2 2) [(2, 5)])) = ⟨1, 5, 5, 5⟩ by simp [inS, agV, sumV, minV, maxV, wrap64]]
  rw [show List.filter (fun x => !inS 2 2 x) [((2 : Nat), (5 : Int))] = [] by simp [inS]] at L13
  clear L12 D12 hs ag ch x0 x1 x2 x3 y0 y1 y2 y3
  go_wp2_with fail
  refine (s_drop _ 2 L13.tr).mono ?_
  rintro e w14 ⟨rfl, hs⟩
  obtain ⟨χ14, ag, ch, L14⟩ := L13.call hs
  rw [show agV (vals (List.filter (inS 2 2) [])) = ⟨0, 0, 0, 0⟩ by simp [agV, Ag.zero]]
  go_wp2
  go_ret
  exact ⟨rfl, L14.bel⟩
end Go.Proofs.Ytcdldjiogoapkaa
