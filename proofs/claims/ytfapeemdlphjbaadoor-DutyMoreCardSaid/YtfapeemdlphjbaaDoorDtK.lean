import Derived.Test.YtfapeemdlphjbaaDoorDtJ
import Derived.Test.YtfapeemdlphjbaaDoorArH
import Derived.Test.YtfapeemdlphjbaaDoorArP
namespace Go.Proofs.YtfapeemdlphjbaaDoor
open Go.RowKit
attribute [local go_sem] World.cell?_alloc_some frozen_alloc_some

def gA : Gr := ⟨0, 0, 0, 0, false, [[(1, 5)]], 0⟩
def gB : Gr := ⟨0, 0, 0, 0, true, [[(5, 9)]], 0⟩
theorem meets_ab : meetsB [[(1, 5)]] [[(5, 9)]] = true := meetsB_iff.2 ⟨0, 5, by simp [atA, Mem], by simp [atA, Mem]⟩
theorem cl_gl0 : clL [gA, gB] 0 = [(0, 1)] := by
  simp [clL, List.range, List.range.loop, clB, gA, gB, meets_ab]
theorem cl_gl1 : clL [gA, gB] 1 = [] := by
  simp [clL, List.range, List.range.loop, clB, gA, gB]
theorem chk_a : chk [gA, gB] [true] = true := by simp [chk, chkTo, badB, List.range, List.range.loop, cl_gl0]
theorem chk_b : chk [gA, gB] [false] = false := by simp [chk, chkTo, List.range, List.range.loop]
theorem chk_c : chk [gA, gB] [false, true] = false := by simp [chk, chkTo, badB, List.range, List.range.loop, cl_gl1]
theorem few_gl : FewG [gA, gB] := fun g hg => by
  simp at hg; rcases hg with rfl | rfl <;> exact ⟨by unfold Sm; decide, by decide⟩
theorem in_reads {r : Ar} (h : IsUn (ofT [gA, gB] 0 false) r) : inA r 0 1 = true := by
  have : Mem 1 (atA r 0) := ((h 0).iff 1).2 ⟨gA, by simp [ofT, gA], by simp [gA, atA, Mem]⟩
  unfold inA; simpa using memB_iff.2 this
theorem in_writes {r : Ar} (h : IsUn (ofT [gA, gB] 0 true) r) : inA r 0 9 = true := by
  have : Mem 9 (atA r 0) := ((h 0).iff 9).2 ⟨gB, by simp [ofT, gB], by simp [gB, atA, Mem]⟩
  unfold inA; simpa using memB_iff.2 this
theorem of1d : ofL 1 (bitsN 1) (nf [(1, 5)]) = [[(1, 5)]] := by decide
theorem of2d : ofL 1 (bitsN 1) (nf [(5, 9)]) = [[(5, 9)]] := by decide
theorem rdG2 {w : World} {b : Nat} {t : TypeId} {fr : Nat × Nat} {u v : Value} (h : w.heap[b]? = some (.cells #[.int .i64 0, .int .i64 0, .int .i64 0, .int .i64 0, .bool false, u, .int .i64 0, .int .i64 0, .int .i64 0, .int .i64 0, .int .i64 0, .bool true, v, .int .i64 0] t fr))
    (hu : RdA w u [[(1, 5)]]) (hv : RdA w v [[(5, 9)]]) : RdG w (.slice (some ⟨b, 0, none⟩) 2 2) [gA, gB] := by
  refine ⟨_, _, rfl, Nat.le_refl _, by unfold maxLen; omega, ⟨by decide, fun h => by cases h⟩, fun i hi => ?_⟩
  match i, hi with
  | 0, _ => exact ⟨b, 0, _, rfl, rfl, rfl, ⟨u, rfl, hu⟩, fun j hj => by
      have hj7 : j < 7 := hj
      match j, hj7 with
      | 0, _ | 1, _ | 2, _ | 3, _ | 4, _ | 5, _ | 6, _ => simp [World.cell?, h, gA]⟩
  | 1, _ => exact ⟨b, 0, _, rfl, rfl, rfl, ⟨v, rfl, hv⟩, fun j hj => by
      have hj7 : j < 7 := hj
      match j, hj7 with
      | 0, _ | 1, _ | 2, _ | 3, _ | 4, _ | 5, _ | 6, _ => simp [World.cell?, h, gB]⟩
theorem rdB_at {w : World} {b : Nat} {t : TypeId} {fr : Nat × Nat} (l : List Bool) (h : w.heap[b]? = some (.cells (l.map Value.bool).toArray t fr)) (hl : l.length ≤ 1000000) (n : Nat) (hn : n = l.length) : RdB w (.slice (some ⟨b, 0, none⟩) n n) l := by
  subst hn
  refine ⟨_, _, rfl, Nat.le_refl _, by unfold maxLen; omega, ⟨by omega, fun h => by cases h⟩, fun i hi => ⟨b, 0, [.bool l[i]], rfl, rfl, rfl, rfl, fun j hj => ?_⟩⟩
  have hj0 : j = 0 := by simpa using hj
  subst hj0
  simp [World.cell?, h, hi]
theorem keep_c {W W' : World} {a : Addr} {v : Value} (hb : Below W.heap.size W W') (h : W.cell? a = some v) : W'.cell? a = some v := (hb.cell (World.block_lt_of_cell? _ _ h)).trans h
theorem a1 {W : World} (o : Obj) : Below W.heap.size W (W.alloc o) := (Below.refl _ _).alloc (Nat.le_refl _) o

set_option maxRecDepth 100000 in
set_option maxHeartbeats 8000000 in
theorem alive_calls (w : World) (hT : Tab w) : Calls Tryd.prog 6 #[] w fun e w' => e = .returned (.bool true) ∧ Below w.heap.size w w' := by
  have hb0 := a1 (W := w) (.cells ([(1, 5)].flatMap spc).toArray 44)
  have HL0 := Lib.hid (rdS_at [(1, 5)] (heap_alloc_at w _) (by decide) (by decide) 1 rfl : RdS (w.alloc (.cells ([(1, 5)].flatMap spc).toArray 44)) _ _)
  have HT := Lib.hid (hT.keep hb0)
  have hbw := hb0
  clear hT hb0
  go_enter Tryd.func6, Tryd.ntmps6
  go_wp2_with fail
  refine (of_calls _ 1 1 _ [(1, 5)] HL0.out (by decide) (by decide) HT.out).mono ?_
  rw [show (min (max (1 : Int) 0) 16).toNat = 1 by decide, of1d]
  rintro e W1 ⟨χa, rfl, O, hb⟩
  obtain ⟨ga, hga⟩ : ∃ g, g = (w.alloc (.cells ([(1, 5)].flatMap spc).toArray 44)).heap.size + 1 := ⟨_, rfl⟩
  rw [← hga] at O ⊢
  have hR := O.rd (by decide)
  have HT := Lib.hid (HT.out.keep hb)
  have hbw := hbw.trans (hb.mono hbw.size)
  have hbX := a1 (W := W1) (.cells #[.int .i64 0, .int .i64 0, .int .i64 0, .int .i64 0, .bool false, .slice (some ⟨ga, 0, none⟩) 1 1, .int .i64 0] 31)
  obtain ⟨⟨c0, c1, c2, c3, c4, c5, c6⟩, -⟩ := cells7 (heap_alloc_at W1 (.cells #[.int .i64 0, .int .i64 0, .int .i64 0, .int .i64 0, .bool false, .slice (some ⟨ga, 0, none⟩) 1 1, .int .i64 0] 31))
  obtain ⟨X1, hX1⟩ : ∃ X1, X1 = W1.alloc (.cells #[.int .i64 0, .int .i64 0, .int .i64 0, .int .i64 0, .bool false, .slice (some ⟨ga, 0, none⟩) 1 1, .int .i64 0] 31) := ⟨_, rfl⟩
  have hbY := a1 (W := X1) (.cells ([(5, 9)].flatMap spc).toArray 44)
  have HLB := Lib.hid (rdS_at [(5, 9)] (heap_alloc_at X1 _) (by decide) (by decide) 1 rfl : RdS (X1.alloc (.cells ([(5, 9)].flatMap spc).toArray 44)) _ _)
  rw [← hX1] at hbX c0 c1 c2 c3 c4 c5 c6
  have HR := Lib.hid ((hR.keep hbX).keep hbY)
  have HT := Lib.hid ((HT.out.keep hbX).keep hbY)
  have hbw := (hbw.trans (hbX.mono hbw.size))
  have hbw := hbw.trans (hbY.mono hbw.size)
  have hxs : X1.heap.size = W1.heap.size + 1 := by rw [hX1]; simp
  rw [hxs] at HLB
  clear O hR hb hga hbX
  go_wp2_with fail
  rw [← hX1]
  clear hX1
  refine (of_calls _ 1 1 _ [(5, 9)] HLB.out (by decide) (by decide) HT.out).mono ?_
  rw [show (min (max (1 : Int) 0) 16).toNat = 1 by decide, of2d]
  rintro e W2 ⟨χb, rfl, O, hb⟩
  obtain ⟨gb, hgb⟩ : ∃ g, g = (X1.alloc (.cells ([(5, 9)].flatMap spc).toArray 44)).heap.size + 1 := ⟨_, rfl⟩
  rw [← hgb] at O ⊢
  have hR2 := O.rd (by decide)
  have hbZ := hbY.trans (hb.mono hbY.size)
  replace HR := Lib.hid (HR.out.keep hb)
  have hbw := hbw.trans (hb.mono hbw.size)
  replace c0 := keep_c hbZ c0
  replace c1 := keep_c hbZ c1
  replace c2 := keep_c hbZ c2
  replace c3 := keep_c hbZ c3
  replace c4 := keep_c hbZ c4
  replace c5 := keep_c hbZ c5
  replace c6 := keep_c hbZ c6
  clear HLB HT HL0 hbY hxs hgb
  have hbU := a1 (W := W2) (.cells #[.int .i64 0, .int .i64 0, .int .i64 0, .int .i64 0, .bool true, .slice (some ⟨gb, 0, none⟩) 1 1, .int .i64 0] 31)
  have hbV := a1 (W := W2.alloc (.cells #[.int .i64 0, .int .i64 0, .int .i64 0, .int .i64 0, .bool true, .slice (some ⟨gb, 0, none⟩) 1 1, .int .i64 0] 31)) (.cells #[.int .i64 0, .int .i64 0, .int .i64 0, .int .i64 0, .bool false, .slice (some ⟨ga, 0, none⟩) 1 1, .int .i64 0, .int .i64 0, .int .i64 0, .int .i64 0, .int .i64 0, .bool true, .slice (some ⟨gb, 0, none⟩) 1 1, .int .i64 0] 31)
  have hhV := heap_alloc_at (W2.alloc (.cells #[.int .i64 0, .int .i64 0, .int .i64 0, .int .i64 0, .bool true, .slice (some ⟨gb, 0, none⟩) 1 1, .int .i64 0] 31)) (.cells #[.int .i64 0, .int .i64 0, .int .i64 0, .int .i64 0, .bool false, .slice (some ⟨ga, 0, none⟩) 1 1, .int .i64 0, .int .i64 0, .int .i64 0, .int .i64 0, .int .i64 0, .bool true, .slice (some ⟨gb, 0, none⟩) 1 1, .int .i64 0] 31)
  have HG := Lib.hid (rdG2 hhV ((HR.out.keep hbU).keep hbV) ((hR2.keep hbU).keep hbV))
  rw [World.size_alloc] at HG
  have hbw := hbw.trans (hbU.mono hbw.size)
  have hbw := hbw.trans (hbV.mono hbw.size)
  clear hhV hR2 O hb hbZ HR hbU hbV
  go_wp2_with fail
  clear c0 c1 c2 c3 c4 c5 c6
  obtain ⟨X3, hX3⟩ : ∃ X3, X3 = (W2.alloc (.cells #[.int .i64 0, .int .i64 0, .int .i64 0, .int .i64 0, .bool true, .slice (some ⟨gb, 0, none⟩) 1 1, .int .i64 0] 31)).alloc (.cells #[.int .i64 0, .int .i64 0, .int .i64 0, .int .i64 0, .bool false, .slice (some ⟨ga, 0, none⟩) 1 1, .int .i64 0, .int .i64 0, .int .i64 0, .int .i64 0, .int .i64 0, .bool true, .slice (some ⟨gb, 0, none⟩) 1 1, .int .i64 0] 31) := ⟨_, rfl⟩
  have hx3 : W2.heap.size + 1 + 1 = X3.heap.size := by rw [hX3]; simp
  rw [← hX3] at HG hbw ⊢
  rw [hx3]
  clear hX3 hx3
  have hb1 := a1 (W := X3) (.cells #[.bool true] 4)
  have HB1 := Lib.hid (rdB_at [true] (heap_alloc_at X3 (.cells #[.bool true] 4)) (by decide) 1 rfl)
  refine (check_calls _ _ _ [gA, gB] [true] (HG.out.keep hb1) HB1.out (by decide) few_gl).mono ?_
  rw [chk_a]
  rintro e W4 ⟨he, hb⟩
  obtain rfl : e = .returned (.int .i64 37) := he
  have hbc := hb1.trans (hb.mono hb1.size)
  replace HG := Lib.hid (HG.out.keep hbc)
  have hbw := hbw.trans (hbc.mono hbw.size)
  clear hb1 hb hbc HB1
  go_wp2_with fail
  refine (lclashes_calls _ _ [gA, gB] 0 9 HG.out few_gl (by rw [cl_gl0]; decide)).mono ?_
  rw [cl_gl0]
  rintro e W5 ⟨vx, vy, rfl, hx, hy, hb⟩
  replace HG := Lib.hid (HG.out.keep hb)
  have hbw := hbw.trans (hb.mono hbw.size)
  obtain ⟨A1, c1, rfl⟩ : ∃ A c, vx = .slice A 1 c := hx.form
  obtain ⟨gy, cy, rfl⟩ := ownsRow_succ (show W5.ownsRow 0 3 1 vy (0 + 1) (nums [1]) from hy.1)
  have y0 : W5.cell? ⟨gy, 0, none⟩ = some (.int .i64 1) := hy.1.cells (g := gy) rfl 0 (.int .i64 1) rfl
  clear hx hy hb
  go_wp2_with fail
  have hb1 := a1 (W := W5) (.cells #[.bool false] 4)
  have HB1 := Lib.hid (rdB_at [false] (heap_alloc_at W5 (.cells #[.bool false] 4)) (by decide) 1 rfl)
  refine (check_calls _ _ _ [gA, gB] [false] (HG.out.keep hb1) HB1.out (by decide) few_gl).mono ?_
  rw [chk_b]
  rintro e W6 ⟨he, hb⟩
  obtain rfl : e = .returned (.int .i64 0) := he
  have hbc := hb1.trans (hb.mono hb1.size)
  replace HG := Lib.hid (HG.out.keep hbc)
  replace y0 := keep_c hbc y0
  have hbw := hbw.trans (hbc.mono hbw.size)
  clear hb1 hb hbc HB1
  go_wp2_with fail
  have hb1 := a1 (W := W6) (.cells #[.bool false, .bool true] 4)
  have HB1 := Lib.hid (rdB_at [false, true] (heap_alloc_at W6 (.cells #[.bool false, .bool true] 4)) (by decide) 2 rfl)
  refine (check_calls _ _ _ [gA, gB] [false, true] (HG.out.keep hb1) HB1.out (by decide) few_gl).mono ?_
  rw [chk_c]
  rintro e W7 ⟨he, hb⟩
  obtain rfl : e = .returned (.int .i64 0) := he
  have hbc := hb1.trans (hb.mono hb1.size)
  replace HG := Lib.hid (HG.out.keep hbc)
  replace y0 := keep_c hbc y0
  have hbw := hbw.trans (hbc.mono hbw.size)
  clear hb1 hb hbc HB1
  go_wp2_with fail
  refine (reads_calls _ _ [gA, gB] 0 HG.out (by decide) few_gl).mono ?_
  rintro e W8 ⟨v8, r, rfl, R8, hu, -, -, hb⟩
  have HI := Lib.hid (in_reads hu)
  have HR := Lib.hid R8
  obtain ⟨A8, c8, rfl, -⟩ := id R8
  replace HG := Lib.hid (HG.out.keep hb)
  replace y0 := keep_c hb y0
  have hbw := hbw.trans (hb.mono hbw.size)
  clear hb hu R8
  go_wp2_with fail
  refine (has_b _ _ r 0 1 true HR.out HI.out).mono ?_
  rintro e W9 ⟨rfl, hb⟩
  replace HG := Lib.hid (HG.out.keep hb)
  replace y0 := keep_c hb y0
  have hbw := hbw.trans (hb.mono hbw.size)
  clear hb HI HR
  go_wp2_with fail
  refine (writes_calls _ _ [gA, gB] 0 HG.out (by decide) few_gl).mono ?_
  rintro e Wa ⟨v8, r, rfl, R8, hu, -, -, hb⟩
  have HI := Lib.hid (in_writes hu)
  have HR := Lib.hid R8
  obtain ⟨A9, c9, rfl, -⟩ := id R8
  replace y0 := keep_c hb y0
  have hbw := hbw.trans (hb.mono hbw.size)
  clear hb hu R8 HG
  go_wp2_with fail
  refine (has_b _ _ r 0 9 true HR.out HI.out).mono ?_
  rintro e Wb ⟨rfl, hb⟩
  replace y0 := keep_c hb y0
  have hbw := hbw.trans (hb.mono hbw.size)
  clear hb HI HR
  go_wp2
  go_ret
  exact ⟨rfl, hbw⟩
end Go.Proofs.YtfapeemdlphjbaaDoor
