import Derived.Test.YtfapeemdlphjbaaDoorDtB
import Derived.Test.YtfapeemdlphjbaaDoorArK
namespace Go.Proofs.YtfapeemdlphjbaaDoor
open Go.RowKit
attribute [local go_sem] World.cell?_alloc_some frozen_alloc_some

/-- few grants, of few spans. -/
def FewG (l : List Gr) : Prop := ∀ g ∈ l, Sm 20 g.ar ∧ g.ar.length ≤ 20
theorem ofT_snoc (l : List Gr) (k : Nat) (hk : k < l.length) (ten : Int) (wr : Bool) : ofT (l.take (k + 1)) ten wr = ofT (l.take k) ten wr ++ if (l[k].ten == ten && l[k].wr == wr) = true then [l[k]] else [] := by
  rw [List.take_succ_eq_append_getElem hk]; exact ofT_more _ _ _ _
theorem rdG_wf {w : World} {v : Value} {l : List Gr} (h : RdG w v l) : ∀ g ∈ l, ∀ s ∈ g.ar, WfS s := fun g hg => by
  obtain ⟨i, hi, rfl⟩ := List.getElem_of_mem hg
  obtain ⟨A, cap, rfl, -⟩ := id h
  obtain ⟨b, o, u, -, -, -, -, -, -, -, -, hu⟩ := h.get i hi
  exact rdA_wf hu

set_option maxRecDepth 100000 in
set_option maxHeartbeats 8000000 in
theorem dunion_calls (w : World) (v : Value) (l : List Gr) (ten : Int) (kd : Bool) (hr : RdG w v l) (hl : l.length ≤ 21) (hf : FewG l) :
    Calls Tryd.prog 25 #[v, .int .i64 ten, .bool kd] w fun e w' => ∃ v' r, e = .returned v' ∧ RdA w' v' r ∧ IsUn (ofT l ten kd) r ∧ Sm (20 * l.length) r ∧ r.length ≤ 20 ∧ Below w.heap.size w w' := by
  obtain ⟨A, cap, rfl, a1, a2, a3, -⟩ := id hr
  unfold maxLen at a2
  have ha63 := a3.1
  clear a3
  have HR := Lib.hid hr
  have HF := Lib.hid hf
  have HW := Lib.hid (rdG_wf hr)
  clear hr hf
  go_enter Tryd.func25, Tryd.ntmps25
  go_wp2
  go_loopw [7, 12] (fun o i wr => ∃ (k : Nat) (r : Ar), k ≤ l.length ∧ i = .int .i64 k ∧ Hid (RdA wr o r ∧ IsUn (ofT (l.take k) ten kd) r ∧ Sm (20 * k) r ∧ r.length ≤ 20) ∧ Below w.heap.size w wr) (fun _ i _ => l.length - (intOf i).toNat)
  case atStart => exact ⟨0, [], by omega, rfl, ⟨RdA.nil, by rw [List.take_zero]; exact IsUn.nil, fun s hs => by simp at hs, by simp⟩, Below.refl _ _⟩
  case round =>
    obtain ⟨k, r, hk, rfl, HI, hb⟩ := hrel
    obtain ⟨Ao, co, rfl, -⟩ := id HI.out.1
    by_cases hlt : k < l.length
    · obtain ⟨gb, go, u, rfl, c0, c1, c2, c3, c4, c5, c6, hu⟩ := (HR.out.keep hb).get k hlt
      have HS := Lib.hid (ofT_snoc l k hlt ten kd)
      have hfk := HF.out _ (List.getElem_mem hlt)
      have hwk := Lib.hid (HW.out _ (List.getElem_mem hlt))
      obtain ⟨⟨gp, gh, gt, gd, gw, ga, ge⟩, hg⟩ : ∃ g, g = l[k] := ⟨_, rfl⟩
      rw [← hg] at c0 c1 c2 c3 c4 c6 hu HS hfk hwk
      dsimp only at c0 c1 c2 c3 c4 c6 hu hfk
      obtain ⟨A', c', rfl, -⟩ := id hu
      have HU := Lib.hid hu
      have HFK := Lib.hid hfk
      clear hg hu hfk
      by_cases hsame : gt = ten ∧ gw = kd
      · obtain ⟨rfl, rfl⟩ := hsame
        have HS2 : Hid (ofT (l.take (k + 1)) gt gw = ofT (l.take k) gt gw ++ [⟨gp, gh, gt, gd, gw, ga, ge⟩]) := by
          show _ = _; rw [HS.out, if_pos (by simp)]
        clear HS
        go_wp2_with fail
        refine (area_union _ _ _ r ga (20 * k) 20 (HI.out.1.keep ((Below.refl wr.heap.size wr).alloc (Nat.le_refl _) _)) (HU.out.keep ((Below.refl wr.heap.size wr).alloc (Nat.le_refl _) _)) (by have := HI.out.2.2.2; omega) (by have := HFK.out.2; omega) HI.out.2.2.1 HFK.out.1 (by omega) (by omega)).mono ?_
        rintro e w1 ⟨v1, u, rfl, R1, hul, hset, -, hb1⟩
        have hba := (hb.alloc hb.size (.cells #[.int .i64 gp, .int .i64 gh, .int .i64 gt, .int .i64 gd, .bool gw, .slice A' ga.length c', .int .i64 ge] 31))
        have hb2 := hba.trans (hb1.mono hba.size)
        have HN : Hid (RdA w1 v1 u ∧ IsUn (ofT (l.take (k + 1)) gt gw) u ∧ Sm (20 * (k + 1)) u ∧ u.length ≤ 20) := by
          refine ⟨R1, by rw [HS2.out]; exact HI.out.2.1.snoc hset, ?_, by rw [hul]; have := HI.out.2.2.2; have := HFK.out.2; omega⟩
          have := union_sm (rdA_wf HI.out.1) hwk.out HI.out.2.2.1 HFK.out.1 hset
          rw [show 20 * (k + 1) = 20 * k + 20 by omega]; exact this
        obtain ⟨A1, c1', rfl, -⟩ := id R1
        clear R1 hul hset hb1 hba HI HU HFK hwk HS2
        go_wp2
        exact ⟨⟨k + 1, u, hlt, by go_num, HN, hb2⟩, by simp [intOf]; omega⟩
      · have hba := (hb.alloc hb.size (.cells #[.int .i64 gp, .int .i64 gh, .int .i64 gt, .int .i64 gd, .bool gw, .slice A' ga.length c', .int .i64 ge] 31))
        have HN : Hid (RdA (wr.alloc (.cells #[.int .i64 gp, .int .i64 gh, .int .i64 gt, .int .i64 gd, .bool gw, .slice A' ga.length c', .int .i64 ge] 31)) (.slice Ao r.length co) r ∧ IsUn (ofT (l.take (k + 1)) ten kd) r ∧ Sm (20 * (k + 1)) r ∧ r.length ≤ 20) := by
          refine ⟨HI.out.1.keep ((Below.refl wr.heap.size wr).alloc (Nat.le_refl _) _), ?_, HI.out.2.2.1.mono (by omega), HI.out.2.2.2⟩
          rw [HS.out, if_neg (by simpa using hsame), List.append_nil]; exact HI.out.2.1
        clear HI HU HFK hwk HS
        by_cases ht : gt = ten
        · obtain rfl := ht
          have hk : gw ≠ kd := fun h => hsame ⟨rfl, h⟩
          clear hsame
          cases gw <;> cases kd <;> first | (exact absurd rfl hk) | skip
          all_goals
            clear hk
            go_wp2
            exact ⟨⟨k + 1, r, hlt, by go_num, HN, hba⟩, by simp [intOf]; omega⟩
        · clear hsame
          go_wp2
          exact ⟨⟨k + 1, r, hlt, by go_num, HN, hba⟩, by simp [intOf]; omega⟩
    · have hke : k = l.length := by omega
      subst hke
      have HI2 := HI.out
      rw [List.take_length] at HI2
      have HI3 := Lib.hid HI2
      clear HI2
      go_wp2
      go_ret
      exact ⟨_, r, rfl, HI3.out.1, HI3.out.2.1, HI3.out.2.2.1, HI3.out.2.2.2, hb⟩
theorem reads_calls (w : World) (v : Value) (l : List Gr) (ten : Int) (hr : RdG w v l) (hl : l.length ≤ 21) (hf : FewG l) :
    Calls Tryd.prog 11 #[v, .int .i64 ten] w fun e w' => ∃ v' r, e = .returned v' ∧ RdA w' v' r ∧ IsUn (ofT l ten false) r ∧ Sm (20 * l.length) r ∧ r.length ≤ 20 ∧ Below w.heap.size w w' := by
  obtain ⟨A, cap, rfl, -⟩ := id hr
  have HC := Lib.hid (dunion_calls w _ l ten false hr hl hf)
  clear hr hl hf
  go_enter Tryd.func11, Tryd.ntmps11
  go_wp2_with fail
  refine HC.out.mono ?_
  rintro e w1 ⟨v1, r, rfl, R1, h1, h2, h3, hb1⟩
  obtain ⟨A1, c1, rfl, -⟩ := id R1
  have HR1 := Lib.hid (And.intro R1 (And.intro h1 h2))
  clear R1 h1 h2
  go_wp2
  go_ret
  exact ⟨_, r, rfl, HR1.out.1, HR1.out.2.1, HR1.out.2.2, h3, hb1⟩
theorem writes_calls (w : World) (v : Value) (l : List Gr) (ten : Int) (hr : RdG w v l) (hl : l.length ≤ 21) (hf : FewG l) :
    Calls Tryd.prog 12 #[v, .int .i64 ten] w fun e w' => ∃ v' r, e = .returned v' ∧ RdA w' v' r ∧ IsUn (ofT l ten true) r ∧ Sm (20 * l.length) r ∧ r.length ≤ 20 ∧ Below w.heap.size w w' := by
  obtain ⟨A, cap, rfl, -⟩ := id hr
  have HC := Lib.hid (dunion_calls w _ l ten true hr hl hf)
  clear hr hl hf
  go_enter Tryd.func12, Tryd.ntmps12
  go_wp2_with fail
  refine HC.out.mono ?_
  rintro e w1 ⟨v1, r, rfl, R1, h1, h2, h3, hb1⟩
  obtain ⟨A1, c1, rfl, -⟩ := id R1
  have HR1 := Lib.hid (And.intro R1 (And.intro h1 h2))
  clear R1 h1 h2
  go_wp2
  go_ret
  exact ⟨_, r, rfl, HR1.out.1, HR1.out.2.1, HR1.out.2.2, h3, hb1⟩
end Go.Proofs.YtfapeemdlphjbaaDoor
