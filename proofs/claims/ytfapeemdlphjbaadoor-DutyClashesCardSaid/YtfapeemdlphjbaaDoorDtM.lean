import Derived.Test.YtfapeemdlphjbaaDoorDtL
namespace Go.Proofs.YtfapeemdlphjbaaDoor
open Go.RowKit
attribute [local go_sem] World.cell?_alloc_some frozen_alloc_some

set_option maxRecDepth 100000 in
set_option maxHeartbeats 8000000 in
theorem dclashes_law (w : World) (v : Value) (l : List Gr) (ten : Int) (hr : RdG w v l) (_ : (Lit.int .i64 ten).wf = true) (hT : Tab w) :
    Calls Tryd.prog 3 #[v, .int .i64 ten] w fun e w' => e = .returned (.bool true) ∧ Below w.heap.size w w' := by
  obtain ⟨A, cap, rfl, a1', a2, a3, -⟩ := id hr
  unfold maxLen at a2
  have ha63 := a3.1
  clear a3
  have HR := Lib.hid hr
  have HA := Lib.hid (alive_calls w hT)
  clear hr hT
  go_enter Tryd.func3, Tryd.ntmps3
  go_wp2_with fail
  refine HA.out.mono ?_
  rintro e W1 ⟨rfl, hb⟩
  replace HR := Lib.hid (HR.out.keep hb)
  have hbw := hb
  clear hb HA
  go_wp2_with fail
  refine (fewg_calls _ _ l HR.out).mono ?_
  obtain ⟨q, hq⟩ : ∃ q, q = fewGB l := ⟨_, rfl⟩
  rw [← hq]
  have HQ := Lib.hid hq
  clear hq
  rintro e W2 ⟨rfl, hb⟩
  replace HR := Lib.hid (HR.out.keep hb)
  have hbw := hbw.trans (hb.mono hbw.size)
  clear hb
  cases q with
  | false =>
    go_wp2
    go_ret
    exact ⟨rfl, hbw⟩
  | true =>
    obtain ⟨hf, hl20⟩ := fewGB_iff.1 HQ.out.symm
    have HF := Lib.hid hf
    clear HQ hf
    obtain ⟨k, hk15, hbits⟩ := and15 ten
    have hmk := fun u => make_bo (k + 1) (by omega) u
    have hcast : ((k + 1 : Nat) : Int) = (k : Int) + 1 := by omega
    rw [hcast] at hmk
    clear hcast
    obtain ⟨m1, m2, m3, m4⟩ := made_bo W2 (k + 1) k true (by omega) (by omega)
    have M3 := Lib.hid m3
    have M4 := Lib.hid m4
    clear m3 m4
    go_wp2_with fail
    obtain ⟨W3, hW3⟩ : ∃ W3, W3 = W2.alloc (.cells ((madeCells #[.bool false] (k + 1)).setIfInBounds k (.bool true)) 4) := ⟨_, rfl⟩
    rw [← hW3] at M3 M4 ⊢
    have HB := Lib.hid M3.out
    replace HR := Lib.hid (HR.out.keep M4.out)
    have hbw := hbw.trans (M4.out.mono hbw.size)
    clear hW3 M3 M4 m1 m2 hbits
    have hlen : (clL l k).length ≤ 1000000 := clL_le l k (by omega)
    refine (lclashes_calls _ _ l k 1 HR.out HF.out hlen).mono ?_
    rintro e W4 ⟨vx, vy, rfl, hx, hy, hb⟩
    replace HR := Lib.hid (HR.out.keep hb)
    replace HB := Lib.hid (HB.out.keep hb)
    have hbw := hbw.trans (hb.mono hbw.size)
    obtain ⟨Ax, cx, hvx⟩ := hx.form
    obtain ⟨Ay, cy, hvy⟩ := hy.form
    rw [show (1 : Int).toNat = 1 from rfl, take1_len] at hvx
    obtain ⟨ly, hly⟩ : ∃ n, n = (((clL l k).take (1 : Int).toNat).map (·.2)).length := ⟨_, rfl⟩
    rw [← hly] at hvy
    subst hvx hvy
    have hxe : (if (clL l k).isEmpty = true then 0 else 1) = if badB l k then 1 else 0 := by unfold badB; cases (clL l k).isEmpty <;> rfl
    rw [hxe]
    obtain ⟨nx, hnx⟩ : ∃ n : Nat, n = if badB l k then 1 else 0 := ⟨_, rfl⟩
    rw [← hnx]
    have HNX := Lib.hid hnx
    clear hx hy hb hnx hxe hly hlen
    obtain ⟨i0, hi0, hz0, hz1, hz2⟩ := info_parts infoGr
    go_wp2_with fail
    have hB0 := a1 (W := W4) (.cells #[] 31)
    have O0 : OwnG W4.heap.size (W4.alloc (.cells #[] 31)) (.slice (some ⟨W4.heap.size, 0, none⟩) 0 0) [] := World.ownsRow_made (base := W4.heap.size) (e := 31) (size := 7) W4 #[] 0 (Nat.le_refl _) (Nat.zero_le _) rfl
    go_loopw [8, 36] (fun r i wr => ∃ (j : Nat) (ps : List (Gr × Value)), j ≤ l.length ∧ i = .int .i64 j ∧ Hid (ps.map (·.1) = readT (l.take j) ∧ RdP W4 ps ∧ ps.length ≤ j) ∧ Hid (OwnG W4.heap.size wr r ps) ∧ Below W4.heap.size W4 wr) (fun _ i _ => l.length - (intOf i).toNat)
    case atStart => exact ⟨0, [], by omega, rfl, ⟨rfl, RdP.nil, by simp⟩, O0, hB0⟩
    case round =>
      obtain ⟨j, ps, hj, rfl, HP, HO, hbr⟩ := hrel
      obtain ⟨Ar, cr, rfl⟩ := owns_form HO.out
      by_cases hlt : j < l.length
      · obtain ⟨gb, go, u, rfl, c0, c1, c2, c3, c4, c5, c6, hu⟩ := HR.out.getB hbr j hlt
        have HS := Lib.hid (readT_snoc l j hlt)
        obtain ⟨⟨gp, gh, gt, gd, gw, ga, ge⟩, hg⟩ : ∃ g, g = l[j] := ⟨_, rfl⟩
        rw [← hg] at c0 c1 c2 c3 c4 c6 hu HS
        dsimp only at c0 c1 c2 c3 c4 c6 hu
        obtain ⟨A', c', rfl, -⟩ := id hu
        have HU := Lib.hid hu
        clear hg hu
        have hps := HP.out.2.2
        cases gw with
        | true =>
          have HS2 : Hid (readT (l.take (j + 1)) = readT (l.take j)) := by show _ = _; rw [HS.out, if_pos rfl, List.append_nil]
          have hba := hbr.alloc hbr.size (.cells #[.int .i64 gp, .int .i64 gh, .int .i64 gt, .int .i64 gd, .bool true, .slice A' ga.length c', .int .i64 ge] 31)
          have HO2 := Lib.hid (HO.out.keep (a1 (W := wr) (.cells #[.int .i64 gp, .int .i64 gh, .int .i64 gt, .int .i64 gd, .bool true, .slice A' ga.length c', .int .i64 ge] 31)))
          clear HS HO
          go_wp2
          exact ⟨⟨j + 1, ps, hlt, by go_num, ⟨by rw [HS2.out]; exact HP.out.1, HP.out.2.1, by omega⟩, HO2, hba⟩, by simp [intOf]; omega⟩
        | false =>
          have HS2 : Hid (readT (l.take (j + 1)) = readT (l.take j) ++ [⟨gp, gh, gt, gd, false, ga, ge⟩]) := by show _ = _; rw [HS.out, if_neg (by simp)]
          have hba := hbr.alloc hbr.size (.cells #[.int .i64 gp, .int .i64 gh, .int .i64 gt, .int .i64 gd, .bool false, .slice A' ga.length c', .int .i64 ge] 31)
          have o1 : (wr.alloc (.cells #[.int .i64 gp, .int .i64 gh, .int .i64 gt, .int .i64 gd, .bool false, .slice A' ga.length c', .int .i64 ge] 31)).ownsRow W4.heap.size 31 7 (.slice Ar ps.length cr) ps.length (ps.flatMap gc) := World.ownsRow.alloc HO.out _
          have hzb := hbr.size
          clear HS
          go_wp2_with (at_builtin; refine wpList_append_own_at _ rfl _ _ 22 rfl W4.heap.size 31 i0 _ 7 72 Tryd.underlying22 hi0 hz0 hz1 hz2 rfl (by decide) _ _ _ rfl (o1.alloc _) ⟨wr.heap.size + 1, 0, none⟩ 1 1 (gc (⟨gp, gh, gt, gd, false, ga, ge⟩, .slice A' ga.length c')) rfl rfl (World.news_of_block (alloc2_at wr _ _)) (by simp [gc, Value.oneCell']) (by unfold maxLen; omega) (by omega) (by simp; omega) ?_; intro v' w6 hown' hgrow _ hat)
          have hb6 := hba.trans (push_base o1 hgrow (N := W4.heap.size) (Nat.le_refl _) (by simp; omega))
          exact ⟨⟨j + 1, ps ++ [(⟨gp, gh, gt, gd, false, ga, ge⟩, .slice A' ga.length c')], hlt, by go_num, ⟨by rw [HS2.out, List.map_append, HP.out.1]; rfl, HP.out.2.1.snoc HU.out, by simp; omega⟩, OwnG.push hown', hb6⟩, by simp [intOf]; omega⟩
      · have hje : j = l.length := by omega
        subst hje
        have HP2 := HP.out
        rw [List.take_length] at HP2
        have HRD : Hid (RdG wr (.slice Ar ps.length cr) (readT l)) := by
          have := HO.out.rd HP2.2.1 hbr (by have := HP2.2.2; omega)
          rw [HP2.1] at this; exact this
        have hpl : ps.length = (readT l).length := by rw [← HP2.1, List.length_map]
        rw [hpl] at HRD ⊢
        have hrl : (readT l).length ≤ 21 := Nat.le_trans (List.length_filter_le _ _) (by omega)
        replace HR := Lib.hid (HR.out.keep hbr)
        replace HB := Lib.hid (HB.out.keep hbr)
        have hbw := hbw.trans (hbr.mono hbw.size)
        clear HP HP2 HO hbr O0 hB0 hpl
        have hcr : clL (readT l) k = [] := clL_read l k
        go_wp2_with fail
        refine (lclashes_calls _ _ (readT l) k 1 HRD.out (few_read HF.out) (by rw [hcr]; simp)).mono ?_
        rw [hcr]
        rintro e W5 ⟨vx, vy, rfl, hx, hy, hb⟩
        obtain ⟨Bx, dx, rfl⟩ : ∃ A c, vx = .slice A 0 c := hx.form
        obtain ⟨By, dy, rfl⟩ : ∃ A c, vy = .slice A 0 c := hy.form
        replace HR := Lib.hid (HR.out.keep hb)
        replace HB := Lib.hid (HB.out.keep hb)
        replace HRD := Lib.hid (HRD.out.keep hb)
        have hbw := hbw.trans (hb.mono hbw.size)
        clear hx hy hb hcr
        go_wp2_with fail
        refine (reads_calls _ _ l k HR.out (by omega) HF.out).mono ?_
        rintro e W6 ⟨v6, r, rfl, R6, hu6, hs6, hl6, hb⟩
        have HU1 := Lib.hid (And.intro hu6 (And.intro hs6 hl6))
        have HR1 := Lib.hid R6
        obtain ⟨A6, c6, rfl, -⟩ := id R6
        replace HR := Lib.hid (HR.out.keep hb)
        replace HB := Lib.hid (HB.out.keep hb)
        replace HRD := Lib.hid (HRD.out.keep hb)
        have hbw := hbw.trans (hb.mono hbw.size)
        clear R6 hu6 hs6 hl6 hb
        go_wp2_with fail
        refine (writes_calls _ _ l k HR.out (by omega) HF.out).mono ?_
        rintro e W7 ⟨v7, u, rfl, R7, hu7, hs7, hl7, hb⟩
        have HU2 := Lib.hid (And.intro hu7 (And.intro hs7 hl7))
        have HR2 := Lib.hid R7
        obtain ⟨A7, c7, rfl, -⟩ := id R7
        replace HR := Lib.hid (HR.out.keep hb)
        replace HB := Lib.hid (HB.out.keep hb)
        replace HRD := Lib.hid (HRD.out.keep hb)
        replace HR1 := Lib.hid (HR1.out.keep hb)
        have hbw := hbw.trans (hb.mono hbw.size)
        clear R7 hu7 hs7 hl7 hb
        go_wp2_with fail
        refine (area_meet _ _ _ r u 450 450 HR1.out HR2.out (by have := HU1.out.2.2; omega) (by have := HU2.out.2.2; omega) (HU1.out.2.1.mono (by omega)) (HU2.out.2.1.mono (by omega)) (by omega) (by omega)).mono ?_
        rintro e W8 ⟨v8, m, rfl, R8, hml, hset, hsm, hb⟩
        obtain ⟨q, hq⟩ : ∃ q, q = badB l k := ⟨_, rfl⟩
        have HE : Hid (emptyB m = !q) := by show _ = _; rw [empty_meet hset, badB_eq HU1.out.1 HU2.out.1, ← hq]
        have HQ := Lib.hid hq
        have HR3 := Lib.hid R8
        have HM := Lib.hid hsm
        obtain ⟨A8, c8, rfl, -⟩ := id R8
        replace HR := Lib.hid (HR.out.keep hb)
        replace HB := Lib.hid (HB.out.keep hb)
        replace HRD := Lib.hid (HRD.out.keep hb)
        have hbw := hbw.trans (hb.mono hbw.size)
        clear R8 hml hset hsm HR1 HR2 HU1 HU2 hq hb
        go_wp2_with fail
        refine (aempty_calls _ _ m HR3.out (fun l hl => Nat.le_trans (HM.out l hl) (by omega))).mono ?_
        rw [HE.out]
        rintro e W9 ⟨rfl, hb⟩
        replace HR := Lib.hid (HR.out.keep hb)
        replace HB := Lib.hid (HB.out.keep hb)
        replace HRD := Lib.hid (HRD.out.keep hb)
        have hbw := hbw.trans (hb.mono hbw.size)
        clear hb HE HR3 HM
        have hmk5 : ∀ u : World, (Instr.makeSlice 25 (.int .i64 5) (.int .i64 5)).run Tryd.prog u = .ok (.slice (some ⟨u.heap.size, 0, none⟩) 5 5) (u.alloc (.cells (madeCells #[.bool false] 5) 4)) := fun u => make_bo 5 (by omega) u
        have hc1 : chk l ((List.replicate (k + 1) false).set k true) = q := by rw [chk_set l (k + 1) k true (by omega), ← HQ.out]; rfl
        have hc2 : chk (readT l) ((List.replicate (k + 1) false).set k true) = false := by rw [chk_set _ (k + 1) k true (by omega), badB_read]; rfl
        have hc3 : chk l (List.replicate 5 false) = false := chk_none l 5
        have hnx : nx = if q then 1 else 0 := by rw [HNX.out, ← HQ.out]
        have HC := Lib.hid (And.intro hc1 (And.intro hc2 hc3))
        clear hc1 hc2 hc3 HQ HNX hmk
        cases q with
        | true =>
          obtain rfl : nx = 1 := hnx
          go_wp2_with fail
          refine (check_calls _ _ _ l _ HR.out HB.out (by omega) HF.out).mono ?_
          rw [HC.out.1]
          rintro e Wa ⟨he, hb⟩
          obtain rfl : e = .returned (.int .i64 37) := he
          replace HR := Lib.hid (HR.out.keep hb)
          replace HB := Lib.hid (HB.out.keep hb)
          replace HRD := Lib.hid (HRD.out.keep hb)
          have hbw := hbw.trans (hb.mono hbw.size)
          clear hb
          go_wp2_with fail
          refine (check_calls _ _ _ (readT l) _ HRD.out HB.out hrl (few_read HF.out)).mono ?_
          rw [HC.out.2.1]
          rintro e Wb ⟨he, hb⟩
          obtain rfl : e = .returned (.int .i64 0) := he
          replace HR := Lib.hid (HR.out.keep hb)
          have hbw := hbw.trans (hb.mono hbw.size)
          clear hb
          go_wp2_with fail
          have hb1 := a1 (W := Wb) (.cells (madeCells #[.bool false] 5) 4)
          refine (check_calls _ _ _ l _ (HR.out.keep hb1) (made_bo0 Wb 5 (by omega)) (by omega) HF.out).mono ?_
          rw [HC.out.2.2]
          rintro e Wc ⟨he, hb⟩
          obtain rfl : e = .returned (.int .i64 0) := he
          have hbw := hbw.trans ((hb1.trans (hb.mono hb1.size)).mono hbw.size)
          clear hb hb1
          go_wp2
          go_ret
          exact ⟨rfl, hbw⟩
        | false =>
          obtain rfl : nx = 0 := hnx
          go_wp2_with fail
          refine (check_calls _ _ _ l _ HR.out HB.out (by omega) HF.out).mono ?_
          rw [HC.out.1]
          rintro e Wa ⟨he, hb⟩
          obtain rfl : e = .returned (.int .i64 0) := he
          replace HR := Lib.hid (HR.out.keep hb)
          replace HB := Lib.hid (HB.out.keep hb)
          replace HRD := Lib.hid (HRD.out.keep hb)
          have hbw := hbw.trans (hb.mono hbw.size)
          clear hb
          go_wp2_with fail
          refine (check_calls _ _ _ (readT l) _ HRD.out HB.out hrl (few_read HF.out)).mono ?_
          rw [HC.out.2.1]
          rintro e Wb ⟨he, hb⟩
          obtain rfl : e = .returned (.int .i64 0) := he
          replace HR := Lib.hid (HR.out.keep hb)
          have hbw := hbw.trans (hb.mono hbw.size)
          clear hb
          go_wp2_with fail
          have hb1 := a1 (W := Wb) (.cells (madeCells #[.bool false] 5) 4)
          refine (check_calls _ _ _ l _ (HR.out.keep hb1) (made_bo0 Wb 5 (by omega)) (by omega) HF.out).mono ?_
          rw [HC.out.2.2]
          rintro e Wc ⟨he, hb⟩
          obtain rfl : e = .returned (.int .i64 0) := he
          have hbw := hbw.trans ((hb1.trans (hb.mono hb1.size)).mono hbw.size)
          clear hb hb1
          go_wp2
          go_ret
          exact ⟨rfl, hbw⟩
end Go.Proofs.YtfapeemdlphjbaaDoor
