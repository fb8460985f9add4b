import Derived.Test.YtfapeemdlphjbaaDoorDtL
namespace Go.Proofs.YtfapeemdlphjbaaDoor
open Go.RowKit
attribute [local go_sem] World.cell?_alloc_some frozen_alloc_some

/-- reads and writes meet in two grants. -/
theorem badB_iff {l : List Gr} {t : Int} : badB l t = true ↔ ∃ g ∈ l, ∃ h ∈ l, g.ten = t ∧ h.ten = t ∧ g.wr = false ∧ h.wr = true ∧ Meets g.ar h.ar := by
  have e : badB l t = true ↔ clL l t ≠ [] := by unfold badB; simp
  rw [e]
  constructor
  · intro hne
    obtain ⟨⟨p, q⟩, hpq⟩ := List.exists_mem_of_ne_nil _ hne
    obtain ⟨g, h, h1, h2, -, ht, hc⟩ := clL_mem.1 hpq
    unfold clB at hc
    simp only [Bool.and_eq_true, beq_iff_eq, bne_iff_ne] at hc
    obtain ⟨⟨e1, e2⟩, e3⟩ := hc
    obtain ⟨i, k, k1, k2⟩ := meetsB_iff.1 e3
    have m1 : g ∈ l := List.mem_of_getElem? h1
    have m2 : h ∈ l := List.mem_of_getElem? h2
    cases hw : g.wr with
    | false => exact ⟨g, m1, h, m2, ht, by rw [← e1, ht], hw, by cases q : h.wr <;> simp_all, i, k, k1, k2⟩
    | true => exact ⟨h, m2, g, m1, by rw [← e1, ht], ht, by cases q : h.wr <;> simp_all, hw, i, k, k2, k1⟩
  · rintro ⟨g, hg, h, hh, t1, t2, w1, w2, i, k, k1, k2⟩
    obtain ⟨p, hp, rfl⟩ := List.getElem_of_mem hg
    obtain ⟨q, hq, rfl⟩ := List.getElem_of_mem hh
    have hm : meetsB l[p].ar l[q].ar = true := meetsB_iff.2 ⟨i, k, k1, k2⟩
    have hm2 : meetsB l[q].ar l[p].ar = true := meetsB_iff.2 ⟨i, k, k2, k1⟩
    rcases Nat.le_total p q with c | c
    · exact List.ne_nil_of_mem (clL_mem.2 ⟨_, _, List.getElem?_eq_getElem hp, List.getElem?_eq_getElem hq, c, t1, by unfold clB; rw [t1, t2, w1, w2, hm]; simp⟩)
    · exact List.ne_nil_of_mem (clL_mem.2 ⟨_, _, List.getElem?_eq_getElem hq, List.getElem?_eq_getElem hp, c, t2, by unfold clB; rw [t1, t2, w1, w2, hm2]; simp⟩)
theorem badB_own (l : List Gr) (t : Int) : badB (ownT l t) t = badB l t := eq_of_iff (by
  rw [badB_iff, badB_iff]
  unfold ownT
  constructor
  · rintro ⟨g, hg, h, hh, r⟩
    exact ⟨g, (List.mem_filter.1 hg).1, h, (List.mem_filter.1 hh).1, r⟩
  · rintro ⟨g, hg, h, hh, t1, t2, r⟩
    exact ⟨g, List.mem_filter.2 ⟨hg, by simp [t1]⟩, h, List.mem_filter.2 ⟨hh, by simp [t2]⟩, t1, t2, r⟩)
theorem ownT_snoc (l : List Gr) (t : Int) (k : Nat) (hk : k < l.length) : ownT (l.take (k + 1)) t = ownT (l.take k) t ++ if l[k].ten = t then [l[k]] else [] := by
  unfold ownT
  rw [List.take_succ_eq_append_getElem hk, List.filter_append]
  congr 1
  by_cases h : l[k].ten = t
  · rw [if_pos h]; simp [h]
  · rw [if_neg h]; simp [h]
theorem few_own {l : List Gr} (h : FewG l) (t : Int) : FewG (ownT l t) := fun g hg => h g (List.mem_filter.1 hg).1
theorem un_same {l : List Gr} {t : Int} {k : Bool} {r u : Ar} (h : IsUn (ofT (ownT l t) t k) r) (g : IsUn (ofT l t k) u) : (subB r u && subB u r) = true := by
  rw [ofT_own] at h; exact h.same g

theorem errD_f : errD false = 0 := rfl
theorem errD_t : errD true = 37 := rfl
set_option maxRecDepth 100000 in
set_option maxHeartbeats 16000000 in
theorem dtenants_law (w : World) (v rv : Value) (l : List Gr) (rs : List Bool) (hr : RdG w v l) (hrs : RdB w rv rs) (hT : Tab w) :
    Calls Tryd.prog 5 #[v, rv] w fun e w' => e = .returned (.bool true) ∧ Below w.heap.size w w' := by
  obtain ⟨A, cap, rfl, a1', a2, a3, -⟩ := id hr
  obtain ⟨B, bcap, rfl, b1', b2, b3, -⟩ := id hrs
  unfold maxLen at a2 b2
  have ha63 := a3.1
  have hb63 := b3.1
  clear a3 b3
  have HR := Lib.hid hr
  have HB := Lib.hid hrs
  have HA := Lib.hid (alive_calls w hT)
  clear hr hrs hT
  go_enter Tryd.func5, Tryd.ntmps5
  go_wp2_with fail
  refine HA.out.mono ?_
  rintro e W1 ⟨rfl, hb⟩
  replace HR := Lib.hid (HR.out.keep hb)
  replace HB := Lib.hid (HB.out.keep hb)
  have hbw := hb
  clear hb HA
  go_wp2_with fail
  refine (fewg_calls _ _ l HR.out).mono ?_
  obtain ⟨q, hq⟩ : ∃ q, q = fewGB l := ⟨_, rfl⟩
  rw [← hq]
  have HQ := Lib.hid hq
  clear hq
  rintro e W2 ⟨rfl, hb⟩
  replace HR := Lib.hid (HR.out.keep hb)
  replace HB := Lib.hid (HB.out.keep hb)
  have hbw := hbw.trans (hb.mono hbw.size)
  clear hb
  cases q with
  | false =>
    go_wp2
    go_ret
    exact ⟨rfl, hbw⟩
  | true =>
    obtain ⟨hf, hl20⟩ := fewGB_iff.1 HQ.out.symm
    have HF := Lib.hid hf
    clear HQ hf
    by_cases h10 : 10 < rs.length
    · go_wp2
      go_ret
      exact ⟨rfl, hbw⟩
    · have HCE : Hid (chk l [] = false) := rfl
      obtain ⟨i0, hi0, hz0, hz1, hz2⟩ := info_parts infoGr
      have hmk := fun u => make_bo rs.length (by omega) u
      go_wp2
      go_loopw [5, 24] (fun o i wr => ∃ k : Nat, k ≤ rs.length ∧ i = .int .i64 k ∧ o = .bool (!chkTo l rs k) ∧ Below W2.heap.size W2 wr) (fun _ i _ => rs.length - (intOf i).toNat)
      case atStart => exact ⟨0, by omega, rfl, rfl, Below.refl _ _⟩
      case round =>
        obtain ⟨k, hk, rfl, rfl, hbo⟩ := hrel
        obtain ⟨wo, rfl⟩ : ∃ wo, wo = wr := ⟨_, rfl⟩
        by_cases hlt : k < rs.length
        · obtain ⟨bb, bo, rfl, hc⟩ := (HB.out.keep hbo).get k hlt
          have HCS := Lib.hid (chkTo_succ l rs k)
          have hget : rs.getD k false = rs[k] := by simp [List.getD, List.getElem?_eq_getElem hlt]
          rw [hget] at HCS
          obtain ⟨is, his⟩ : ∃ is, is = rs[k] := ⟨_, rfl⟩
          rw [← his] at hc HCS
          obtain ⟨m1, m2, m3, m4⟩ := made_bo wo rs.length k is hlt (by omega)
          obtain ⟨ok, hok⟩ : ∃ ok, ok = !chkTo l rs k := ⟨_, rfl⟩
          rw [← hok]
          obtain ⟨c, hcb⟩ : ∃ c, c = (is && badB l k) := ⟨_, rfl⟩
          have HC1 : Hid (chk l ((List.replicate rs.length false).set k is) = c) := by show _ = _; rw [chk_set l rs.length k is hlt, hcb]
          have HC2 : Hid (chk (ownT l k) ((List.replicate rs.length false).set k is) = c) := by show _ = _; rw [chk_set _ rs.length k is hlt, hcb, badB_own]
          have HOK : Hid ((!chkTo l rs (k + 1)) = (ok && !c)) := by show _ = _; rw [HCS.out, hok, hcb]; cases chkTo l rs k <;> simp
          have M3 := Lib.hid m3
          have M4 := Lib.hid m4
          clear hget his hok hcb HCS m3 m4
          cases ok
          case' false =>
            go_wp2_with fail
            clear m1 m2
            obtain ⟨Wz, hWz⟩ : ∃ Wz, Wz = wo.alloc (.cells ((madeCells #[.bool false] rs.length).setIfInBounds k (.bool is)) 4) := ⟨_, rfl⟩
            have hzs : wo.heap.size + 1 = Wz.heap.size := by rw [hWz]; simp
            rw [← hWz] at M3 M4 ⊢
            rw [hzs]
            clear hzs
            have HB1 := Lib.hid M3.out
            have hbz := hbo.trans (M4.out.mono hbo.size)
            clear hWz M3 M4 hbo
          case' true =>
            go_wp2_with fail
            clear m1 m2
            obtain ⟨W3, hW3⟩ : ∃ W3, W3 = wo.alloc (.cells ((madeCells #[.bool false] rs.length).setIfInBounds k (.bool is)) 4) := ⟨_, rfl⟩
            rw [← hW3] at M3 M4 ⊢
            have hb3 := hbo.trans (M4.out.mono hbo.size)
            refine (check_calls _ _ _ l _ (HR.out.keep hb3) M3.out (by omega) HF.out).mono ?_
            rw [HC1.out]
            rintro e Wz ⟨he, hb⟩
            have HB1 := Lib.hid (M3.out.keep hb)
            have hbz := hb3.trans (hb.mono hb3.size)
            clear hW3 M3 M4 hbo hb3 hb
            obtain rfl : e = .returned (.int .i64 (errD c)) := he
            cases c <;> (first | rw [errD_f] | rw [errD_t]) <;> go_wp2_with fail
          all_goals
            have HRz := Lib.hid (HR.out.keep hbz)
            have hB0 := a1 (W := Wz) (.cells #[] 31)
            have O0 : OwnG Wz.heap.size (Wz.alloc (.cells #[] 31)) (.slice (some ⟨Wz.heap.size, 0, none⟩) 0 0) [] := World.ownsRow_made (base := Wz.heap.size) (e := 31) (size := 7) Wz #[] 0 (Nat.le_refl _) (Nat.zero_le _) rfl
            go_loopw [9, 46] (fun r i wr => ∃ (j : Nat) (ps : List (Gr × Value)), j ≤ l.length ∧ i = .int .i64 j ∧ Hid (ps.map (·.1) = ownT (l.take j) k ∧ RdP Wz ps ∧ ps.length ≤ j) ∧ Hid (OwnG Wz.heap.size wr r ps) ∧ Below Wz.heap.size Wz wr) (fun _ i _ => l.length - (intOf i).toNat)
            case atStart => exact ⟨0, [], by omega, rfl, ⟨rfl, RdP.nil, by simp⟩, O0, hB0⟩
            case round =>
              obtain ⟨j, ps, hj, rfl, HP, HO, hbr⟩ := hrel
              obtain ⟨Ar, cr, rfl⟩ := owns_form HO.out
              by_cases hltj : j < l.length
              · obtain ⟨gb, go, u, rfl, c0, c1, c2, c3, c4, c5, c6, hu⟩ := HRz.out.getB hbr j hltj
                have HS := Lib.hid (ownT_snoc l k j hltj)
                obtain ⟨⟨gp, gh, gt, gd, gw, ga, ge⟩, hg⟩ : ∃ g, g = l[j] := ⟨_, rfl⟩
                rw [← hg] at c0 c1 c2 c3 c4 c6 hu HS
                dsimp only at c0 c1 c2 c3 c4 c6 hu HS
                obtain ⟨A', c', rfl, -⟩ := id hu
                have HU := Lib.hid hu
                clear hg hu
                have hps := HP.out.2.2
                by_cases hten : gt = k
                · subst hten
                  have HS2 : Hid (ownT (l.take (j + 1)) k = ownT (l.take j) k ++ [⟨gp, gh, k, gd, gw, ga, ge⟩]) := by show _ = _; rw [HS.out, if_pos rfl]
                  have hba := hbr.alloc hbr.size (.cells #[.int .i64 gp, .int .i64 gh, .int .i64 k, .int .i64 gd, .bool gw, .slice A' ga.length c', .int .i64 ge] 31)
                  have o1 : (wr.alloc (.cells #[.int .i64 gp, .int .i64 gh, .int .i64 k, .int .i64 gd, .bool gw, .slice A' ga.length c', .int .i64 ge] 31)).ownsRow Wz.heap.size 31 7 (.slice Ar ps.length cr) ps.length (ps.flatMap gc) := World.ownsRow.alloc HO.out _
                  have hzb := hbr.size
                  clear HS
                  go_wp2_with (at_builtin; refine wpList_append_own_at _ rfl _ _ 22 rfl Wz.heap.size 31 i0 _ 7 72 Tryd.underlying22 hi0 hz0 hz1 hz2 rfl (by decide) _ _ _ rfl (o1.alloc _) ⟨wr.heap.size + 1, 0, none⟩ 1 1 (gc (⟨gp, gh, k, gd, gw, ga, ge⟩, .slice A' ga.length c')) rfl rfl (World.news_of_block (alloc2_at wr _ _)) (by simp [gc, Value.oneCell']) (by unfold maxLen; omega) (by omega) (by simp; omega) ?_; intro v' w6 hown' hgrow _ hat)
                  have hb6 := hba.trans (push_base o1 hgrow (N := Wz.heap.size) (Nat.le_refl _) (by simp; omega))
                  exact ⟨⟨j + 1, ps ++ [(⟨gp, gh, k, gd, gw, ga, ge⟩, .slice A' ga.length c')], hltj, by go_num, ⟨by rw [HS2.out, List.map_append, HP.out.1]; rfl, HP.out.2.1.snoc HU.out, by simp; omega⟩, OwnG.push hown', hb6⟩, by simp [intOf]; omega⟩
                · have HS2 : Hid (ownT (l.take (j + 1)) k = ownT (l.take j) k) := by show _ = _; rw [HS.out, if_neg hten, List.append_nil]
                  have hba := hbr.alloc hbr.size (.cells #[.int .i64 gp, .int .i64 gh, .int .i64 gt, .int .i64 gd, .bool gw, .slice A' ga.length c', .int .i64 ge] 31)
                  have HO2 := Lib.hid (HO.out.keep (a1 (W := wr) (.cells #[.int .i64 gp, .int .i64 gh, .int .i64 gt, .int .i64 gd, .bool gw, .slice A' ga.length c', .int .i64 ge] 31)))
                  clear HS HO
                  go_wp2
                  exact ⟨⟨j + 1, ps, hltj, by go_num, ⟨by rw [HS2.out]; exact HP.out.1, HP.out.2.1, by omega⟩, HO2, hba⟩, by simp [intOf]; omega⟩
              · have hje : j = l.length := by omega
                subst hje
                have HP2 := HP.out
                rw [List.take_length] at HP2
                have HRD : Hid (RdG wr (.slice Ar ps.length cr) (ownT l k)) := by
                  have := HO.out.rd HP2.2.1 hbr (by have := HP2.2.2; omega)
                  rw [HP2.1] at this; exact this
                have hpl : ps.length = (ownT l k).length := by rw [← HP2.1, List.length_map]
                rw [hpl] at HRD ⊢
                have hrl : (ownT l k).length ≤ 21 := Nat.le_trans (List.length_filter_le _ _) (by omega)
                replace HRz := Lib.hid (HRz.out.keep hbr)
                replace HB1 := Lib.hid (HB1.out.keep hbr)
                replace hbz := hbz.trans (hbr.mono hbz.size)
                clear HP HP2 HO hbr O0 hB0 hpl
                go_wp2_with fail
                refine (check_calls _ _ _ (ownT l k) _ HRD.out HB1.out hrl (few_own HF.out k)).mono ?_
                rw [HC2.out]
                rintro e Y1 ⟨rfl, hb⟩
                replace HRz := Lib.hid (HRz.out.keep hb)
                replace HRD := Lib.hid (HRD.out.keep hb)
                replace hbz := hbz.trans (hb.mono hbz.size)
                replace HB1 := Lib.hid (HB1.out.keep hb)
                clear hb
                go_wp2_with fail
                refine (check_calls _ _ _ l _ HRz.out HB1.out (by omega) HF.out).mono ?_
                rw [HC1.out]
                rintro e Y2 ⟨rfl, hb⟩
                replace HRz := Lib.hid (HRz.out.keep hb)
                replace HRD := Lib.hid (HRD.out.keep hb)
                replace hbz := hbz.trans (hb.mono hbz.size)
                replace HB1 := Lib.hid (HB1.out.keep hb)
                clear hb
                clear HB1
                go_wp2_with fail
                refine (reads_calls _ _ (ownT l k) k HRD.out hrl (few_own HF.out k)).mono ?_
                rintro e Z1 ⟨v1, r, rfl, R1, hu1, hs1, hl1, hb⟩
                replace HRz := Lib.hid (HRz.out.keep hb)
                replace HRD := Lib.hid (HRD.out.keep hb)
                replace hbz := hbz.trans (hb.mono hbz.size)
                have HU1 := Lib.hid (And.intro hu1 (And.intro hs1 hl1))
                have HR1 := Lib.hid R1
                obtain ⟨A1, c1, rfl, -⟩ := id R1
                clear R1 hu1 hs1 hl1 hb
                go_wp2_with fail
                refine (reads_calls _ _ l k HRz.out (by omega) HF.out).mono ?_
                rintro e Z2 ⟨v2, u, rfl, R2, hu2, hs2, hl2, hb⟩
                replace HRz := Lib.hid (HRz.out.keep hb)
                replace HRD := Lib.hid (HRD.out.keep hb)
                replace hbz := hbz.trans (hb.mono hbz.size)
                replace HR1 := Lib.hid (HR1.out.keep hb)
                have HU2 := Lib.hid (And.intro hu2 (And.intro hs2 hl2))
                have HR2 := Lib.hid R2
                obtain ⟨A2, c2, rfl, -⟩ := id R2
                clear R2 hu2 hs2 hl2 hb
                go_wp2_with fail
                refine (same_b _ _ _ r u HR1.out HR2.out (by have := HU1.out.2.2; omega) (by have := HU2.out.2.2; omega) (HU1.out.2.1.mono (by omega)) (HU2.out.2.1.mono (by omega))).mono ?_
                rw [un_same HU1.out.1 HU2.out.1]
                rintro e Z3 ⟨rfl, hb⟩
                replace HRz := Lib.hid (HRz.out.keep hb)
                replace HRD := Lib.hid (HRD.out.keep hb)
                replace hbz := hbz.trans (hb.mono hbz.size)
                clear hb HR1 HR2 HU1 HU2
                go_wp2_with fail
                refine (writes_calls _ _ (ownT l k) k HRD.out hrl (few_own HF.out k)).mono ?_
                rintro e Z1 ⟨v1, r, rfl, R1, hu1, hs1, hl1, hb⟩
                replace HRz := Lib.hid (HRz.out.keep hb)
                replace HRD := Lib.hid (HRD.out.keep hb)
                replace hbz := hbz.trans (hb.mono hbz.size)
                have HU1 := Lib.hid (And.intro hu1 (And.intro hs1 hl1))
                have HR1 := Lib.hid R1
                obtain ⟨A1, c1, rfl, -⟩ := id R1
                clear R1 hu1 hs1 hl1 hb
                go_wp2_with fail
                refine (writes_calls _ _ l k HRz.out (by omega) HF.out).mono ?_
                rintro e Z2 ⟨v2, u, rfl, R2, hu2, hs2, hl2, hb⟩
                replace HRz := Lib.hid (HRz.out.keep hb)
                replace HRD := Lib.hid (HRD.out.keep hb)
                replace hbz := hbz.trans (hb.mono hbz.size)
                replace HR1 := Lib.hid (HR1.out.keep hb)
                have HU2 := Lib.hid (And.intro hu2 (And.intro hs2 hl2))
                have HR2 := Lib.hid R2
                obtain ⟨A2, c2, rfl, -⟩ := id R2
                clear R2 hu2 hs2 hl2 hb
                go_wp2_with fail
                refine (same_b _ _ _ r u HR1.out HR2.out (by have := HU1.out.2.2; omega) (by have := HU2.out.2.2; omega) (HU1.out.2.1.mono (by omega)) (HU2.out.2.1.mono (by omega))).mono ?_
                rw [un_same HU1.out.1 HU2.out.1]
                rintro e Z3 ⟨rfl, hb⟩
                replace HRz := Lib.hid (HRz.out.keep hb)
                replace HRD := Lib.hid (HRD.out.keep hb)
                replace hbz := hbz.trans (hb.mono hbz.size)
                clear hb HR1 HR2 HU1 HU2
                go_wp2
                exact ⟨⟨k + 1, hlt, by go_num, by rw [HOK.out]; rfl, hbz⟩, by simp [intOf]; omega⟩
        · have hke : k = rs.length := by omega
          subst hke
          have HR2 := Lib.hid (HR.out.keep hbo)
          have HB2 := Lib.hid (HB.out.keep hbo)
          have hbw2 := hbw.trans (hbo.mono hbw.size)
          obtain ⟨q, hq⟩ : ∃ q, q = chk l rs := ⟨_, rfl⟩
          have hq2 : chkTo l rs rs.length = q := hq.symm
          rw [hq2]
          have HQ := Lib.hid hq.symm
          clear hq hq2 hbo
          go_wp2_with fail
          refine (check_calls _ _ _ l rs HR2.out HB2.out (by omega) HF.out).mono ?_
          rw [HQ.out]
          rintro e Wa ⟨he, hb⟩
          obtain rfl : e = .returned (.int .i64 (errD q)) := he
          replace HR2 := Lib.hid (HR2.out.keep hb)
          replace hbw2 := hbw2.trans (hb.mono hbw2.size)
          clear hb
          have HN : Hid (RdB Wa (.slice none 0 0) []) := ⟨none, 0, rfl, by simp, by simp, ⟨by simp, fun _ => rfl⟩, fun i hi => by simp at hi⟩
          cases q <;> (first | rw [errD_f] | rw [errD_t]) <;> go_wp2_with fail
          all_goals
            refine (check_calls _ _ _ l [] HR2.out HN.out (by omega) HF.out).mono ?_
            rw [HCE.out]
            rintro e Wb ⟨he, hb⟩
            obtain rfl : e = .returned (.int .i64 0) := he
            have hbw3 := hbw2.trans (hb.mono hbw2.size)
            clear hb
            go_wp2
            go_ret
            exact ⟨rfl, hbw3⟩
end Go.Proofs.YtfapeemdlphjbaaDoor
