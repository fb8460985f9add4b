import Derived.Test.YtipdmnfkigoanaaRwP
namespace Go.Proofs.Ytipdmnfkigoanaa
open Go.RowKit Go.Maps
attribute [local go_sem] World.cell?_alloc_some frozen_alloc_some

/-! RowsSwaps. -/
theorem wf_i64w {a : Int} (h : wrap64 a = a) : (Lit.int .i64 a).wf = true := by
  unfold wrap64 at h
  simp [Lit.wf, show IntKind.i64.min = -9223372036854775808 by decide, show IntKind.i64.max = 9223372036854775807 by decide]
  omega
theorem swaps_no (w : World) (v : Value) (ops : List OpR) (c : Cl) (hs : IsO w v ops) (h : 60 < ops.length) :
    Calls Try.prog 5 #[v, .agg #[.int .i64 c.lab, .int .u32 c.key]] w fun e w' => e = .returned (.bool true) ∧ Below w.heap.size w w' := by
  obtain ⟨A, cap, rfl, a1, a2, a3, -⟩ := id hs
  unfold maxLen at a2
  clear hs
  have hb := (Below.refl w.heap.size w).alloc (Nat.le_refl _) (.cells #[.int .i64 c.lab, .int .u32 c.key] 36)
  go_enter Try.func5, Try.ntmps5
  go_wp2_with fail
  refine (alive_calls _).mono ?_
  rintro e w1 ⟨rfl, hb1⟩
  go_wp2
  go_ret
  exact ⟨rfl, hb.trans (hb1.mono (by simp))⟩
set_option maxRecDepth 100000 in
set_option maxHeartbeats 8000000 in
theorem swaps_yes (w : World) (v : Value) (ops : List OpR) (c : Cl) (hs : IsO w v ops) (h60 : ops.length ≤ 60) :
    Calls Try.prog 5 #[v, .agg #[.int .i64 c.lab, .int .u32 c.key]] w fun e w' => e = .returned (.bool true) ∧ Below w.heap.size w w' := by
  obtain ⟨A, cap, rfl, a1, a2, a3, -⟩ := id hs
  unfold maxLen at a2
  have HS := Lib.hid hs
  clear hs
  have hb := (Below.refl w.heap.size w).alloc (Nat.le_refl _) (.cells #[.int .i64 c.lab, .int .u32 c.key] 36)
  have hbx := heap_alloc_at w (.cells #[.int .i64 c.lab, .int .u32 c.key] 36)
  go_enter Try.func5, Try.ntmps5
  go_wp2_with fail
  refine (alive_calls _).mono ?_
  rintro e w1 ⟨rfl, hb1⟩
  have hb2 := hb.trans (hb1.mono (by simp))
  have hsz1 := hb1.size
  have K0 := Lr.new w w1 (fun _ => 0) hb2 fun _ _ => rfl
  have D0 : Dk (paint (fun _ => 0) w1.heap.size 1) (w1.alloc (.cells #[.map none, .map none, .int .i64 0] 29)) w.heap.size (.cells #[.int .i64 c.lab, .int .u32 c.key] 36) := ⟨by rw [paint_low (by simp at hsz1; omega)]; omega, (Below.heap_alloc _ _ _ (by simp at hsz1; omega)).trans ((hb1.block _ (by simp)).trans hbx)⟩
  clear hb hb1 hb2 hbx hsz1
  go_wp2
  obtain ⟨W0, hW0⟩ : ∃ W, W = w1.alloc (.cells #[.map none, .map none, .int .i64 0] 29) := ⟨_, rfl⟩
  rw [← hW0] at K0 D0 ⊢
  obtain ⟨rb, hrb⟩ : ∃ b, b = w1.heap.size := ⟨_, rfl⟩
  rw [← hrb] at K0 D0 ⊢
  clear hW0 hrb
  go_loopw [30] (fun iv wr => ∃ (k last : Nat) (χ : Col) (L : RL) (ev : List Cl), k ≤ ops.length ∧ iv = .int .i64 k ∧ last ≤ k ∧ Lr w χ wr rb L ev last ∧ Dk χ wr w.heap.size (.cells #[.int .i64 c.lab, .int .u32 c.key] 36)) (fun iv _ => ops.length - (intOf iv).toNat)
  case atStart => exact ⟨0, 0, _, [], [], by omega, rfl, by omega, K0, D0⟩
  case round =>
    clear K0 D0
    obtain ⟨k, last, χ, L, ev, hk, rfl, hlk, K, D⟩ := hrel
    obtain ⟨wo, rfl⟩ : ∃ wo, wo = wr := ⟨_, rfl⟩
    by_cases hlt : k < ops.length
    · obtain ⟨gb, go, rfl, p0, p1, p2⟩ := (HS.out.keep K.bel).get k hlt
      obtain ⟨⟨kd, x⟩, hx⟩ : ∃ o, o = ops[k] := ⟨_, rfl⟩
      rw [← hx] at p0 p1 p2
      have hb3 := (Below.refl wo.heap.size wo).alloc (Nat.le_refl _) (.cells #[.int .i64 kd, .int .i64 x.lab, .int .u32 x.key] 38)
      have K1 := K.below hb3 5
      have D1 := D.below hb3 5
      clear K D hx hb3
      by_cases h2 : kd = 2
      · subst h2
        obtain ⟨q, hq⟩ : ∃ q, (verO L x).isSome = q := ⟨_, rfl⟩
        go_wp2_with fail
        refine (l_drop K1 x q hq).mono ?_
        rintro e w3 ⟨rfl, hs⟩
        obtain ⟨χ3, ag, ch, K3⟩ := K1.turn hs
        have D3 := D1.turn ag ch
        go_wp2
        exact ⟨⟨k + 1, last, _, _, _, hlt, by go_num, by omega, K3, D3⟩, by simp [intOf]; omega⟩
      · have g2 : (kd == 2) = false := by simpa using h2
        go_wp2_with fail
        refine (l_put K1 x _ rfl (by omega)).mono ?_
        rintro e w3 ⟨rfl, hs⟩
        obtain ⟨χ3, ag, ch, K3⟩ := K1.turn hs
        have D3 := D1.turn ag ch
        go_wp2
        exact ⟨⟨k + 1, last + 1, _, _, _, hlt, by go_num, by omega, K3, D3⟩, by simp [intOf]; omega⟩
    · have hl60 : last ≤ 60 := by omega
      clear HS
      have hLl := K.len
      have hEl := K.elen
      have HWF := Lib.hid K.wf
      have hND : ev.Nodup := let ⟨_, _, _, _, k⟩ := K.rw_; k.nd
      obtain ⟨x0, x1⟩ := (cells2 D.at_).1
      go_wp2_with fail
      refine (l_cells K 1000 (by decide) (by omega)).mono ?_
      rintro e w4 ⟨vx, vy, rfl, hx, hy, hb4⟩
      have ht : L.take (Int.toNat 1000) = L := List.take_of_length_le (by show _ ≤ 1000; omega)
      rw [ht] at hx hy
      have K4 := K.below hb4 5
      have D4 := D.below hb4 5
      have X4 := KpK.of (χ := χ) hx
      have Y4 := KpI.of (χ := χ) hy
      clear K D x0 x1 hx hy hb4 ht
      obtain ⟨Ax, cx, rfl⟩ := X4.own.form
      obtain ⟨Ay, cy, rfl⟩ := Y4.own.form
      rw [List.length_map] at X4 Y4
      simp only [List.length_map]
      obtain ⟨sn, hsn⟩ : ∃ q, decide (c ∈ ev) = q := ⟨_, rfl⟩
      obtain ⟨wq, hwq⟩ : ∃ q, (verO L c).isSome = q := ⟨_, rfl⟩
      go_wp2
      have K5 := K4.below (below_drew w4) 5
      have D5 := D4.below (below_drew w4) 5
      have X5 := X4.below (below_drew w4) 5
      have Y5 := Y4.below (below_drew w4) 5
      have s5 := (cells2 D5.at_).1
      clear K4 D4 X4 Y4
      first
        | (go_region_held3 (fun W => W.cell? ⟨w.heap.size, 0, none⟩ = some (.int .i64 c.lab) ∧ W.cell? ⟨w.heap.size, 1, none⟩ = some (.int .u32 c.key))
            (first | with_reducible exact s5 | with_reducible exact s6)
            (first
              | (go_at_call 17; refine (l_ever K5 _ rfl).mono ?_; rintro e W18 ⟨rfl, rfl⟩)
              | (go_at_call 20; refine (l_live K5 _ rfl).mono ?_; rintro e W17 ⟨rfl, rfl⟩)
              | (go_at_call 15; refine (l_seen K5 c sn hsn).mono ?_; rintro e W6 ⟨rfl, hb6⟩; have K6 := K5.below hb6 5; have D6 := D5.below hb6 5; have X6 := X5.below hb6 5; have Y6 := Y5.below hb6 5; have s6 := (cells2 D6.at_).1)))
        | fail
      clear K5 D5 X5 Y5 s5
      obtain ⟨x0, x1⟩ := s6
      go_wp2_with fail
      obtain ⟨v13, hv13⟩ : ∃ v, (verO L c).getD 0 = v := ⟨_, rfl⟩
      refine (l_ver K6 c v13 wq hv13 hwq).mono ?_
      clear hv13
      rintro e W7 ⟨rfl, hb7⟩
      have K7 := K6.below hb7 5
      have D7 := D6.below hb7 5
      have X7 := X6.below hb7 5
      have Y7 := Y6.below hb7 5
      clear K6 D6 X6 Y6 hb7 x0 x1
      obtain ⟨x0, x1⟩ := (cells2 D7.at_).1
      go_wp2_with fail
      refine (l_drop K7 c wq hwq).mono ?_
      rintro e W8 ⟨rfl, hs⟩
      obtain ⟨χ8, ag, ch, K8⟩ := K7.turn hs
      have D8 := D7.turn ag ch
      have X8 := X7.turn ag ch
      have Y8 := Y7.turn ag ch
      clear K7 D7 X7 Y7 hs ag ch x0 x1
      obtain ⟨x0, x1⟩ := (cells2 D8.at_).1
      go_wp2_with fail
      refine (l_put K8 c _ rfl (by omega)).mono ?_
      rintro e W9 ⟨rfl, hs⟩
      obtain ⟨χ9, ag, ch, K9⟩ := K8.turn hs
      have D9 := D8.turn ag ch
      have X9 := X8.turn ag ch
      have Y9 := Y8.turn ag ch
      clear K8 D8 X8 Y8 hs ag ch x0 x1
      obtain ⟨x0, x1⟩ := (cells2 D9.at_).1
      go_wp2_with fail
      refine (l_put K9 c _ rfl (by omega)).mono ?_
      rintro e W10 ⟨rfl, hs⟩
      obtain ⟨χ10, ag, ch, K10⟩ := K9.turn hs
      have D10 := D9.turn ag ch
      have X10 := X9.turn ag ch
      have Y10 := Y9.turn ag ch
      clear K9 D9 X9 Y9 hs ag ch x0 x1
      have HL3 := Lib.hid (put2_len HWF.out c)
      rw [hwq] at HL3
      have HE3 : Hid ((addR c (addR c ev)).length = if sn = true then ev.length else ev.length + 1) := by
        show _ = _
        rw [add2, add_length, ← hsn]
        by_cases hm : c ∈ ev <;> simp [hm]
      have HV3 := Lib.hid (fun y (hy : y ≠ c) => put2_ver (L := L) (a := ((last + 1 : Nat) : Int)) (b := ((last + 1 + 1 : Nat) : Int)) c y hy)
      have HA3 : Hid (verO (putR c ((last + 1 + 1 : Nat) : Int) (putR c ((last + 1 : Nat) : Int) (dropR c L))) c = some ((last + 1 + 1 : Nat) : Int)) := put2_at c
      have HM3 : Hid (decide (c ∈ addR c (addR c ev)) = true) := by show _ = _; rw [decide_eq_true_eq]; exact add_mem _ _
      obtain ⟨L3, hL3⟩ : ∃ L3, L3 = putR c ((last + 1 + 1 : Nat) : Int) (putR c ((last + 1 : Nat) : Int) (dropR c L)) := ⟨_, rfl⟩
      obtain ⟨e3, he3⟩ : ∃ e3, e3 = addR c (addR c ev) := ⟨_, rfl⟩
      rw [← hL3, ← he3] at K10
      rw [← hL3] at HL3 HV3 HA3
      rw [← he3] at HE3 HM3
      clear hL3 he3 hwq hsn hND
      go_wp2
      go_loopw [65] (fun iv wr => ∃ j : Nat, j ≤ L.length ∧ iv = .int .i64 j ∧ Below W10.heap.size W10 wr) (fun iv _ => L.length - (intOf iv).toNat)
      case atStart => exact ⟨0, by omega, rfl, Below.refl _ _⟩
      case round =>
        obtain ⟨j, hj, rfl, hB⟩ := hrel
        obtain ⟨wi, rfl⟩ : ∃ wi, wi = wr := ⟨_, rfl⟩
        by_cases hltj : j < L.length
        · have hrdx : RdK W10 (.slice Ax L.length cx) (L.map (·.1)) := X10.own.rd (by simp; omega)
          obtain ⟨gb, go, rfl, p0, p1⟩ := (hrdx.keep hB).get j (by simpa using hltj)
          simp only [List.getElem_map] at p0 p1
          obtain ⟨gy, cy', ey, -⟩ := Y10.own.at_ (by simp; omega)
          simp only [List.length_map] at ey
          cases ey
          have hyc := (Y10.own.keep hB).cell j (by simpa using hltj)
          simp only [List.getElem_map] at hyc
          have hvj : verO L L[j].1 = some L[j].2 := verO_of HWF.out.nd (List.getElem_mem hltj)
          have hrj := (HWF.out.rng L[j] (List.getElem_mem hltj)).2
          obtain ⟨⟨x, s⟩, hxs⟩ : ∃ p, p = L[j] := ⟨_, rfl⟩
          rw [← hxs] at p0 p1 hyc hvj hrj
          have hb2 := (Below.refl wi.heap.size wi).alloc (Nat.le_refl _) (.cells #[.int .i64 x.lab, .int .u32 x.key] 36)
          have hB2 := hB.trans (hb2.mono hB.size)
          have KK := K10.below hB2 5
          have HY := Lib.hid hyc
          have hbx := heap_alloc_at wi (.cells #[.int .i64 x.lab, .int .u32 x.key] 36)
          clear hxs hrdx hB hyc
          by_cases hxc : x = c
          · subst hxc
            have hv3 := HA3.out
            go_wp2_with fail
            refine (l_ver KK x ((last + 1 + 1 : Nat) : Int) true (by rw [hv3]; rfl) (by rw [hv3]; rfl)).mono ?_
            rintro e W12 ⟨rfl, hb12⟩
            have hB12 := hB2.trans (hb12.mono hB2.size)
            obtain ⟨y0, y1⟩ := (cells2 ((hb12.block _ (by simp)).trans hbx)).1
            obtain ⟨z0, z1⟩ := (cells2 (D10.below hB12 5).at_).1
            have hyc := below_cellR (hb2.trans (hb12.mono (by simp))) HY.out
            have gd : decide ((last : Int) + 1 ≤ s) = false := by simp; omega
            clear hb12 hb2
            go_wp2
            all_goals
              first
                | exact ⟨⟨j + 1, hltj, by go_num, hB12⟩, by simp [intOf]; omega⟩
                | (go_roundw
                   case rel => exact ⟨j + 1, hltj, by go_num, hB12⟩
                   case measure => simp [intOf]; omega)
          · have hv3 := HV3.out x hxc
            rw [hvj] at hv3
            go_wp2_with fail
            refine (l_ver KK x s true (by rw [hv3]; rfl) (by rw [hv3]; rfl)).mono ?_
            rintro e W12 ⟨rfl, hb12⟩
            have hB12 := hB2.trans (hb12.mono hB2.size)
            obtain ⟨y0, y1⟩ := (cells2 ((hb12.block _ (by simp)).trans hbx)).1
            obtain ⟨z0, z1⟩ := (cells2 (D10.below hB12 5).at_).1
            have hyc := below_cellR (hb2.trans (hb12.mono (by simp))) HY.out
            have hxc2 : ¬ (x.lab = c.lab ∧ (x.key : Int) = c.key) := fun h => hxc (Cl.eq h.1 (by omega))
            have gs : (s != s) = false := by simp
            clear hb12 hb2
            go_wp2
            all_goals
              first
                | exact ⟨⟨j + 1, hltj, by go_num, hB12⟩, by simp [intOf]; omega⟩
                | (go_roundw
                   case rel => exact ⟨j + 1, hltj, by go_num, hB12⟩
                   case measure => simp [intOf]; omega)
        · have K13 := K10.below hB 5
          have D13 := D10.below hB 5
          obtain ⟨z0, z1⟩ := (cells2 D13.at_).1
          clear K10 D10 X10 Y10 HV3 hB
          have HM := Lib.hid (And.intro HA3.out HM3.out)
          have HL := HL3.out
          have HE := HE3.out
          have gv : (((last : Int) + 1 + 1) == ((last : Int) + 1 + 1)) = true := by simp
          clear HL3 HE3 HA3 HM3
          have key : ∀ (e : Ending), True := fun _ => trivial
          cases wq
          all_goals
            cases sn
            all_goals
              simp only [Bool.false_eq_true, reduceIte] at HL HE
              first
                | have gl : ((L3.length : Int) == (L.length : Int) + 1) = true := by simp; omega
                | have gl : ((L3.length : Int) == (L.length : Int)) = true := by simp; omega
              first
                | have ge : ((e3.length : Int) == (ev.length : Int) + 1) = true := by simp; omega
                | have ge : ((e3.length : Int) == (ev.length : Int)) = true := by simp; omega
              clear HL HE
              go_wp2_with fail
              refine (l_ver K13 c ((last + 1 + 1 : Nat) : Int) true (by rw [HM.out.1]; rfl) (by rw [HM.out.1]; rfl)).mono ?_
              rintro e W14 ⟨rfl, hb14⟩
              have K14 := K13.below hb14 5
              have D14 := D13.below hb14 5
              obtain ⟨t0, t1⟩ := (cells2 D14.at_).1
              go_wp2_with (first
                | (go_at_call 20; refine (l_live K14 _ rfl).mono ?_; rintro e W17 ⟨rfl, rfl⟩)
                | (go_at_call 17; refine (l_ever K14 _ rfl).mono ?_; rintro e W18 ⟨rfl, rfl⟩)
                | (go_at_call 15; refine (l_seen K14 c true HM.out.2).mono ?_; rintro e W19 ⟨rfl, hb19⟩))
              go_ret
              exact ⟨rfl, K14.bel.trans (hb19.mono K14.bel.size)⟩
theorem swaps_law (w : World) (v : Value) (ops : List OpR) (lab : Int) (key : Nat) (hs : IsO w v ops) (hc : wrap64 lab = lab ∧ key < 4294967296) :
    Calls Try.prog 5 #[v, .agg #[.int .i64 lab, .int .u32 key]] w fun e w' => e = .returned (.bool true) ∧ Below w.heap.size w w' := by
  have hl : (Lit.int .i64 lab).wf = true := wf_i64w hc.1
  by_cases h : ops.length ≤ 60
  · exact swaps_yes w v ops ⟨lab, key, hl, hc.2⟩ hs h
  · exact swaps_no w v ops ⟨lab, key, hl, hc.2⟩ hs (by omega)
end Go.Proofs.Ytipdmnfkigoanaa
