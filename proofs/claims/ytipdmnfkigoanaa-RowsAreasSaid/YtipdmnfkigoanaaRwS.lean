import Derived.Test.YtipdmnfkigoanaaRwR
namespace Go.Proofs.Ytipdmnfkigoanaa
open Go.RowKit Go.Maps
attribute [local go_sem] World.cell?_alloc_some frozen_alloc_some

/-! RowsAreas. -/
theorem areas_no (w : World) (v va vb : Value) (ops : List OpR) (a b : Ar) (hs : IsO w v ops) (ha : RdA w va a) (hb : RdA w vb b) (h : 60 < ops.length ∨ (ops.length ≤ 60 ∧ (fewB a = false ∨ (fewB a = true ∧ fewB b = false)))) :
    Calls Try.prog 6 #[v, va, vb] w fun e w' => e = .returned (.bool true) ∧ Below w.heap.size w w' := by
  obtain ⟨A, cap, rfl, a1, a2, a3, -⟩ := id hs
  obtain ⟨A1, cap1, rfl, -⟩ := id ha
  obtain ⟨A2, cap2, rfl, -⟩ := id hb
  unfold maxLen at a2
  have HA := Lib.hid ha
  have HB := Lib.hid hb
  clear hs ha hb
  rcases h with h | ⟨h, h2 | ⟨h2, h3⟩⟩
  · go_enter Try.func6, Try.ntmps6
    go_wp2_with fail
    refine (alive_calls _).mono ?_
    rintro e w1 ⟨rfl, hb1⟩
    go_wp2
    go_ret
    exact ⟨rfl, hb1⟩
  · have HF := Lib.hid h2
    clear h2
    go_enter Try.func6, Try.ntmps6
    go_wp2_with fail
    refine (alive_calls _).mono ?_
    rintro e w1 ⟨rfl, hb1⟩
    go_wp2_with fail
    refine (few_calls _ _ a (HA.out.keep hb1)).mono ?_
    rw [HF.out]
    rintro e w2 ⟨rfl, rfl⟩
    go_wp2
    go_ret
    exact ⟨rfl, hb1⟩
  · have HF := Lib.hid h2
    have HF2 := Lib.hid h3
    clear h2 h3
    go_enter Try.func6, Try.ntmps6
    go_wp2_with fail
    refine (alive_calls _).mono ?_
    rintro e w1 ⟨rfl, hb1⟩
    go_wp2_with fail
    refine (few_calls _ _ a (HA.out.keep hb1)).mono ?_
    rw [HF.out]
    rintro e w2 ⟨rfl, rfl⟩
    go_wp2_with fail
    refine (few_calls _ _ b (HB.out.keep hb1)).mono ?_
    rw [HF2.out]
    rintro e w2 ⟨rfl, rfl⟩
    go_wp2
    go_ret
    exact ⟨rfl, hb1⟩
set_option maxRecDepth 100000 in
set_option maxHeartbeats 8000000 in
theorem areas_yes (w : World) (v va vb : Value) (ops : List OpR) (a b : Ar) (hs : IsO w v ops) (ha : RdA w va a) (hb : RdA w vb b) (h60 : ops.length ≤ 60) (fa : fewB a = true) (fb : fewB b = true) :
    Calls Try.prog 6 #[v, va, vb] w fun e w' => e = .returned (.bool true) ∧ Below w.heap.size w w' := by
  obtain ⟨A, cap, rfl, a1, a2, a3, -⟩ := id hs
  obtain ⟨A1, cap1, rfl, -⟩ := id ha
  obtain ⟨A2, cap2, rfl, -⟩ := id hb
  unfold maxLen at a2
  have HS := Lib.hid hs
  have HA := Lib.hid ha
  have HB := Lib.hid hb
  have HFA := Lib.hid fa
  have HFB := Lib.hid fb
  obtain ⟨i0, hi, hz0, hz1, hz2⟩ := info_parts infoIn
  clear hs ha hb fa fb
  go_enter Try.func6, Try.ntmps6
  go_wp2_with fail
  refine (alive_calls _).mono ?_
  rintro e w1 ⟨rfl, hb1⟩
  go_wp2_with fail
  refine (few_calls _ _ a (HA.out.keep hb1)).mono ?_
  rw [HFA.out]
  rintro e w2 ⟨rfl, rfl⟩
  go_wp2_with fail
  refine (few_calls _ _ b (HB.out.keep hb1)).mono ?_
  rw [HFB.out]
  rintro e w2 ⟨rfl, rfl⟩
  have K0 := Lr.new w w2 (fun _ => 0) hb1 fun _ _ => rfl
  clear hb1
  go_wp2
  obtain ⟨W0, hW0⟩ : ∃ W, W = w2.alloc (.cells #[.map none, .map none, .int .i64 0] 29) := ⟨_, rfl⟩
  rw [← hW0] at K0 ⊢
  obtain ⟨rb, hrb⟩ : ∃ b, b = w2.heap.size := ⟨_, rfl⟩
  rw [← hrb] at K0 ⊢
  clear hW0 hrb
  go_loopw [36] (fun iv wr => ∃ (k last : Nat) (χ : Col) (L : RL) (ev : List Cl), k ≤ ops.length ∧ iv = .int .i64 k ∧ last ≤ k ∧ Lr w χ wr rb L ev last) (fun iv _ => ops.length - (intOf iv).toNat)
  case atStart => exact ⟨0, 0, _, [], [], by omega, rfl, by omega, K0⟩
  case round =>
    clear K0
    obtain ⟨k, last, χ, L, ev, hk, rfl, hlk, K⟩ := hrel
    obtain ⟨wo, rfl⟩ : ∃ wo, wo = wr := ⟨_, rfl⟩
    by_cases hlt : k < ops.length
    · obtain ⟨gb, go, rfl, p0, p1, p2⟩ := (HS.out.keep K.bel).get k hlt
      obtain ⟨⟨kd, x⟩, hx⟩ : ∃ o, o = ops[k] := ⟨_, rfl⟩
      rw [← hx] at p0 p1 p2
      have hb3 := (Below.refl wo.heap.size wo).alloc (Nat.le_refl _) (.cells #[.int .i64 kd, .int .i64 x.lab, .int .u32 x.key] 38)
      have K1 := K.below hb3 5
      clear K hx hb3
      by_cases h2 : kd = 2
      · subst h2
        obtain ⟨q, hq⟩ : ∃ q, (verO L x).isSome = q := ⟨_, rfl⟩
        go_wp2_with fail
        refine (l_drop K1 x q hq).mono ?_
        rintro e w3 ⟨rfl, hs⟩
        obtain ⟨χ3, ag, ch, K3⟩ := K1.turn hs
        go_wp2
        exact ⟨⟨k + 1, last, _, _, _, hlt, by go_num, by omega, K3⟩, by simp [intOf]; omega⟩
      · have g2 : (kd == 2) = false := by simpa using h2
        go_wp2_with fail
        refine (l_put K1 x _ rfl (by omega)).mono ?_
        rintro e w3 ⟨rfl, hs⟩
        obtain ⟨χ3, ag, ch, K3⟩ := K1.turn hs
        go_wp2
        exact ⟨⟨k + 1, last + 1, _, _, _, hlt, by go_num, by omega, K3⟩, by simp [intOf]; omega⟩
    · have hl60 : last ≤ 60 := by omega
      clear HS
      have hLl := K.len
      have HWF := Lib.hid K.wf
      have hbe := (Below.refl wo.heap.size wo).alloc (Nat.le_refl _) (.cells #[] 3)
      have o3 := World.ownsRow_made (base := wo.heap.size) (e := 3) (size := 1) wo #[] 0 (Nat.le_refl _) (Nat.zero_le _) rfl
      have K3 := K.below hbe 5
      go_wp2_with fail
      refine (l_cells K3 1000 (by decide) (by omega)).mono ?_
      rintro e w4 ⟨vx, vy, rfl, hx, hy, hb4⟩
      have ht : L.take (Int.toNat 1000) = L := List.take_of_length_le (by show _ ≤ 1000; omega)
      rw [ht] at hx hy
      have hB4 : Below wo.heap.size wo w4 := hbe.trans (hb4.mono (by simp))
      have hs4 := hb4.size
      rw [World.size_alloc] at hs4 hx hy
      have V4 : NewI wo.heap.size w4 (.slice (some ⟨wo.heap.size, 0, none⟩) 0 0) [] := owns_same o3 fun b e => hb4.block b (by cases e; simp)
      clear K3 hbe o3 ht hb4
      obtain ⟨Ax, cx, rfl⟩ := hx.form
      obtain ⟨Ay, cy, rfl⟩ := hy.form
      rw [List.length_map] at hx hy
      simp only [List.length_map]
      have HX := Lib.hid hx
      have HY := Lib.hid hy
      have HKK := Lib.hid K
      clear K hx hy
      go_wp2
      go_loopw [10, 57] (fun vw iv wr => ∃ j : Nat, j ≤ L.length ∧ iv = .int .i64 j ∧ NewI wo.heap.size wr vw (inR a (L.take j)) ∧ Below wo.heap.size wo wr ∧ w4.heap.size ≤ wr.heap.size ∧ (∀ b, wo.heap.size < b → b < w4.heap.size → wr.heap[b]? = w4.heap[b]?) ∧ (∀ b, vw.ownBlock = some b → b = wo.heap.size ∨ w4.heap.size ≤ b)) (fun _ iv _ => L.length - (intOf iv).toNat)
      case atStart => exact ⟨0, by omega, rfl, V4, hB4, Nat.le_refl _, fun _ _ _ => rfl, fun b e => by cases e; exact .inl rfl⟩
      case round =>
        clear V4 hB4
        obtain ⟨j, hj, rfl, hV, hB, hsz, hold, hown⟩ := hrel
        obtain ⟨wi, rfl⟩ : ∃ wi, wi = wr := ⟨_, rfl⟩
        by_cases hltj : j < L.length
        · obtain ⟨gx, cx', ex, hgx1, hgx2⟩ := World.ownsRow.form HX.out (by simp; omega)
          simp only [List.length_map] at ex
          cases ex
          obtain ⟨gy, cy', ey, hgy1, hgy2⟩ := World.ownsRow.form HY.out (by simp; omega)
          simp only [List.length_map] at ey
          cases ey
          have hrd : RdK w4 (.slice (some ⟨gx, 0, none⟩) L.length cx) (L.map (·.1)) := NewK.rd HX.out (by simp; omega)
          obtain ⟨gb, go, eg, p0, p1⟩ := hrd.get j (by simpa using hltj)
          cases eg
          simp only [List.getElem_map] at p0 p1
          simp only [Nat.zero_add] at p0 p1
          have hyc := NewI.cell HY.out j (by simpa using hltj)
          simp only [List.getElem_map] at hyc
          have p0 := (World.cell?_of_block (hold gx (by omega) hgx2)).trans p0
          have p1 := (World.cell?_of_block (hold gx (by omega) hgx2)).trans p1
          have hyc := (World.cell?_of_block (hold gy (by omega) hgy2)).trans hyc
          obtain ⟨⟨x, s⟩, hxs⟩ : ∃ p, p = L[j] := ⟨_, rfl⟩
          have hT : Hid (inR a (L.take (j + 1)) = inR a (L.take j) ++ (if inA a x.lab x.key then [s] else [])) := by
            show _ = _
            unfold inR
            rw [List.take_succ_eq_append_getElem hltj, ← hxs, List.filter_append, List.map_append]
            congr 1
            simp only [List.filter_cons, List.filter_nil]
            split <;> rfl
          rw [← hxs] at p0 p1 hyc
          have hil : (inR a (L.take j)).length ≤ j := by
            unfold inR
            rw [List.length_map]
            exact Nat.le_trans (List.length_filter_le _ _) (by simp; omega)
          obtain ⟨q, hq⟩ : ∃ q, q = inA a x.lab x.key := ⟨_, rfl⟩
          have HQ := Lib.hid hq
          obtain ⟨o, ho⟩ : ∃ o, o = inR a (L.take j) := ⟨_, rfl⟩
          rw [← ho] at hV hil hT
          obtain ⟨A5, cap5, rfl⟩ := hV.form
          have hb2 := (Below.refl wi.heap.size wi).alloc (Nat.le_refl _) (.cells #[.int .i64 x.lab, .int .u32 x.key] 36)
          have hB2 := hB.trans (hb2.mono hB.size)
          have HOLD := Lib.hid hold
          have HOWN := Lib.hid hown
          have HYC := Lib.hid hyc
          clear hxs hq ho hrd hyc hold hown
          have hAr := HA.out.keep (HKK.out.bel.trans (hB2.mono HKK.out.bel.size))
          go_wp2_with fail
          refine (refhas_calls _ _ a x.lab x.key hAr x.wk).mono ?_
          rw [← HQ.out]
          rintro e w6 ⟨rfl, hb6⟩
          have hb26 := hb2.trans (hb6.mono (by simp))
          have hB6 := hB.trans (hb26.mono hB.size)
          have hV6 := hV.keep hb26
          have hs6 := hb26.size
          have hold6 : ∀ b, wo.heap.size < b → b < w4.heap.size → w6.heap[b]? = w4.heap[b]? := fun b h1 h2 => (hb26.block b (by omega)).trans (HOLD.out b h1 h2)
          have hyc := below_cellR hb26 HYC.out
          have hBs := hB6.size
          clear hV hb2 hb6 hB2 hAr p0 p1
          cases q with
          | false =>
            go_wp2
            exact ⟨⟨j + 1, hltj, by go_num, by rw [hT.out, ← HQ.out]; simpa using hV6, hB6, by omega, hold6, HOWN.out⟩, by simp [intOf]; omega⟩
          | true =>
            go_wp2_with (at_builtin; refine wpList_append_own_at _ rfl _ _ 48 rfl wo.heap.size 3 i0 _ 1 8 Try.underlying48 hi hz0 hz1 hz2 rfl (by decide) _ _ _ rfl (World.ownsRow.alloc hV6 _) ⟨_, 0, none⟩ 1 1 [.int .i64 s] rfl rfl (cell_one_new _ _ _) (by simp [Value.oneCell']) (by unfold maxLen; omega) (by omega) (by simp; omega) ?_; intro v' w7 hown' hgrow _ hat)
            have hb67 : Below wo.heap.size w6 w7 := push_below hV6 hgrow (Nat.le_refl _) hBs
            have hV7 : NewI wo.heap.size w7 v' (o ++ [s]) := by
              unfold NewI
              rw [List.length_append, List.map_append]
              exact hown'
            have hs7 := hb67.size
            refine ⟨⟨j + 1, hltj, by go_num, by rw [hT.out, ← HQ.out]; exact hV7, hB6.trans hb67, by omega, fun b h1 h2 => ?_, fun b e => ?_⟩, by simp [intOf]; omega⟩
            · refine (hgrow.block b (by simp; omega) (fun e => ?_)).trans ((Below.heap_alloc _ _ _ (by omega)).trans (hold6 b h1 h2))
              have := HOWN.out b e.symm
              omega
            · rcases hat with h | h
              · rw [h] at e; exact HOWN.out b e
              · rw [h] at e
                have := Option.some.inj e
                simp at this
                right; omega
        · have hjj : j = L.length := by omega
          subst hjj
          rw [List.take_length] at hV
          have wfa := rdA_wf HA.out
          have wfb := rdA_wf HB.out
          have hfa := fewB_iff.1 HFA.out
          have hfb := fewB_iff.1 HFB.out
          have sma : Sm 1000 a := fun l hl => Nat.le_trans (hfa.1 l hl) (by omega)
          have smb : Sm 1000 b := fun l hl => Nat.le_trans (hfb.1 l hl) (by omega)
          obtain ⟨b1, hb1⟩ : ∃ b1, b1 = bldA a b 1 (max a.length b.length) := ⟨_, rfl⟩
          obtain ⟨b2, hb2⟩ : ∃ b2, b2 = bldA a b 2 (max a.length b.length) := ⟨_, rfl⟩
          have i1 : ∀ lab key, inA b1 lab key = (inA a lab key && inA b lab key) := fun lab key => by rw [hb1]; exact inA_bld1 wfa wfb lab key
          have i2 : ∀ lab key, inA b2 lab key = (inA a lab key && !inA b lab key) := fun lab key => by rw [hb2]; exact inA_bld2 wfa wfb lab key
          have HLEN := Lib.hid (inR_len L i1 i2)
          have HAP := Lib.hid (inR_apart HWF.out i1 i2)
          have HB1 := Lib.hid hb1
          have HB2 := Lib.hid hb2
          have hl0 : (inR a L).length ≤ 60 := by unfold inR; rw [List.length_map]; exact Nat.le_trans (List.length_filter_le _ _) (by omega)
          have hl1 : (inR b1 L).length ≤ 60 := by unfold inR; rw [List.length_map]; exact Nat.le_trans (List.length_filter_le _ _) (by omega)
          have hl2 : (inR b2 L).length ≤ 60 := by unfold inR; rw [List.length_map]; exact Nat.le_trans (List.length_filter_le _ _) (by omega)
          have HSM := Lib.hid (And.intro sma smb)
          have HLA := Lib.hid (And.intro hfa.2 hfb.2)
          obtain ⟨Aw, cw, rfl⟩ := hV.form
          have hBs := hB.size
          have KB := HKK.out.below hB 5
          have hbw := HKK.out.bel.trans (hB.mono HKK.out.bel.size)
          clear wfa wfb hfa hfb sma smb hb1 hb2 i1 i2 hold hown HX HY
          go_wp2_with fail
          refine (refbuild_calls _ _ _ a b 1 (HA.out.keep hbw) (HB.out.keep hbw) (by have := HLA.out.1; omega) (by have := HLA.out.2; omega) HSM.out.1 HSM.out.2 (by simp)).mono ?_
          rw [← HB1.out]
          rintro e w10 ⟨v1, rfl, hr1, hb10⟩
          have K10 := KB.below hb10 5
          have V10 := hV.keep hb10
          have hbw10 := hbw.trans (hb10.mono hbw.size)
          clear KB hV
          go_wp2_with fail
          refine (l_in K10 _ b1 hr1 (by omega)).mono ?_
          rintro e w11 ⟨vx1, rfl, hx1, hb11⟩
          have K11 := K10.below hb11 5
          have V11 := V10.keep hb11
          have hbw11 := hbw10.trans (hb11.mono hbw10.size)
          have X11 := hx1.mono (Nat.zero_le _)
          clear K10 V10 hr1 hx1
          obtain ⟨Ax1, cx1, rfl⟩ := X11.form
          go_wp2_with fail
          refine (refbuild_calls _ _ _ a b 2 (HA.out.keep hbw11) (HB.out.keep hbw11) (by have := HLA.out.1; omega) (by have := HLA.out.2; omega) HSM.out.1 HSM.out.2 (by simp)).mono ?_
          rw [← HB2.out]
          rintro e w12 ⟨v2, rfl, hr2, hb12⟩
          have K12 := K11.below hb12 5
          have V12 := V11.keep hb12
          have X12 := X11.keep hb12
          have hbw12 := hbw11.trans (hb12.mono hbw11.size)
          clear K11 V11 X11
          go_wp2_with fail
          refine (l_in K12 _ b2 hr2 (by omega)).mono ?_
          rintro e w13 ⟨vy1, rfl, hy1, hb13⟩
          have K13 := K12.below hb13 5
          have V13 := V12.keep hb13
          have X13 := X12.keep hb13
          have hbw13 := hbw12.trans (hb13.mono hbw12.size)
          have Y13 := hy1.mono (Nat.zero_le _)
          clear K12 V12 X12 hr2 hy1
          obtain ⟨Ay1, cy1, rfl⟩ := Y13.form
          have HX13 := Lib.hid (X13.isI (by omega))
          have HY13 := Lib.hid (Y13.isI (by omega))
          have HV13 := Lib.hid (V13.isI (by omega))
          obtain ⟨xs, hxs⟩ : ∃ xs, xs = inR b1 L := ⟨_, rfl⟩
          obtain ⟨ys, hys⟩ : ∃ ys, ys = inR b2 L := ⟨_, rfl⟩
          obtain ⟨ws, hws⟩ : ∃ ws, ws = inR a L := ⟨_, rfl⟩
          rw [← hxs] at HX13 HAP HLEN hl1
          rw [← hys] at HY13 HAP HLEN hl2
          have HWS := Lib.hid hws
          rw [← hws] at HV13 HLEN hl0
          simp only [← hxs, ← hys, ← hws]
          clear hxs hys hws X13 Y13 V13
          go_wp2
          go_loopw [83] (fun iv wr => ∃ j : Nat, j ≤ xs.length ∧ iv = .int .i64 j ∧ wr = w13) (fun iv _ => xs.length - (intOf iv).toNat)
          case atStart => exact ⟨0, by omega, rfl, rfl⟩
          case round =>
            obtain ⟨j, hj, rfl, rfl⟩ := hrel
            by_cases hltj : j < xs.length
            · obtain ⟨gb, go, rfl, hcell⟩ := HX13.out.getI j hltj
              have hno : Hid (decide (xs[j] ∈ ys) = false) := by
                show _ = _
                exact decide_eq_false (HAP.out _ (List.getElem_mem hltj))
              go_wp2_with fail
              refine (in_calls _ _ xs[j] ys HY13.out).mono ?_
              rw [hno.out]
              rintro e w14 ⟨rfl, rfl⟩
              go_wp2
              exact ⟨⟨j + 1, hltj, by go_num, trivial⟩, by simp [intOf]; omega⟩
            · have hsum := HLEN.out
              clear HX13 HAP
              go_wp2_with fail
              refine (l_in K13 _ a (HA.out.keep hbw13) (by omega)).mono ?_
              rw [← HWS.out]
              rintro e w14 ⟨vz, rfl, hz, hb14⟩
              have K14 := K13.below hb14 5
              have Z14 := hz.isI (by omega)
              have V14 := HV13.out.keep (Same.below' hb14)
              obtain ⟨Az, cz, rfl⟩ := hz.form
              clear hz
              go_wp2_with fail
              refine (sameInts_calls _ _ _ ws ws Z14 V14).mono ?_
              rw [decide_eq_true rfl]
              rintro e w15 ⟨rfl, d15, rfl⟩
              have K15 := K14.below (below_drewN w14 _ d15) 5
              have gsum : ((xs.length : Int) + (ys.length : Int) == (ws.length : Int)) = true := by simp; omega
              go_wp2_with fail
              refine (l_in K15 _ [] RdA.nil (by omega)).mono ?_
              rw [inR_nil]
              rintro e w16 ⟨vn, rfl, hn, hb16⟩
              obtain ⟨An, cn, rfl⟩ := hn.form
              go_wp2
              go_ret
              exact ⟨rfl, K15.bel.trans (hb16.mono K15.bel.size)⟩
theorem areas_law (w : World) (v va vb : Value) (ops : List OpR) (a b : Ar) (hs : IsO w v ops) (ha : RdA w va a) (hb : RdA w vb b) :
    Calls Try.prog 6 #[v, va, vb] w fun e w' => e = .returned (.bool true) ∧ Below w.heap.size w w' := by
  by_cases h : ops.length ≤ 60
  · cases fa : fewB a with
    | false => exact areas_no w v va vb ops a b hs ha hb (.inr ⟨h, .inl fa⟩)
    | true =>
      cases fb : fewB b with
      | false => exact areas_no w v va vb ops a b hs ha hb (.inr ⟨h, .inr ⟨fa, fb⟩⟩)
      | true => exact areas_yes w v va vb ops a b hs ha hb h fa fb
  · exact areas_no w v va vb ops a b hs ha hb (.inl (by omega))
end Go.Proofs.Ytipdmnfkigoanaa
