import Derived.Test.YtcdldjiogoapkaaSgBA
namespace Go.Proofs.Ytcdldjiogoapkaa
open Go.RowKit
attribute [local go_sem] World.cell?_alloc_some frozen_alloc_some field_na field_ac field_as

set_option maxRecDepth 100000 in
set_option maxHeartbeats 8000000 in
theorem kills_yes (w : World) (v u : Value) (ks : List Nat) (sp : List Sp) (hs : IsU 0 (fun _ => 0) w v ks) (hr : RdS w u sp) (hn : ks.length ≤ 40) (hn2 : sp.length ≤ 10) :
    Calls Try.prog 8 #[v, u] w fun e w' => e = .returned (.bool true) ∧ Below w.heap.size w w' := by
  obtain ⟨A, c, rfl, a1, a2, a3, -⟩ := id hs
  obtain ⟨A', c', rfl, b1, b2, b3, -⟩ := id hr
  unfold maxLen at a2 b2
  have HS := Lib.hid hs
  have HR := Lib.hid hr
  clear hs hr
  go_enter Try.func8, Try.ntmps8
  go_wp2_with fail
  refine (alive_calls _).mono ?_
  rintro e w1 ⟨rfl, hb⟩
  go_wp2_with fail
  refine (s_new w1 1048576 1 (fun _ => 0) (by decide) (by decide)).mono ?_
  rintro e w2 ⟨pa, χ2, rfl, -, ag, ht, hb2⟩
  have hb12 := hb.trans (hb2.mono hb.size)
  have low2 : ∀ b, b < w.heap.size → χ2 b = 0 := fun b hl => ag b (Nat.lt_of_lt_of_le hl hb.size)
  clear ag hb hb2
  go_wp2_with fail
  refine (s_new w2 1048576 21 χ2 (by decide) (by decide)).mono ?_
  rintro e w3 ⟨pb, χ3, rfl, -, ag, ht3, hb3⟩
  have T3 : Tw w χ3 w3 pa pb [] [] [] [] 0 0 := ⟨(ht.keep (χ' := χ3) (w' := w3) (fun b hb _ => ⟨ag b hb, hb3.block b hb⟩)).congr (by simp), ht3.congr (by simp), hb12.trans (hb3.mono hb12.size), fun b hl => (ag b (Nat.lt_of_lt_of_le hl hb12.size)).trans (low2 b hl)⟩
  clear ag ht ht3 hb3 hb12 low2
  have hks : ∀ k ∈ ks, k < 4294967296 := by
    intro k hk
    obtain ⟨i, hi, rfl⟩ := List.getElem_of_mem hk
    obtain ⟨_, _, _, _, h⟩ := HS.out.getU i hi
    exact h
  have HK := Lib.hid hks
  clear hks
  go_wp2
  go_loopw [38] (fun i wr => ∃ (k n : Nat) (χ : Col), k ≤ ks.length ∧ i = .int .i64 k ∧ n ≤ 33 * k ∧ Tw w χ wr pa pb (rowI ks k) (rowI ks k) (evI ks k) (evI ks k) n n) (fun i _ => ks.length - (intOf i).toNat)
  case atStart => exact ⟨0, 0, χ3, by omega, rfl, by omega, T3⟩
  case round =>
    obtain ⟨k, n, χ, hk, rfl, hn33, L⟩ := hrel
    by_cases hlt : k < ks.length
    · obtain ⟨gb, go, rfl, hcell0, hkl⟩ := HS.out.getU k hlt
      have hcell := below_cell L.bel hcell0
      have hE := Lib.hid (evI_succ ks k hlt)
      have hR : Hid (rowI ks (k + 1) = putL ks[k] k (rowI ks k)) := by show putL (ks.getD k 0) k _ = _; simp [hlt]
      have hm := lackL_le (evI ks k) ks[k]
      have hev : ∀ x ∈ evI ks k, x < 4294967296 := fun x hx => HK.out x (List.mem_of_mem_take (List.mem_reverse.1 hx))
      have HEV := Lib.hid hev
      have hG : Hid (ks.getD k 0 = ks[k]) := by show _ = _; simp [hlt]
      clear hev
      go_wp2_with fail
      refine (s_putC wr 1 ks[k] k L.ta HEV.out hkl (by unfold wrap64; omega) (by omega)).mono ?_
      rintro e w4 ⟨rfl, hs⟩
      obtain ⟨χ4, -, -, L4⟩ := L.a hs
      clear hs
      go_wp2_with fail
      refine (s_putC w4 21 ks[k] k L4.tb HEV.out hkl (by unfold wrap64; omega) (by omega)).mono ?_
      rintro e w5 ⟨rfl, hs⟩
      obtain ⟨χ5, -, -, L5⟩ := L4.b hs
      clear hs
      go_wp2
      go_roundw
      case rel => exact ⟨k + 1, n + lackL (evI ks k) ks[k], χ5, hlt, by go_num, by omega, by rw [hE.out, hR.out, hG.out]; exact L5⟩
      case measure => simp [intOf]; omega
    · have hkk : k = ks.length := by omega
      subst hkk
      have hrl := rowI_len ks ks.length
      obtain ⟨ev, hev⟩ : ∃ ev, ev = evI ks ks.length := ⟨_, rfl⟩
      obtain ⟨row, hrow⟩ : ∃ row, row = rowI ks ks.length := ⟨_, rfl⟩
      rw [← hrow, ← hev] at L
      rw [← hrow] at hrl
      have F1 : Hid (row.filter (inS 0 4294967295) = row) := filter_whole L.ta.len.2
      clear hrow hev
      obtain ⟨ls, lm, lx, hAL⟩ : ∃ ls lm lx, agV (vals row) = ⟨row.length, ls, lm, lx⟩ := let ⟨mn, mx, h⟩ := agV_form row; ⟨_, mn, mx, h⟩
      have E1 := Lib.hid hAL
      clear hAL
      go_wp2_with fail
      refine (s_fold _ 0 4294967295 L.ta).mono ?_
      rw [F1.out, E1.out]
      rintro e w4 ⟨rfl, hs⟩
      obtain ⟨χ4, -, -, L4⟩ := L.a hs
      clear hs L
      simp only [Ag.val]
      go_wp2
      go_loopw [12, 58] (fun q i wr => ∃ (j m : Nat) (χ : Col), j ≤ sp.length ∧ i = .int .i64 j ∧ q = .int .i64 m ∧ m + (leave (sp.take j) row).length = row.length ∧ Tw w χ wr pa pb (leave (sp.take j) row) row ev ev n n) (fun _ i _ => sp.length - (intOf i).toNat)
      case atStart => exact ⟨0, 0, χ4, by omega, rfl, rfl, by simp [leave_nil], by simpa [leave_nil] using L4⟩
      case round =>
        obtain ⟨j, m, χ, hj, rfl, rfl, hm, T⟩ := hrel
        by_cases hlt : j < sp.length
        · obtain ⟨gb, go, rfl, p0, p1, q0, q1⟩ := (HR.out.keep T.bel).get j hlt
          have hT : Hid (leave (sp.take (j + 1)) row = (leave (sp.take j) row).filter (fun x => !inS sp[j].1 sp[j].2 x)) := by show _ = _; rw [List.take_succ_eq_append_getElem hlt, leave_snoc]
          obtain ⟨s, hs⟩ : ∃ s, s = sp[j] := ⟨_, rfl⟩
          rw [← hs] at p0 p1 q0 q1 hT
          have hlv := leave_len (sp.take j) row
          obtain ⟨r, hr⟩ : ∃ r, r = leave (sp.take j) row := ⟨_, rfl⟩
          rw [← hr] at hm T hT hlv
          have hfl := filter_len (inS s.1 s.2) r
          obtain ⟨cn, hcn⟩ : ∃ cn, cn = (r.filter (inS s.1 s.2)).length := ⟨_, rfl⟩
          rw [← hcn] at hfl
          obtain ⟨r', hr'⟩ : ∃ r', r' = r.filter (fun x => !inS s.1 s.2 x) := ⟨_, rfl⟩
          rw [← hr'] at hfl hT
          have HCN := Lib.hid hcn
          have HR' := Lib.hid hr'
          have hm2 : m + cn + r'.length = row.length := by omega
          have HM2 := Lib.hid hm2
          have hmc : m + cn ≤ 40 := by omega
          have T1 := T.alloc (BoxS s.1 s.2)
          have D1 := Dat.new χ wr (BoxS s.1 s.2)
          obtain ⟨⟨x0, x1⟩, -⟩ := cells2 D1.at_
          clear hs hr hcn hr' hfl T hm hm2
          go_wp2_with fail
          refine (s_kill _ s.1 s.2 T1.ta).mono ?_
          rw [agc, ← HCN.out, ← HR'.out]
          rintro e w5 ⟨rfl, hs⟩
          obtain ⟨χ5, ag, ch, T5⟩ := T1.a hs
          have D5 := D1.call ag ch
          clear T1 D1 hs ag ch x0 x1
          obtain ⟨⟨x0, x1⟩, -⟩ := cells2 D5.at_
          have hk1 : r'.filter (inS s.1 s.2) = [] := by rw [HR'.out]; exact filter_kill _ _ _
          have hk2 : r'.filter (fun x => !inS s.1 s.2 x) = r' := by rw [HR'.out]; exact filter_two _ _
          have HK1 := Lib.hid hk1
          have HK2 := Lib.hid hk2
          clear hk1 hk2
          go_wp2_with fail
          refine (s_kill _ s.1 s.2 T5.ta).mono ?_
          rw [agc, HK1.out, HK2.out]
          rintro e w6 ⟨rfl, hs⟩
          obtain ⟨χ6, ag, ch, T6⟩ := T5.a hs
          have D6 := D5.call ag ch
          clear T5 D5 hs ag ch x0 x1
          obtain ⟨⟨x0, x1⟩, -⟩ := cells2 D6.at_
          have he0 : agV (vals ([] : List (Nat × Int))) = ⟨0, 0, 0, 0⟩ := rfl
          have HE0 := Lib.hid he0
          clear he0
          go_wp2_with fail
          refine (s_fold _ s.1 s.2 T6.ta).mono ?_
          rw [HK1.out, HE0.out]
          rintro e w7 ⟨rfl, hs⟩
          obtain ⟨χ7, ag, ch, T7⟩ := T6.a hs
          clear T6 D6 hs ag ch x0 x1
          simp only [Ag.val]
          go_wp2
          go_roundw
          case rel => exact ⟨j + 1, m + cn, χ7, hlt, by go_num, by go_num, by rw [hT.out]; exact HM2.out, by rw [hT.out]; exact T7⟩
          case measure => simp [intOf]; omega
        · have hjj : j = sp.length := by omega
          subst hjj
          rw [List.take_length] at hm T
          have HMA := Lib.hid hm
          have hma : m ≤ 40 := by omega
          clear hm
          go_wp2_with fail
          refine (make_calls _ _ _ (HR.out.keep T.bel) (by omega)).mono ?_
          rintro e w5 ⟨v5, mk, rfl, N5, hset, hml, hb5⟩
          have T5 := T.below hb5 10
          have I5 := N5.col (c := 10) (χ := paint χ wr.heap.size 10) (fun b hb => paint_high hb)
          obtain ⟨A5, c5, rfl⟩ := N5.form
          have HLV := Lib.hid (leave_congr (l := mk) (m := sp) hset.iff row)
          clear N5 hset hb5 T
          go_wp2
          go_loopw [13, 82] (fun q i wr => ∃ (j m2 : Nat) (χ : Col), j ≤ mk.length ∧ i = .int .i64 j ∧ q = .int .i64 m2 ∧ m2 + (leave (mk.take j) row).length = row.length ∧ Tw w χ wr pa pb (leave sp row) (leave (mk.take j) row) ev ev n n ∧ IsL 2 rSpan 10 χ wr (.slice A5 mk.length c5) mk) (fun _ i _ => mk.length - (intOf i).toNat)
          case atStart => exact ⟨0, 0, _, by omega, rfl, rfl, by simp [leave_nil], by simpa [leave_nil] using T5, I5⟩
          case round =>
            obtain ⟨j, m2, χ, hj, rfl, rfl, hm, T, I⟩ := hrel
            by_cases hlt : j < mk.length
            · obtain ⟨gb, go, rfl, p0, p1, q0, q1⟩ := I.blind.get j hlt
              have hT : Hid (leave (mk.take (j + 1)) row = (leave (mk.take j) row).filter (fun x => !inS mk[j].1 mk[j].2 x)) := by show _ = _; rw [List.take_succ_eq_append_getElem hlt, leave_snoc]
              obtain ⟨s, hs⟩ : ∃ s, s = mk[j] := ⟨_, rfl⟩
              rw [← hs] at p0 p1 q0 q1 hT
              have hlv := leave_len (mk.take j) row
              obtain ⟨r, hr⟩ : ∃ r, r = leave (mk.take j) row := ⟨_, rfl⟩
              rw [← hr] at hm T hT hlv
              have hfl := filter_len (inS s.1 s.2) r
              obtain ⟨cn, hcn⟩ : ∃ cn, cn = (r.filter (inS s.1 s.2)).length := ⟨_, rfl⟩
              rw [← hcn] at hfl
              obtain ⟨r', hr'⟩ : ∃ r', r' = r.filter (fun x => !inS s.1 s.2 x) := ⟨_, rfl⟩
              rw [← hr'] at hfl hT
              have HCN := Lib.hid hcn
              have HR' := Lib.hid hr'
              have HM2 := Lib.hid (show m2 + cn + r'.length = row.length by omega)
              have hmc : m2 + cn ≤ 40 := by omega
              have T1 := T.alloc (BoxS s.1 s.2)
              have I1 := IsL.keep (D := (· = 10)) (by omega) (rSpan_on _) rfl I (Same.below 10 ((Below.refl _ wr).alloc (Nat.le_refl _) (BoxS s.1 s.2)))
              have D1 := Dat.new χ wr (BoxS s.1 s.2)
              obtain ⟨⟨x0, x1⟩, -⟩ := cells2 D1.at_
              clear hs hr hcn hr' hfl T hm I
              go_wp2_with fail
              refine (s_kill _ s.1 s.2 T1.tb).mono ?_
              rw [agc, ← HCN.out, ← HR'.out]
              rintro e w6 ⟨rfl, hs⟩
              obtain ⟨χ6, ag, ch, T6⟩ := T1.b hs
              have I6 := IsL.keep (D := (· = 10)) (by omega) (rSpan_on _) rfl I1 (Same.chg' ch ag fun x hx => by unfold tree2; omega)
              clear T1 D1 hs ag ch x0 x1 I1
              go_wp2
              go_roundw
              case rel => exact ⟨j + 1, m2 + cn, χ6, hlt, by go_num, by go_num, by rw [hT.out]; exact HM2.out, by rw [hT.out]; exact T6, I6⟩
              case measure => simp [intOf]; omega
            · have hjj : j = mk.length := by omega
              subst hjj
              rw [List.take_length, HLV.out] at hm T
              have hmm : m2 = m := by have := HMA.out; omega
              subst hmm
              have hlv := leave_len sp row
              obtain ⟨r, hr⟩ : ∃ r, r = leave sp row := ⟨_, rfl⟩
              rw [← hr] at hm T hlv
              clear hr I HMA
              have HM := Lib.hid hm
              have hsub : ((row.length : Int) - (m2 : Int)) = (r.length : Int) := by omega
              have HSUB := Lib.hid hsub
              clear hm hsub
              have hr40 : r.length ≤ 40 := by omega
              go_wp2_with fail
              refine (s_pairsC _ 1000 1 40 T.ta (by decide) (by decide) (by omega)).mono ?_
              rintro e w6 hs
              obtain ⟨A6, c6, χ6, rfl, ag, ch, T6, P6⟩ := T.prA hs (by omega)
              clear T hs ag ch
              have R6 := Lib.hid P6.rd
              go_wp2_with fail
              refine (s_pairsC _ 1000 21 60 T6.tb (by decide) (by decide) (by omega)).mono ?_
              rintro e w7 hs
              obtain ⟨A7, c7, χ7, rfl, ag, ch, T7, P7⟩ := T6.prB hs (by omega)
              have Q6 := Lib.hid (R6.out.keep (Same.chg' ch ag fun x hx => by subst hx; unfold tree2; omega))
              have Q7 := Lib.hid P7.rd
              clear T6 hs ag ch P6 P7
              go_wp2_with fail
              refine (same_calls _ _ _ r Q6.out Q7.out).mono ?_
              rintro e w8 ⟨rfl, d, rfl⟩
              have T8 := T7.drew d
              clear T7
              go_wp2_with fail
              refine (s_pairsC _ 1000 1 40 T8.ta (by decide) (by decide) (by omega)).mono ?_
              rintro e w9 hs
              obtain ⟨A9, c9, χ9, rfl, ag, ch, T9, -⟩ := T8.prA hs (by omega)
              clear T8 hs ag ch
              have hsb : ((r.length : Int) == (row.length : Int) - (m2 : Int)) = true := by rw [HSUB.out]; simp
              go_wp2_with fail
              refine (s_nodes _ T9.ta).mono ?_
              rintro e w9 ⟨rfl, rfl⟩
              go_wp2_with fail
              refine (s_nodes _ T9.tb).mono ?_
              rintro e w9 ⟨rfl, rfl⟩
              go_wp2
              go_ret
              exact ⟨rfl, T9.bel⟩

set_option maxRecDepth 100000 in
set_option maxHeartbeats 2000000 in
theorem kills_no (w : World) (v u : Value) (ks : List Nat) (sp : List Sp) (hs : IsU 0 (fun _ => 0) w v ks) (hr : RdS w u sp) (hn : 40 < ks.length ∨ 10 < sp.length) :
    Calls Try.prog 8 #[v, u] w fun e w' => e = .returned (.bool true) ∧ Below w.heap.size w w' := by
  obtain ⟨A, c, rfl, a1, a2, a3, -⟩ := id hs
  obtain ⟨A', c', rfl, b1, b2, b3, -⟩ := id hr
  unfold maxLen at a2 b2
  clear hs hr
  by_cases c0 : 40 < ks.length
  · have k0 : decide ((40 : Int) < ks.length) = true := by simp; omega
    clear hn
    go_enter Try.func8, Try.ntmps8
    go_wp2_with fail
    refine (alive_calls _).mono ?_
    rintro e W0 ⟨rfl, hbw⟩
    go_wp2
    go_ret
    exact ⟨rfl, hbw⟩
  · have k0 : decide ((40 : Int) < ks.length) = false := by simp; omega
    have k1 : decide ((10 : Int) < sp.length) = true := by simp; omega
    clear hn
    go_enter Try.func8, Try.ntmps8
    go_wp2_with fail
    refine (alive_calls _).mono ?_
    rintro e W0 ⟨rfl, hbw⟩
    go_wp2
    go_ret
    exact ⟨rfl, hbw⟩
theorem kills_law (w : World) (v u : Value) (ks : List Nat) (sp : List Sp) (hs : IsU 0 (fun _ => 0) w v ks) (hr : RdS w u sp) :
    Calls Try.prog 8 #[v, u] w fun e w' => e = .returned (.bool true) ∧ Below w.heap.size w w' := by
  by_cases h : 40 < ks.length ∨ 10 < sp.length
  · exact kills_no w v u ks sp hs hr h
  · exact kills_yes w v u ks sp hs hr (by omega) (by omega)
end Go.Proofs.Ytcdldjiogoapkaa
