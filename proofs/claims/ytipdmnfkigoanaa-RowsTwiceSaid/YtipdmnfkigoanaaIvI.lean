import Derived.Test.YtipdmnfkigoanaaIvH
namespace Go.Proofs.Ytipdmnfkigoanaa
open Go.RowKit
attribute [local go_sem] World.cell?_alloc_some frozen_alloc_some

theorem buildN_succ (p : Nat → Bool) (c : List Nat) (i : Nat) (h : i + 1 < c.length) : buildN p c (i + 1) = if p c[i] then growL (buildN p c i) c[i] c[i + 1] else buildN p c i := by
  rw [buildN]
  simp [List.getD, List.getElem?_eq_getElem h, List.getElem?_eq_getElem (show i < c.length by omega)]

set_option maxRecDepth 100000 in
set_option maxHeartbeats 8000000 in
theorem build_calls (w : World) (v u : Value) (l m : List Sp) (kind : Int) (hr : RdS w v l) (hr2 : RdS w u m) (hn : l.length ≤ 10000) (hn2 : m.length ≤ 10000) (hkind : kind = 0 ∨ kind = 1 ∨ kind = 2 ∨ kind = 3) :
    Calls Try.prog 32 #[v, u, .int .i64 kind] w fun e w' => ∃ v', e = .returned v' ∧ NewS w.heap.size w' v' (buildL l m kind) ∧ Below w.heap.size w w' := by
  obtain ⟨A, cap, rfl, a1, a2, a3, -⟩ := id hr
  obtain ⟨A2, cap2, rfl, b1, b2, b3, -⟩ := id hr2
  have hb0 := (Below.refl w.heap.size w).alloc (Nat.le_refl _) (.cells #[.slice A l.length cap, .slice A2 m.length cap2] 64)
  have HC := Lib.hid (cutsL_ok (l ++ m) (WfS.append hr.wf hr2.wf))
  have HR := Lib.hid hr
  have HR2 := Lib.hid hr2
  have HRa := Lib.hid (hr.keep hb0)
  have HRa2 := Lib.hid (hr2.keep hb0)
  have HB := Lib.hid (heap_alloc_at w (.cells #[.slice A l.length cap, .slice A2 m.length cap2] 64))
  have HK := Lib.hid hkind
  clear hr hr2 hkind
  go_enter Try.func32, Try.ntmps32
  go_wp2_with fail
  refine (cuts_calls _ _ _ _ _ _ HB.out HRa.out HRa2.out hn hn2).mono ?_
  rintro e w1 ⟨v1, rfl, R1, hb1⟩
  have hb1 := hb0.trans (hb1.mono hb0.size)
  have hlen := HC.out.len
  have hpos : 0 < (cutsL (l ++ m)).length := List.length_pos_of_mem HC.out.zero
  obtain ⟨c, hc⟩ : ∃ c, c = cutsL (l ++ m) := ⟨_, rfl⟩
  rw [← hc] at R1 hlen hpos HC
  simp only [List.length_append] at hlen
  have HCE := Lib.hid hc
  have H1 := Lib.hid R1
  obtain ⟨A3, cap3, rfl, c1, c2, c3, -⟩ := id R1
  unfold maxLen at c2
  clear hc R1
  have HP : Hid (buildL l m kind = buildN (fun k => pK kind (memB k l) (memB k m)) c (c.length - 1)) := by show _ = _; unfold buildL; rw [HCE.out]
  obtain ⟨p, hp⟩ : ∃ p : Nat → Bool, p = fun k => pK kind (memB k l) (memB k m) := ⟨_, rfl⟩
  rw [← hp] at HP
  have HPE := Lib.hid hp
  clear hp
  have hwf : Hid (∀ i, i + 1 ≤ c.length → WfS (buildN p c i)) := by
    intro i hi
    induction i with
    | zero => intro s hs; simp [buildN] at hs
    | succ i ih =>
      rw [buildN_succ _ _ _ (by omega)]
      have hlt := List.pairwise_iff_getElem.1 HC.out.srt i (i + 1) (by omega) (by omega) (by omega)
      have hle := HC.out.le c[i + 1] (List.getElem_mem _)
      split
      · exact growL_wf (ih (by omega)) (by omega) hle (by omega)
      · exact ih (by omega)
  have o9 := World.ownsRow_made (base := w1.heap.size) (e := 63) (size := 2) w1 #[] 0 (Nat.le_refl _) (Nat.zero_le _) rfl
  have HO9 := Lib.hid o9
  have hb9 := (Below.refl w1.heap.size w1).alloc (Nat.le_refl _) (.cells #[] 63)
  clear o9
  go_wp2
  go_loopw [8, 9] (fun v i wr => ∃ q : Nat, q + 1 ≤ c.length ∧ i = .int .i64 q ∧ wr.ownsRow w1.heap.size 63 2 v (buildN p c q).length ((buildN p c q).flatMap spc) ∧ Below w1.heap.size w1 wr) (fun _ i _ => c.length - (intOf i).toNat)
  case atStart => exact ⟨0, by omega, rfl, HO9.out, hb9⟩
  case round =>
    obtain ⟨q, hq, rfl, V, hbr⟩ := hrel
    have hbw := hb1.trans (hbr.mono hb1.size)
    have hbl := buildN_len p c q
    obtain ⟨A5, cap5, rfl⟩ := owns_form V
    by_cases hlt : q + 1 < c.length
    · have hqc : q < c.length := by omega
      obtain ⟨gb, go, rfl, hc0⟩ := (RdN.keep H1.out hbr).get q hqc
      obtain ⟨gb', go', e, hc1⟩ := (RdN.keep H1.out hbr).get (q + 1) hlt
      cases e
      have hci := HC.out.le c[q] (List.getElem_mem hqc)
      have hci2 := HC.out.le c[q + 1] (List.getElem_mem hlt)
      have hcl := List.pairwise_iff_getElem.1 HC.out.srt q (q + 1) hqc hlt (by omega)
      have HS := Lib.hid (buildN_succ p c q hlt)
      have HWO := Lib.hid (hwf.out q (by omega))
      have hpv : p c[q] = pK kind (memB c[q] l) (memB c[q] m) := by rw [HPE.out]
      obtain ⟨f, hf⟩ : ∃ f, f = c[q] := ⟨_, rfl⟩
      obtain ⟨t, ht⟩ : ∃ t, t = c[q + 1] := ⟨_, rfl⟩
      rw [← hf] at hc0 hci hcl HS hpv
      rw [← ht] at hc1 hci2 hcl HS
      obtain ⟨x, hx⟩ : ∃ x, x = memB f l := ⟨_, rfl⟩
      obtain ⟨y, hy⟩ : ∃ y, y = memB f m := ⟨_, rfl⟩
      rw [← hx, ← hy] at hpv
      have HX := Lib.hid hx
      have HY := Lib.hid hy
      obtain ⟨o, ho⟩ : ∃ o, o = buildN p c q := ⟨_, rfl⟩
      rw [← ho] at V HS hbl HWO ⊢
      have HPV := Lib.hid hpv
      have HRw := Lib.hid (HR.out.keep hbw)
      have HR2w := Lib.hid (HR2.out.keep hbw)
      clear hf ht hx hy hpv ho
      go_wp2_with fail
      refine (refHas_calls _ _ _ _ HRw.out).mono ?_
      rw [← HX.out]
      rintro e wr ⟨rfl, rfl⟩
      go_wp2_with fail
      refine (refHas_calls _ _ _ _ HR2w.out).mono ?_
      rw [← HY.out]
      rintro e wr ⟨rfl, rfl⟩
      have hgrow : Hid (∀ W, (∃ d, W = wr.drewN d) → Calls Try.prog 40 #[.slice A5 o.length cap5, .int .i64 f, .int .i64 t] W fun e w' => ∃ v', e = .returned v' ∧ w'.ownsRow w1.heap.size 63 2 v' (growL o f t).length ((growL o f t).flatMap spc) ∧ Below w1.heap.size w1 w') := by
        rintro W ⟨d, rfl⟩
        refine (grow_calls (wr.drewN d) _ o f t w1.heap.size (owns_same V fun _ _ => rfl) HWO.out hbr.size (by omega) hcl hci2).mono ?_
        rintro e w' ⟨v', rfl, h1, h2⟩
        exact ⟨v', rfl, h1, hbr.trans (undrewN h2)⟩
      by_cases hpt : p f = true
      · have HS2 : Hid (buildN p c (q + 1) = growL o f t) := by show _ = _; rw [HS.out, if_pos hpt]
        have HT := Lib.hid hpt
        clear hpt
        rcases HK.out with hk | hk | hk | hk
        all_goals
          subst hk
          cases x
          all_goals
            cases y
            all_goals
              first
                | (have := HPV.out.symm.trans HT.out; simp [pK] at this; done)
                | (have kq1 : IntKind.i64.wrap ((q : Int) + 1) = (q : Int) + 1 := by rw [IntKind.wrap_i64]; omega
                   have kq2 : ((q : Int) + 1).toNat = q + 1 := by omega
                   have kq3 : 0 ≤ (q : Int) + 1 := by omega
                   have kq4 : (q : Int) + 1 < (c.length : Int) := by omega
                   go_wp2
                   go_region_law (go_simp; go_at_call 40; refine (hgrow.out _ (by first | exact ⟨_, rfl⟩ | exact drewN_ex _ _ _ | exact drew_ex _ _)).mono ?_; rintro e w6 ⟨v6, rfl, V6, hb6⟩)
                   all_goals go_wp2
                   all_goals refine ⟨⟨q + 1, by omega, by go_num, by rw [HS2.out]; exact V6, hb6⟩, by simp [intOf]; omega⟩)
      · have HS2 : Hid (buildN p c (q + 1) = o) := by show _ = _; rw [HS.out, if_neg hpt]
        have HT : Hid (p f = false) := Bool.eq_false_iff.2 hpt
        clear hpt
        rcases HK.out with hk | hk | hk | hk
        all_goals
          subst hk
          cases x
          all_goals
            cases y
            all_goals
              first
                | (have := HPV.out.symm.trans HT.out; simp [pK] at this; done)
                | (go_wp2
                   refine ⟨⟨q + 1, by omega, by go_num, by rw [HS2.out]; exact V, hbr⟩, by simp [intOf]; omega⟩)
    · have hqe : q = c.length - 1 := by omega
      have HN : Hid (NewS w.heap.size wr (.slice A5 (buildN p c q).length cap5) (buildL l m kind)) := by
        show NewS _ _ _ _
        rw [HP.out, ← hqe]
        exact ⟨V.mono_base hb1.size, hwf.out q (by omega), by omega⟩
      clear hqe
      go_wp2
      go_ret
      exact ⟨_, rfl, HN.out, hbw⟩
end Go.Proofs.Ytipdmnfkigoanaa
