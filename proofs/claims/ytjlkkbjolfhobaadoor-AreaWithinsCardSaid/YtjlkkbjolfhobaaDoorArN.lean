import Derived.Test.YtjlkkbjolfhobaaDoorArM
namespace Go.Proofs.YtjlkkbjolfhobaaDoor
open Go.RowKit
attribute [local go_sem] World.cell?_alloc_some frozen_alloc_some

set_option maxRecDepth 100000 in
set_option maxHeartbeats 40000000 in
theorem withins_law (w : World) (va vb vc : Value) (a b c : Ar) (ha : RdA w va a) (hbr : RdA w vb b) (hcr : RdA w vc c) (hT : Tab w) :
    Calls Tryd.prog 6 #[va, vb, vc] w fun e w' => e = .returned (.bool true) ∧ Below w.heap.size w w' := by
  obtain ⟨Aa, ca, rfl, -⟩ := id ha
  obtain ⟨Ab, cb, rfl, -⟩ := id hbr
  obtain ⟨Ac, cc, rfl, -⟩ := id hcr
  have HL := Lib.hid (((RdAA.nil.cons ha).cons hbr).cons hcr)
  have HT := Lib.hid hT
  clear ha hbr hcr hT
  go_enter Tryd.func6, Tryd.ntmps6
  go_wp2_with fail
  refine (alive_calls _ HT.out).mono ?_
  rintro e W0 ⟨rfl, hb⟩
  have HL := Lib.hid (HL.out.keep hb)
  have hbw := hb
  clear hb HT
  cases fa : fewB a with
  | false =>
    go_wp2_with fail
    refine (few_calls _ _ a (HL.out.at_ 2 rfl)).mono ?_
    rw [fa]
    rintro e W0 ⟨rfl, rfl⟩
    go_wp2
    go_ret
    exact ⟨rfl, hbw⟩
  | true =>
  go_wp2_with fail
  refine (few_calls _ _ a (HL.out.at_ 2 rfl)).mono ?_
  rw [fa]
  rintro e W0 ⟨rfl, rfl⟩
  cases fb : fewB b with
  | false =>
    go_wp2_with fail
    refine (few_calls _ _ b (HL.out.at_ 1 rfl)).mono ?_
    rw [fb]
    rintro e W0 ⟨rfl, rfl⟩
    go_wp2
    go_ret
    exact ⟨rfl, hbw⟩
  | true =>
  go_wp2_with fail
  refine (few_calls _ _ b (HL.out.at_ 1 rfl)).mono ?_
  rw [fb]
  rintro e W0 ⟨rfl, rfl⟩
  cases fc : fewB c with
  | false =>
    go_wp2_with fail
    refine (few_calls _ _ c (HL.out.at_ 0 rfl)).mono ?_
    rw [fc]
    rintro e W0 ⟨rfl, rfl⟩
    go_wp2
    go_ret
    exact ⟨rfl, hbw⟩
  | true =>
  go_wp2_with fail
  refine (few_calls _ _ c (HL.out.at_ 0 rfl)).mono ?_
  rw [fc]
  rintro e W0 ⟨rfl, rfl⟩
  have S_a : Hid (Sm 20 a) := (fewB_iff.1 fa).1
  have S_b : Hid (Sm 20 b) := (fewB_iff.1 fb).1
  have S_c : Hid (Sm 20 c) := (fewB_iff.1 fc).1
  have L_a : Hid (a.length ≤ 100) := Nat.le_trans (fewB_iff.1 fa).2 (by omega)
  have L_b : Hid (b.length ≤ 100) := Nat.le_trans (fewB_iff.1 fb).2 (by omega)
  have L_c : Hid (c.length ≤ 100) := Nat.le_trans (fewB_iff.1 fc).2 (by omega)
  clear fa fb fc
  cases Qab : subB a b with
  | false =>
    cases Qac : subB a c with
    | false =>
      cases Qbc : subB b c with
      | false =>
        have QAM : ∀ m, IsM b c m → subB a m = false := fun m h => by rw [sub_meet h, Qab, Qac]; rfl
        have QUC : ∀ u, IsU a b u → subB u c = false := fun u h => by rw [sub_union h, Qac, Qbc]; rfl
        go_wp2_with fail
        refine (area_meet _ _ _ b c 20 20 (HL.out.at_ 1 rfl) (HL.out.at_ 0 rfl) L_b.out L_c.out S_b.out S_c.out (by omega) (by omega)).mono ?_
        rintro e W1 ⟨v_m, m, rfl, R_m, l_m, h_m, s_m, hb⟩
        obtain ⟨A_m, c_m, rfl, -⟩ := id R_m
        have L_m : Hid (m.length ≤ 100) := by show _ ≤ _; have := L_b.out; have := L_c.out; omega
        have S_m := Lib.hid s_m
        have H_m : Hid (IsM b c m) := h_m
        have HL := Lib.hid ((HL.out.keep hb).cons R_m)
        have hbw := hbw.trans (hb.mono hbw.size)
        clear R_m l_m h_m s_m hb
        go_wp2_with fail
        refine (within_b _ _ _ a m (HL.out.at_ 3 rfl) (HL.out.at_ 0 rfl) L_a.out L_m.out (S_a.out.mono (by omega)) (S_m.out.mono (by omega))).mono ?_
        rw [QAM _ H_m.out]
        rintro e W2 ⟨rfl, hb⟩
        have HL := Lib.hid ((HL.out.keep hb))
        have hbw := hbw.trans (hb.mono hbw.size)
        clear hb
        go_wp2_with fail
        refine (within_b _ _ _ a b (HL.out.at_ 3 rfl) (HL.out.at_ 2 rfl) L_a.out L_b.out (S_a.out.mono (by omega)) (S_b.out.mono (by omega))).mono ?_
        rw [Qab]
        rintro e W3 ⟨rfl, hb⟩
        have HL := Lib.hid ((HL.out.keep hb))
        have hbw := hbw.trans (hb.mono hbw.size)
        clear hb
        go_wp2_with fail
        refine (area_union _ _ _ a b 20 20 (HL.out.at_ 3 rfl) (HL.out.at_ 2 rfl) L_a.out L_b.out S_a.out S_b.out (by omega) (by omega)).mono ?_
        rintro e W4 ⟨v_u, u, rfl, R_u, l_u, h_u, s_u, hb⟩
        obtain ⟨A_u, c_u, rfl, -⟩ := id R_u
        have L_u : Hid (u.length ≤ 100) := by show _ ≤ _; have := L_a.out; have := L_b.out; omega
        have S_u := Lib.hid s_u
        have H_u : Hid (IsU a b u) := h_u
        have HL := Lib.hid ((HL.out.keep hb).cons R_u)
        have hbw := hbw.trans (hb.mono hbw.size)
        clear R_u l_u h_u s_u hb
        go_wp2_with fail
        refine (within_b _ _ _ u c (HL.out.at_ 0 rfl) (HL.out.at_ 2 rfl) L_u.out L_c.out (S_u.out.mono (by omega)) (S_c.out.mono (by omega))).mono ?_
        rw [QUC _ H_u.out]
        rintro e W5 ⟨rfl, hb⟩
        have HL := Lib.hid ((HL.out.keep hb))
        have hbw := hbw.trans (hb.mono hbw.size)
        clear hb
        go_wp2_with fail
        refine (within_b _ _ _ a c (HL.out.at_ 4 rfl) (HL.out.at_ 2 rfl) L_a.out L_c.out (S_a.out.mono (by omega)) (S_c.out.mono (by omega))).mono ?_
        rw [Qac]
        rintro e W6 ⟨rfl, hb⟩
        have HL := Lib.hid ((HL.out.keep hb))
        have hbw := hbw.trans (hb.mono hbw.size)
        clear hb
        go_wp2_with fail
        refine (within_b _ _ _ a b (HL.out.at_ 4 rfl) (HL.out.at_ 3 rfl) L_a.out L_b.out (S_a.out.mono (by omega)) (S_b.out.mono (by omega))).mono ?_
        rw [Qab]
        rintro e W7 ⟨rfl, hb⟩
        have HL := Lib.hid ((HL.out.keep hb))
        have hbw := hbw.trans (hb.mono hbw.size)
        clear hb
        go_wp2_with fail
        refine (area_meet _ _ _ a b 20 20 (HL.out.at_ 4 rfl) (HL.out.at_ 3 rfl) L_a.out L_b.out S_a.out S_b.out (by omega) (by omega)).mono ?_
        rintro e W8 ⟨v_m2, m2, rfl, R_m2, l_m2, h_m2, s_m2, hb⟩
        obtain ⟨A_m2, c_m2, rfl, -⟩ := id R_m2
        have L_m2 : Hid (m2.length ≤ 100) := by show _ ≤ _; have := L_a.out; have := L_b.out; omega
        have S_m2 := Lib.hid s_m2
        have H_m2 : Hid (IsM a b m2) := h_m2
        have HL := Lib.hid ((HL.out.keep hb).cons R_m2)
        have hbw := hbw.trans (hb.mono hbw.size)
        clear R_m2 l_m2 h_m2 s_m2 hb
        go_wp2_with fail
        refine (area_union _ _ _ b c 20 20 (HL.out.at_ 4 rfl) (HL.out.at_ 3 rfl) L_b.out L_c.out S_b.out S_c.out (by omega) (by omega)).mono ?_
        rintro e W9 ⟨v_u2, u2, rfl, R_u2, l_u2, h_u2, s_u2, hb⟩
        obtain ⟨A_u2, c_u2, rfl, -⟩ := id R_u2
        have L_u2 : Hid (u2.length ≤ 100) := by show _ ≤ _; have := L_b.out; have := L_c.out; omega
        have S_u2 := Lib.hid s_u2
        have H_u2 : Hid (IsU b c u2) := h_u2
        have HL := Lib.hid ((HL.out.keep hb).cons R_u2)
        have hbw := hbw.trans (hb.mono hbw.size)
        clear R_u2 l_u2 h_u2 s_u2 hb
        go_wp2_with fail
        refine (within_b _ _ _ m2 u2 (HL.out.at_ 1 rfl) (HL.out.at_ 0 rfl) L_m2.out L_u2.out (S_m2.out.mono (by omega)) (S_u2.out.mono (by omega))).mono ?_
        rw [sub_mu H_m2.out H_u2.out]
        rintro e W10 ⟨rfl, hb⟩
        have HL := Lib.hid ((HL.out.keep hb))
        have hbw := hbw.trans (hb.mono hbw.size)
        clear hb
        go_wp2_with fail
        refine (area_union _ _ _ a b 20 20 (HL.out.at_ 6 rfl) (HL.out.at_ 5 rfl) L_a.out L_b.out S_a.out S_b.out (by omega) (by omega)).mono ?_
        rintro e W11 ⟨v_u3, u3, rfl, R_u3, l_u3, h_u3, s_u3, hb⟩
        obtain ⟨A_u3, c_u3, rfl, -⟩ := id R_u3
        have L_u3 : Hid (u3.length ≤ 100) := by show _ ≤ _; have := L_a.out; have := L_b.out; omega
        have S_u3 := Lib.hid s_u3
        have H_u3 : Hid (IsU a b u3) := h_u3
        have HL := Lib.hid ((HL.out.keep hb).cons R_u3)
        have hbw := hbw.trans (hb.mono hbw.size)
        clear R_u3 l_u3 h_u3 s_u3 hb
        go_wp2_with fail
        refine (area_union _ _ _ b a 20 20 (HL.out.at_ 6 rfl) (HL.out.at_ 7 rfl) L_b.out L_a.out S_b.out S_a.out (by omega) (by omega)).mono ?_
        rintro e W12 ⟨v_u4, u4, rfl, R_u4, l_u4, h_u4, s_u4, hb⟩
        obtain ⟨A_u4, c_u4, rfl, -⟩ := id R_u4
        have L_u4 : Hid (u4.length ≤ 100) := by show _ ≤ _; have := L_b.out; have := L_a.out; omega
        have S_u4 := Lib.hid s_u4
        have H_u4 : Hid (IsU b a u4) := h_u4
        have HL := Lib.hid ((HL.out.keep hb).cons R_u4)
        have hbw := hbw.trans (hb.mono hbw.size)
        clear R_u4 l_u4 h_u4 s_u4 hb
        go_wp2_with fail
        refine (same_b _ _ _ u3 u4 (HL.out.at_ 1 rfl) (HL.out.at_ 0 rfl) L_u3.out L_u4.out (S_u3.out.mono (by omega)) (S_u4.out.mono (by omega))).mono ?_
        rw [sub_uu H_u3.out H_u4.out, sub_uu H_u4.out H_u3.out, Bool.and_self]
        rintro e W13 ⟨rfl, hb⟩
        have HL := Lib.hid ((HL.out.keep hb))
        have hbw := hbw.trans (hb.mono hbw.size)
        clear hb
        go_wp2_with fail
        refine (area_meet _ _ _ a b 20 20 (HL.out.at_ 8 rfl) (HL.out.at_ 7 rfl) L_a.out L_b.out S_a.out S_b.out (by omega) (by omega)).mono ?_
        rintro e W14 ⟨v_m3, m3, rfl, R_m3, l_m3, h_m3, s_m3, hb⟩
        obtain ⟨A_m3, c_m3, rfl, -⟩ := id R_m3
        have L_m3 : Hid (m3.length ≤ 100) := by show _ ≤ _; have := L_a.out; have := L_b.out; omega
        have S_m3 := Lib.hid s_m3
        have H_m3 : Hid (IsM a b m3) := h_m3
        have HL := Lib.hid ((HL.out.keep hb).cons R_m3)
        have hbw := hbw.trans (hb.mono hbw.size)
        clear R_m3 l_m3 h_m3 s_m3 hb
        go_wp2_with fail
        refine (area_meet _ _ _ b a 20 20 (HL.out.at_ 8 rfl) (HL.out.at_ 9 rfl) L_b.out L_a.out S_b.out S_a.out (by omega) (by omega)).mono ?_
        rintro e W15 ⟨v_m4, m4, rfl, R_m4, l_m4, h_m4, s_m4, hb⟩
        obtain ⟨A_m4, c_m4, rfl, -⟩ := id R_m4
        have L_m4 : Hid (m4.length ≤ 100) := by show _ ≤ _; have := L_b.out; have := L_a.out; omega
        have S_m4 := Lib.hid s_m4
        have H_m4 : Hid (IsM b a m4) := h_m4
        have HL := Lib.hid ((HL.out.keep hb).cons R_m4)
        have hbw := hbw.trans (hb.mono hbw.size)
        clear R_m4 l_m4 h_m4 s_m4 hb
        go_wp2_with fail
        refine (same_b _ _ _ m3 m4 (HL.out.at_ 1 rfl) (HL.out.at_ 0 rfl) L_m3.out L_m4.out (S_m3.out.mono (by omega)) (S_m4.out.mono (by omega))).mono ?_
        rw [sub_mm H_m3.out H_m4.out, sub_mm H_m4.out H_m3.out, Bool.and_self]
        rintro e W16 ⟨rfl, hb⟩
        have HL := Lib.hid ((HL.out.keep hb))
        have hbw := hbw.trans (hb.mono hbw.size)
        clear hb
        go_wp2
        go_ret
        exact ⟨rfl, hbw⟩
      | true =>
        have QAM : ∀ m, IsM b c m → subB a m = false := fun m h => by rw [sub_meet h, Qab, Qac]; rfl
        have QUC : ∀ u, IsU a b u → subB u c = false := fun u h => by rw [sub_union h, Qac, Qbc]; rfl
        go_wp2_with fail
        refine (area_meet _ _ _ b c 20 20 (HL.out.at_ 1 rfl) (HL.out.at_ 0 rfl) L_b.out L_c.out S_b.out S_c.out (by omega) (by omega)).mono ?_
        rintro e W1 ⟨v_m, m, rfl, R_m, l_m, h_m, s_m, hb⟩
        obtain ⟨A_m, c_m, rfl, -⟩ := id R_m
        have L_m : Hid (m.length ≤ 100) := by show _ ≤ _; have := L_b.out; have := L_c.out; omega
        have S_m := Lib.hid s_m
        have H_m : Hid (IsM b c m) := h_m
        have HL := Lib.hid ((HL.out.keep hb).cons R_m)
        have hbw := hbw.trans (hb.mono hbw.size)
        clear R_m l_m h_m s_m hb
        go_wp2_with fail
        refine (within_b _ _ _ a m (HL.out.at_ 3 rfl) (HL.out.at_ 0 rfl) L_a.out L_m.out (S_a.out.mono (by omega)) (S_m.out.mono (by omega))).mono ?_
        rw [QAM _ H_m.out]
        rintro e W2 ⟨rfl, hb⟩
        have HL := Lib.hid ((HL.out.keep hb))
        have hbw := hbw.trans (hb.mono hbw.size)
        clear hb
        go_wp2_with fail
        refine (within_b _ _ _ a b (HL.out.at_ 3 rfl) (HL.out.at_ 2 rfl) L_a.out L_b.out (S_a.out.mono (by omega)) (S_b.out.mono (by omega))).mono ?_
        rw [Qab]
        rintro e W3 ⟨rfl, hb⟩
        have HL := Lib.hid ((HL.out.keep hb))
        have hbw := hbw.trans (hb.mono hbw.size)
        clear hb
        go_wp2_with fail
        refine (area_union _ _ _ a b 20 20 (HL.out.at_ 3 rfl) (HL.out.at_ 2 rfl) L_a.out L_b.out S_a.out S_b.out (by omega) (by omega)).mono ?_
        rintro e W4 ⟨v_u, u, rfl, R_u, l_u, h_u, s_u, hb⟩
        obtain ⟨A_u, c_u, rfl, -⟩ := id R_u
        have L_u : Hid (u.length ≤ 100) := by show _ ≤ _; have := L_a.out; have := L_b.out; omega
        have S_u := Lib.hid s_u
        have H_u : Hid (IsU a b u) := h_u
        have HL := Lib.hid ((HL.out.keep hb).cons R_u)
        have hbw := hbw.trans (hb.mono hbw.size)
        clear R_u l_u h_u s_u hb
        go_wp2_with fail
        refine (within_b _ _ _ u c (HL.out.at_ 0 rfl) (HL.out.at_ 2 rfl) L_u.out L_c.out (S_u.out.mono (by omega)) (S_c.out.mono (by omega))).mono ?_
        rw [QUC _ H_u.out]
        rintro e W5 ⟨rfl, hb⟩
        have HL := Lib.hid ((HL.out.keep hb))
        have hbw := hbw.trans (hb.mono hbw.size)
        clear hb
        go_wp2_with fail
        refine (within_b _ _ _ a c (HL.out.at_ 4 rfl) (HL.out.at_ 2 rfl) L_a.out L_c.out (S_a.out.mono (by omega)) (S_c.out.mono (by omega))).mono ?_
        rw [Qac]
        rintro e W6 ⟨rfl, hb⟩
        have HL := Lib.hid ((HL.out.keep hb))
        have hbw := hbw.trans (hb.mono hbw.size)
        clear hb
        go_wp2_with fail
        refine (within_b _ _ _ a b (HL.out.at_ 4 rfl) (HL.out.at_ 3 rfl) L_a.out L_b.out (S_a.out.mono (by omega)) (S_b.out.mono (by omega))).mono ?_
        rw [Qab]
        rintro e W7 ⟨rfl, hb⟩
        have HL := Lib.hid ((HL.out.keep hb))
        have hbw := hbw.trans (hb.mono hbw.size)
        clear hb
        go_wp2_with fail
        refine (area_meet _ _ _ a b 20 20 (HL.out.at_ 4 rfl) (HL.out.at_ 3 rfl) L_a.out L_b.out S_a.out S_b.out (by omega) (by omega)).mono ?_
        rintro e W8 ⟨v_m2, m2, rfl, R_m2, l_m2, h_m2, s_m2, hb⟩
        obtain ⟨A_m2, c_m2, rfl, -⟩ := id R_m2
        have L_m2 : Hid (m2.length ≤ 100) := by show _ ≤ _; have := L_a.out; have := L_b.out; omega
        have S_m2 := Lib.hid s_m2
        have H_m2 : Hid (IsM a b m2) := h_m2
        have HL := Lib.hid ((HL.out.keep hb).cons R_m2)
        have hbw := hbw.trans (hb.mono hbw.size)
        clear R_m2 l_m2 h_m2 s_m2 hb
        go_wp2_with fail
        refine (area_union _ _ _ b c 20 20 (HL.out.at_ 4 rfl) (HL.out.at_ 3 rfl) L_b.out L_c.out S_b.out S_c.out (by omega) (by omega)).mono ?_
        rintro e W9 ⟨v_u2, u2, rfl, R_u2, l_u2, h_u2, s_u2, hb⟩
        obtain ⟨A_u2, c_u2, rfl, -⟩ := id R_u2
        have L_u2 : Hid (u2.length ≤ 100) := by show _ ≤ _; have := L_b.out; have := L_c.out; omega
        have S_u2 := Lib.hid s_u2
        have H_u2 : Hid (IsU b c u2) := h_u2
        have HL := Lib.hid ((HL.out.keep hb).cons R_u2)
        have hbw := hbw.trans (hb.mono hbw.size)
        clear R_u2 l_u2 h_u2 s_u2 hb
        go_wp2_with fail
        refine (within_b _ _ _ m2 u2 (HL.out.at_ 1 rfl) (HL.out.at_ 0 rfl) L_m2.out L_u2.out (S_m2.out.mono (by omega)) (S_u2.out.mono (by omega))).mono ?_
        rw [sub_mu H_m2.out H_u2.out]
        rintro e W10 ⟨rfl, hb⟩
        have HL := Lib.hid ((HL.out.keep hb))
        have hbw := hbw.trans (hb.mono hbw.size)
        clear hb
        go_wp2_with fail
        refine (area_union _ _ _ a b 20 20 (HL.out.at_ 6 rfl) (HL.out.at_ 5 rfl) L_a.out L_b.out S_a.out S_b.out (by omega) (by omega)).mono ?_
        rintro e W11 ⟨v_u3, u3, rfl, R_u3, l_u3, h_u3, s_u3, hb⟩
        obtain ⟨A_u3, c_u3, rfl, -⟩ := id R_u3
        have L_u3 : Hid (u3.length ≤ 100) := by show _ ≤ _; have := L_a.out; have := L_b.out; omega
        have S_u3 := Lib.hid s_u3
        have H_u3 : Hid (IsU a b u3) := h_u3
        have HL := Lib.hid ((HL.out.keep hb).cons R_u3)
        have hbw := hbw.trans (hb.mono hbw.size)
        clear R_u3 l_u3 h_u3 s_u3 hb
        go_wp2_with fail
        refine (area_union _ _ _ b a 20 20 (HL.out.at_ 6 rfl) (HL.out.at_ 7 rfl) L_b.out L_a.out S_b.out S_a.out (by omega) (by omega)).mono ?_
        rintro e W12 ⟨v_u4, u4, rfl, R_u4, l_u4, h_u4, s_u4, hb⟩
        obtain ⟨A_u4, c_u4, rfl, -⟩ := id R_u4
        have L_u4 : Hid (u4.length ≤ 100) := by show _ ≤ _; have := L_b.out; have := L_a.out; omega
        have S_u4 := Lib.hid s_u4
        have H_u4 : Hid (IsU b a u4) := h_u4
        have HL := Lib.hid ((HL.out.keep hb).cons R_u4)
        have hbw := hbw.trans (hb.mono hbw.size)
        clear R_u4 l_u4 h_u4 s_u4 hb
        go_wp2_with fail
        refine (same_b _ _ _ u3 u4 (HL.out.at_ 1 rfl) (HL.out.at_ 0 rfl) L_u3.out L_u4.out (S_u3.out.mono (by omega)) (S_u4.out.mono (by omega))).mono ?_
        rw [sub_uu H_u3.out H_u4.out, sub_uu H_u4.out H_u3.out, Bool.and_self]
        rintro e W13 ⟨rfl, hb⟩
        have HL := Lib.hid ((HL.out.keep hb))
        have hbw := hbw.trans (hb.mono hbw.size)
        clear hb
        go_wp2_with fail
        refine (area_meet _ _ _ a b 20 20 (HL.out.at_ 8 rfl) (HL.out.at_ 7 rfl) L_a.out L_b.out S_a.out S_b.out (by omega) (by omega)).mono ?_
        rintro e W14 ⟨v_m3, m3, rfl, R_m3, l_m3, h_m3, s_m3, hb⟩
        obtain ⟨A_m3, c_m3, rfl, -⟩ := id R_m3
        have L_m3 : Hid (m3.length ≤ 100) := by show _ ≤ _; have := L_a.out; have := L_b.out; omega
        have S_m3 := Lib.hid s_m3
        have H_m3 : Hid (IsM a b m3) := h_m3
        have HL := Lib.hid ((HL.out.keep hb).cons R_m3)
        have hbw := hbw.trans (hb.mono hbw.size)
        clear R_m3 l_m3 h_m3 s_m3 hb
        go_wp2_with fail
        refine (area_meet _ _ _ b a 20 20 (HL.out.at_ 8 rfl) (HL.out.at_ 9 rfl) L_b.out L_a.out S_b.out S_a.out (by omega) (by omega)).mono ?_
        rintro e W15 ⟨v_m4, m4, rfl, R_m4, l_m4, h_m4, s_m4, hb⟩
        obtain ⟨A_m4, c_m4, rfl, -⟩ := id R_m4
        have L_m4 : Hid (m4.length ≤ 100) := by show _ ≤ _; have := L_b.out; have := L_a.out; omega
        have S_m4 := Lib.hid s_m4
        have H_m4 : Hid (IsM b a m4) := h_m4
        have HL := Lib.hid ((HL.out.keep hb).cons R_m4)
        have hbw := hbw.trans (hb.mono hbw.size)
        clear R_m4 l_m4 h_m4 s_m4 hb
        go_wp2_with fail
        refine (same_b _ _ _ m3 m4 (HL.out.at_ 1 rfl) (HL.out.at_ 0 rfl) L_m3.out L_m4.out (S_m3.out.mono (by omega)) (S_m4.out.mono (by omega))).mono ?_
        rw [sub_mm H_m3.out H_m4.out, sub_mm H_m4.out H_m3.out, Bool.and_self]
        rintro e W16 ⟨rfl, hb⟩
        have HL := Lib.hid ((HL.out.keep hb))
        have hbw := hbw.trans (hb.mono hbw.size)
        clear hb
        go_wp2
        go_ret
        exact ⟨rfl, hbw⟩
    | true =>
      cases Qbc : subB b c with
      | false =>
        have QAM : ∀ m, IsM b c m → subB a m = false := fun m h => by rw [sub_meet h, Qab, Qac]; rfl
        have QUC : ∀ u, IsU a b u → subB u c = false := fun u h => by rw [sub_union h, Qac, Qbc]; rfl
        go_wp2_with fail
        refine (area_meet _ _ _ b c 20 20 (HL.out.at_ 1 rfl) (HL.out.at_ 0 rfl) L_b.out L_c.out S_b.out S_c.out (by omega) (by omega)).mono ?_
        rintro e W1 ⟨v_m, m, rfl, R_m, l_m, h_m, s_m, hb⟩
        obtain ⟨A_m, c_m, rfl, -⟩ := id R_m
        have L_m : Hid (m.length ≤ 100) := by show _ ≤ _; have := L_b.out; have := L_c.out; omega
        have S_m := Lib.hid s_m
        have H_m : Hid (IsM b c m) := h_m
        have HL := Lib.hid ((HL.out.keep hb).cons R_m)
        have hbw := hbw.trans (hb.mono hbw.size)
        clear R_m l_m h_m s_m hb
        go_wp2_with fail
        refine (within_b _ _ _ a m (HL.out.at_ 3 rfl) (HL.out.at_ 0 rfl) L_a.out L_m.out (S_a.out.mono (by omega)) (S_m.out.mono (by omega))).mono ?_
        rw [QAM _ H_m.out]
        rintro e W2 ⟨rfl, hb⟩
        have HL := Lib.hid ((HL.out.keep hb))
        have hbw := hbw.trans (hb.mono hbw.size)
        clear hb
        go_wp2_with fail
        refine (within_b _ _ _ a b (HL.out.at_ 3 rfl) (HL.out.at_ 2 rfl) L_a.out L_b.out (S_a.out.mono (by omega)) (S_b.out.mono (by omega))).mono ?_
        rw [Qab]
        rintro e W3 ⟨rfl, hb⟩
        have HL := Lib.hid ((HL.out.keep hb))
        have hbw := hbw.trans (hb.mono hbw.size)
        clear hb
        go_wp2_with fail
        refine (area_union _ _ _ a b 20 20 (HL.out.at_ 3 rfl) (HL.out.at_ 2 rfl) L_a.out L_b.out S_a.out S_b.out (by omega) (by omega)).mono ?_
        rintro e W4 ⟨v_u, u, rfl, R_u, l_u, h_u, s_u, hb⟩
        obtain ⟨A_u, c_u, rfl, -⟩ := id R_u
        have L_u : Hid (u.length ≤ 100) := by show _ ≤ _; have := L_a.out; have := L_b.out; omega
        have S_u := Lib.hid s_u
        have H_u : Hid (IsU a b u) := h_u
        have HL := Lib.hid ((HL.out.keep hb).cons R_u)
        have hbw := hbw.trans (hb.mono hbw.size)
        clear R_u l_u h_u s_u hb
        go_wp2_with fail
        refine (within_b _ _ _ u c (HL.out.at_ 0 rfl) (HL.out.at_ 2 rfl) L_u.out L_c.out (S_u.out.mono (by omega)) (S_c.out.mono (by omega))).mono ?_
        rw [QUC _ H_u.out]
        rintro e W5 ⟨rfl, hb⟩
        have HL := Lib.hid ((HL.out.keep hb))
        have hbw := hbw.trans (hb.mono hbw.size)
        clear hb
        go_wp2_with fail
        refine (within_b _ _ _ a c (HL.out.at_ 4 rfl) (HL.out.at_ 2 rfl) L_a.out L_c.out (S_a.out.mono (by omega)) (S_c.out.mono (by omega))).mono ?_
        rw [Qac]
        rintro e W6 ⟨rfl, hb⟩
        have HL := Lib.hid ((HL.out.keep hb))
        have hbw := hbw.trans (hb.mono hbw.size)
        clear hb
        go_wp2_with fail
        refine (within_b _ _ _ b c (HL.out.at_ 3 rfl) (HL.out.at_ 2 rfl) L_b.out L_c.out (S_b.out.mono (by omega)) (S_c.out.mono (by omega))).mono ?_
        rw [Qbc]
        rintro e W7 ⟨rfl, hb⟩
        have HL := Lib.hid ((HL.out.keep hb))
        have hbw := hbw.trans (hb.mono hbw.size)
        clear hb
        go_wp2_with fail
        refine (within_b _ _ _ a b (HL.out.at_ 4 rfl) (HL.out.at_ 3 rfl) L_a.out L_b.out (S_a.out.mono (by omega)) (S_b.out.mono (by omega))).mono ?_
        rw [Qab]
        rintro e W8 ⟨rfl, hb⟩
        have HL := Lib.hid ((HL.out.keep hb))
        have hbw := hbw.trans (hb.mono hbw.size)
        clear hb
        go_wp2_with fail
        refine (area_meet _ _ _ a b 20 20 (HL.out.at_ 4 rfl) (HL.out.at_ 3 rfl) L_a.out L_b.out S_a.out S_b.out (by omega) (by omega)).mono ?_
        rintro e W9 ⟨v_m2, m2, rfl, R_m2, l_m2, h_m2, s_m2, hb⟩
        obtain ⟨A_m2, c_m2, rfl, -⟩ := id R_m2
        have L_m2 : Hid (m2.length ≤ 100) := by show _ ≤ _; have := L_a.out; have := L_b.out; omega
        have S_m2 := Lib.hid s_m2
        have H_m2 : Hid (IsM a b m2) := h_m2
        have HL := Lib.hid ((HL.out.keep hb).cons R_m2)
        have hbw := hbw.trans (hb.mono hbw.size)
        clear R_m2 l_m2 h_m2 s_m2 hb
        go_wp2_with fail
        refine (area_union _ _ _ b c 20 20 (HL.out.at_ 4 rfl) (HL.out.at_ 3 rfl) L_b.out L_c.out S_b.out S_c.out (by omega) (by omega)).mono ?_
        rintro e W10 ⟨v_u2, u2, rfl, R_u2, l_u2, h_u2, s_u2, hb⟩
        obtain ⟨A_u2, c_u2, rfl, -⟩ := id R_u2
        have L_u2 : Hid (u2.length ≤ 100) := by show _ ≤ _; have := L_b.out; have := L_c.out; omega
        have S_u2 := Lib.hid s_u2
        have H_u2 : Hid (IsU b c u2) := h_u2
        have HL := Lib.hid ((HL.out.keep hb).cons R_u2)
        have hbw := hbw.trans (hb.mono hbw.size)
        clear R_u2 l_u2 h_u2 s_u2 hb
        go_wp2_with fail
        refine (within_b _ _ _ m2 u2 (HL.out.at_ 1 rfl) (HL.out.at_ 0 rfl) L_m2.out L_u2.out (S_m2.out.mono (by omega)) (S_u2.out.mono (by omega))).mono ?_
        rw [sub_mu H_m2.out H_u2.out]
        rintro e W11 ⟨rfl, hb⟩
        have HL := Lib.hid ((HL.out.keep hb))
        have hbw := hbw.trans (hb.mono hbw.size)
        clear hb
        go_wp2_with fail
        refine (area_union _ _ _ a b 20 20 (HL.out.at_ 6 rfl) (HL.out.at_ 5 rfl) L_a.out L_b.out S_a.out S_b.out (by omega) (by omega)).mono ?_
        rintro e W12 ⟨v_u3, u3, rfl, R_u3, l_u3, h_u3, s_u3, hb⟩
        obtain ⟨A_u3, c_u3, rfl, -⟩ := id R_u3
        have L_u3 : Hid (u3.length ≤ 100) := by show _ ≤ _; have := L_a.out; have := L_b.out; omega
        have S_u3 := Lib.hid s_u3
        have H_u3 : Hid (IsU a b u3) := h_u3
        have HL := Lib.hid ((HL.out.keep hb).cons R_u3)
        have hbw := hbw.trans (hb.mono hbw.size)
        clear R_u3 l_u3 h_u3 s_u3 hb
        go_wp2_with fail
        refine (area_union _ _ _ b a 20 20 (HL.out.at_ 6 rfl) (HL.out.at_ 7 rfl) L_b.out L_a.out S_b.out S_a.out (by omega) (by omega)).mono ?_
        rintro e W13 ⟨v_u4, u4, rfl, R_u4, l_u4, h_u4, s_u4, hb⟩
        obtain ⟨A_u4, c_u4, rfl, -⟩ := id R_u4
        have L_u4 : Hid (u4.length ≤ 100) := by show _ ≤ _; have := L_b.out; have := L_a.out; omega
        have S_u4 := Lib.hid s_u4
        have H_u4 : Hid (IsU b a u4) := h_u4
        have HL := Lib.hid ((HL.out.keep hb).cons R_u4)
        have hbw := hbw.trans (hb.mono hbw.size)
        clear R_u4 l_u4 h_u4 s_u4 hb
        go_wp2_with fail
        refine (same_b _ _ _ u3 u4 (HL.out.at_ 1 rfl) (HL.out.at_ 0 rfl) L_u3.out L_u4.out (S_u3.out.mono (by omega)) (S_u4.out.mono (by omega))).mono ?_
        rw [sub_uu H_u3.out H_u4.out, sub_uu H_u4.out H_u3.out, Bool.and_self]
        rintro e W14 ⟨rfl, hb⟩
        have HL := Lib.hid ((HL.out.keep hb))
        have hbw := hbw.trans (hb.mono hbw.size)
        clear hb
        go_wp2_with fail
        refine (area_meet _ _ _ a b 20 20 (HL.out.at_ 8 rfl) (HL.out.at_ 7 rfl) L_a.out L_b.out S_a.out S_b.out (by omega) (by omega)).mono ?_
        rintro e W15 ⟨v_m3, m3, rfl, R_m3, l_m3, h_m3, s_m3, hb⟩
        obtain ⟨A_m3, c_m3, rfl, -⟩ := id R_m3
        have L_m3 : Hid (m3.length ≤ 100) := by show _ ≤ _; have := L_a.out; have := L_b.out; omega
        have S_m3 := Lib.hid s_m3
        have H_m3 : Hid (IsM a b m3) := h_m3
        have HL := Lib.hid ((HL.out.keep hb).cons R_m3)
        have hbw := hbw.trans (hb.mono hbw.size)
        clear R_m3 l_m3 h_m3 s_m3 hb
        go_wp2_with fail
        refine (area_meet _ _ _ b a 20 20 (HL.out.at_ 8 rfl) (HL.out.at_ 9 rfl) L_b.out L_a.out S_b.out S_a.out (by omega) (by omega)).mono ?_
        rintro e W16 ⟨v_m4, m4, rfl, R_m4, l_m4, h_m4, s_m4, hb⟩
        obtain ⟨A_m4, c_m4, rfl, -⟩ := id R_m4
        have L_m4 : Hid (m4.length ≤ 100) := by show _ ≤ _; have := L_b.out; have := L_a.out; omega
        have S_m4 := Lib.hid s_m4
        have H_m4 : Hid (IsM b a m4) := h_m4
        have HL := Lib.hid ((HL.out.keep hb).cons R_m4)
        have hbw := hbw.trans (hb.mono hbw.size)
        clear R_m4 l_m4 h_m4 s_m4 hb
        go_wp2_with fail
        refine (same_b _ _ _ m3 m4 (HL.out.at_ 1 rfl) (HL.out.at_ 0 rfl) L_m3.out L_m4.out (S_m3.out.mono (by omega)) (S_m4.out.mono (by omega))).mono ?_
        rw [sub_mm H_m3.out H_m4.out, sub_mm H_m4.out H_m3.out, Bool.and_self]
        rintro e W17 ⟨rfl, hb⟩
        have HL := Lib.hid ((HL.out.keep hb))
        have hbw := hbw.trans (hb.mono hbw.size)
        clear hb
        go_wp2
        go_ret
        exact ⟨rfl, hbw⟩
      | true =>
        have QAM : ∀ m, IsM b c m → subB a m = false := fun m h => by rw [sub_meet h, Qab, Qac]; rfl
        have QUC : ∀ u, IsU a b u → subB u c = true := fun u h => by rw [sub_union h, Qac, Qbc]; rfl
        go_wp2_with fail
        refine (area_meet _ _ _ b c 20 20 (HL.out.at_ 1 rfl) (HL.out.at_ 0 rfl) L_b.out L_c.out S_b.out S_c.out (by omega) (by omega)).mono ?_
        rintro e W1 ⟨v_m, m, rfl, R_m, l_m, h_m, s_m, hb⟩
        obtain ⟨A_m, c_m, rfl, -⟩ := id R_m
        have L_m : Hid (m.length ≤ 100) := by show _ ≤ _; have := L_b.out; have := L_c.out; omega
        have S_m := Lib.hid s_m
        have H_m : Hid (IsM b c m) := h_m
        have HL := Lib.hid ((HL.out.keep hb).cons R_m)
        have hbw := hbw.trans (hb.mono hbw.size)
        clear R_m l_m h_m s_m hb
        go_wp2_with fail
        refine (within_b _ _ _ a m (HL.out.at_ 3 rfl) (HL.out.at_ 0 rfl) L_a.out L_m.out (S_a.out.mono (by omega)) (S_m.out.mono (by omega))).mono ?_
        rw [QAM _ H_m.out]
        rintro e W2 ⟨rfl, hb⟩
        have HL := Lib.hid ((HL.out.keep hb))
        have hbw := hbw.trans (hb.mono hbw.size)
        clear hb
        go_wp2_with fail
        refine (within_b _ _ _ a b (HL.out.at_ 3 rfl) (HL.out.at_ 2 rfl) L_a.out L_b.out (S_a.out.mono (by omega)) (S_b.out.mono (by omega))).mono ?_
        rw [Qab]
        rintro e W3 ⟨rfl, hb⟩
        have HL := Lib.hid ((HL.out.keep hb))
        have hbw := hbw.trans (hb.mono hbw.size)
        clear hb
        go_wp2_with fail
        refine (area_union _ _ _ a b 20 20 (HL.out.at_ 3 rfl) (HL.out.at_ 2 rfl) L_a.out L_b.out S_a.out S_b.out (by omega) (by omega)).mono ?_
        rintro e W4 ⟨v_u, u, rfl, R_u, l_u, h_u, s_u, hb⟩
        obtain ⟨A_u, c_u, rfl, -⟩ := id R_u
        have L_u : Hid (u.length ≤ 100) := by show _ ≤ _; have := L_a.out; have := L_b.out; omega
        have S_u := Lib.hid s_u
        have H_u : Hid (IsU a b u) := h_u
        have HL := Lib.hid ((HL.out.keep hb).cons R_u)
        have hbw := hbw.trans (hb.mono hbw.size)
        clear R_u l_u h_u s_u hb
        go_wp2_with fail
        refine (within_b _ _ _ u c (HL.out.at_ 0 rfl) (HL.out.at_ 2 rfl) L_u.out L_c.out (S_u.out.mono (by omega)) (S_c.out.mono (by omega))).mono ?_
        rw [QUC _ H_u.out]
        rintro e W5 ⟨rfl, hb⟩
        have HL := Lib.hid ((HL.out.keep hb))
        have hbw := hbw.trans (hb.mono hbw.size)
        clear hb
        go_wp2_with fail
        refine (within_b _ _ _ a c (HL.out.at_ 4 rfl) (HL.out.at_ 2 rfl) L_a.out L_c.out (S_a.out.mono (by omega)) (S_c.out.mono (by omega))).mono ?_
        rw [Qac]
        rintro e W6 ⟨rfl, hb⟩
        have HL := Lib.hid ((HL.out.keep hb))
        have hbw := hbw.trans (hb.mono hbw.size)
        clear hb
        go_wp2_with fail
        refine (within_b _ _ _ b c (HL.out.at_ 3 rfl) (HL.out.at_ 2 rfl) L_b.out L_c.out (S_b.out.mono (by omega)) (S_c.out.mono (by omega))).mono ?_
        rw [Qbc]
        rintro e W7 ⟨rfl, hb⟩
        have HL := Lib.hid ((HL.out.keep hb))
        have hbw := hbw.trans (hb.mono hbw.size)
        clear hb
        go_wp2_with fail
        refine (within_b _ _ _ a b (HL.out.at_ 4 rfl) (HL.out.at_ 3 rfl) L_a.out L_b.out (S_a.out.mono (by omega)) (S_b.out.mono (by omega))).mono ?_
        rw [Qab]
        rintro e W8 ⟨rfl, hb⟩
        have HL := Lib.hid ((HL.out.keep hb))
        have hbw := hbw.trans (hb.mono hbw.size)
        clear hb
        go_wp2_with fail
        refine (area_meet _ _ _ a b 20 20 (HL.out.at_ 4 rfl) (HL.out.at_ 3 rfl) L_a.out L_b.out S_a.out S_b.out (by omega) (by omega)).mono ?_
        rintro e W9 ⟨v_m2, m2, rfl, R_m2, l_m2, h_m2, s_m2, hb⟩
        obtain ⟨A_m2, c_m2, rfl, -⟩ := id R_m2
        have L_m2 : Hid (m2.length ≤ 100) := by show _ ≤ _; have := L_a.out; have := L_b.out; omega
        have S_m2 := Lib.hid s_m2
        have H_m2 : Hid (IsM a b m2) := h_m2
        have HL := Lib.hid ((HL.out.keep hb).cons R_m2)
        have hbw := hbw.trans (hb.mono hbw.size)
        clear R_m2 l_m2 h_m2 s_m2 hb
        go_wp2_with fail
        refine (area_union _ _ _ b c 20 20 (HL.out.at_ 4 rfl) (HL.out.at_ 3 rfl) L_b.out L_c.out S_b.out S_c.out (by omega) (by omega)).mono ?_
        rintro e W10 ⟨v_u2, u2, rfl, R_u2, l_u2, h_u2, s_u2, hb⟩
        obtain ⟨A_u2, c_u2, rfl, -⟩ := id R_u2
        have L_u2 : Hid (u2.length ≤ 100) := by show _ ≤ _; have := L_b.out; have := L_c.out; omega
        have S_u2 := Lib.hid s_u2
        have H_u2 : Hid (IsU b c u2) := h_u2
        have HL := Lib.hid ((HL.out.keep hb).cons R_u2)
        have hbw := hbw.trans (hb.mono hbw.size)
        clear R_u2 l_u2 h_u2 s_u2 hb
        go_wp2_with fail
        refine (within_b _ _ _ m2 u2 (HL.out.at_ 1 rfl) (HL.out.at_ 0 rfl) L_m2.out L_u2.out (S_m2.out.mono (by omega)) (S_u2.out.mono (by omega))).mono ?_
        rw [sub_mu H_m2.out H_u2.out]
        rintro e W11 ⟨rfl, hb⟩
        have HL := Lib.hid ((HL.out.keep hb))
        have hbw := hbw.trans (hb.mono hbw.size)
        clear hb
        go_wp2_with fail
        refine (area_union _ _ _ a b 20 20 (HL.out.at_ 6 rfl) (HL.out.at_ 5 rfl) L_a.out L_b.out S_a.out S_b.out (by omega) (by omega)).mono ?_
        rintro e W12 ⟨v_u3, u3, rfl, R_u3, l_u3, h_u3, s_u3, hb⟩
        obtain ⟨A_u3, c_u3, rfl, -⟩ := id R_u3
        have L_u3 : Hid (u3.length ≤ 100) := by show _ ≤ _; have := L_a.out; have := L_b.out; omega
        have S_u3 := Lib.hid s_u3
        have H_u3 : Hid (IsU a b u3) := h_u3
        have HL := Lib.hid ((HL.out.keep hb).cons R_u3)
        have hbw := hbw.trans (hb.mono hbw.size)
        clear R_u3 l_u3 h_u3 s_u3 hb
        go_wp2_with fail
        refine (area_union _ _ _ b a 20 20 (HL.out.at_ 6 rfl) (HL.out.at_ 7 rfl) L_b.out L_a.out S_b.out S_a.out (by omega) (by omega)).mono ?_
        rintro e W13 ⟨v_u4, u4, rfl, R_u4, l_u4, h_u4, s_u4, hb⟩
        obtain ⟨A_u4, c_u4, rfl, -⟩ := id R_u4
        have L_u4 : Hid (u4.length ≤ 100) := by show _ ≤ _; have := L_b.out; have := L_a.out; omega
        have S_u4 := Lib.hid s_u4
        have H_u4 : Hid (IsU b a u4) := h_u4
        have HL := Lib.hid ((HL.out.keep hb).cons R_u4)
        have hbw := hbw.trans (hb.mono hbw.size)
        clear R_u4 l_u4 h_u4 s_u4 hb
        go_wp2_with fail
        refine (same_b _ _ _ u3 u4 (HL.out.at_ 1 rfl) (HL.out.at_ 0 rfl) L_u3.out L_u4.out (S_u3.out.mono (by omega)) (S_u4.out.mono (by omega))).mono ?_
        rw [sub_uu H_u3.out H_u4.out, sub_uu H_u4.out H_u3.out, Bool.and_self]
        rintro e W14 ⟨rfl, hb⟩
        have HL := Lib.hid ((HL.out.keep hb))
        have hbw := hbw.trans (hb.mono hbw.size)
        clear hb
        go_wp2_with fail
        refine (area_meet _ _ _ a b 20 20 (HL.out.at_ 8 rfl) (HL.out.at_ 7 rfl) L_a.out L_b.out S_a.out S_b.out (by omega) (by omega)).mono ?_
        rintro e W15 ⟨v_m3, m3, rfl, R_m3, l_m3, h_m3, s_m3, hb⟩
        obtain ⟨A_m3, c_m3, rfl, -⟩ := id R_m3
        have L_m3 : Hid (m3.length ≤ 100) := by show _ ≤ _; have := L_a.out; have := L_b.out; omega
        have S_m3 := Lib.hid s_m3
        have H_m3 : Hid (IsM a b m3) := h_m3
        have HL := Lib.hid ((HL.out.keep hb).cons R_m3)
        have hbw := hbw.trans (hb.mono hbw.size)
        clear R_m3 l_m3 h_m3 s_m3 hb
        go_wp2_with fail
        refine (area_meet _ _ _ b a 20 20 (HL.out.at_ 8 rfl) (HL.out.at_ 9 rfl) L_b.out L_a.out S_b.out S_a.out (by omega) (by omega)).mono ?_
        rintro e W16 ⟨v_m4, m4, rfl, R_m4, l_m4, h_m4, s_m4, hb⟩
        obtain ⟨A_m4, c_m4, rfl, -⟩ := id R_m4
        have L_m4 : Hid (m4.length ≤ 100) := by show _ ≤ _; have := L_b.out; have := L_a.out; omega
        have S_m4 := Lib.hid s_m4
        have H_m4 : Hid (IsM b a m4) := h_m4
        have HL := Lib.hid ((HL.out.keep hb).cons R_m4)
        have hbw := hbw.trans (hb.mono hbw.size)
        clear R_m4 l_m4 h_m4 s_m4 hb
        go_wp2_with fail
        refine (same_b _ _ _ m3 m4 (HL.out.at_ 1 rfl) (HL.out.at_ 0 rfl) L_m3.out L_m4.out (S_m3.out.mono (by omega)) (S_m4.out.mono (by omega))).mono ?_
        rw [sub_mm H_m3.out H_m4.out, sub_mm H_m4.out H_m3.out, Bool.and_self]
        rintro e W17 ⟨rfl, hb⟩
        have HL := Lib.hid ((HL.out.keep hb))
        have hbw := hbw.trans (hb.mono hbw.size)
        clear hb
        go_wp2
        go_ret
        exact ⟨rfl, hbw⟩
  | true =>
    cases Qac : subB a c with
    | false =>
      cases Qbc : subB b c with
      | false =>
        have QAM : ∀ m, IsM b c m → subB a m = false := fun m h => by rw [sub_meet h, Qab, Qac]; rfl
        have QUC : ∀ u, IsU a b u → subB u c = false := fun u h => by rw [sub_union h, Qac, Qbc]; rfl
        go_wp2_with fail
        refine (area_meet _ _ _ b c 20 20 (HL.out.at_ 1 rfl) (HL.out.at_ 0 rfl) L_b.out L_c.out S_b.out S_c.out (by omega) (by omega)).mono ?_
        rintro e W1 ⟨v_m, m, rfl, R_m, l_m, h_m, s_m, hb⟩
        obtain ⟨A_m, c_m, rfl, -⟩ := id R_m
        have L_m : Hid (m.length ≤ 100) := by show _ ≤ _; have := L_b.out; have := L_c.out; omega
        have S_m := Lib.hid s_m
        have H_m : Hid (IsM b c m) := h_m
        have HL := Lib.hid ((HL.out.keep hb).cons R_m)
        have hbw := hbw.trans (hb.mono hbw.size)
        clear R_m l_m h_m s_m hb
        go_wp2_with fail
        refine (within_b _ _ _ a m (HL.out.at_ 3 rfl) (HL.out.at_ 0 rfl) L_a.out L_m.out (S_a.out.mono (by omega)) (S_m.out.mono (by omega))).mono ?_
        rw [QAM _ H_m.out]
        rintro e W2 ⟨rfl, hb⟩
        have HL := Lib.hid ((HL.out.keep hb))
        have hbw := hbw.trans (hb.mono hbw.size)
        clear hb
        go_wp2_with fail
        refine (within_b _ _ _ a b (HL.out.at_ 3 rfl) (HL.out.at_ 2 rfl) L_a.out L_b.out (S_a.out.mono (by omega)) (S_b.out.mono (by omega))).mono ?_
        rw [Qab]
        rintro e W3 ⟨rfl, hb⟩
        have HL := Lib.hid ((HL.out.keep hb))
        have hbw := hbw.trans (hb.mono hbw.size)
        clear hb
        go_wp2_with fail
        refine (within_b _ _ _ a c (HL.out.at_ 3 rfl) (HL.out.at_ 1 rfl) L_a.out L_c.out (S_a.out.mono (by omega)) (S_c.out.mono (by omega))).mono ?_
        rw [Qac]
        rintro e W4 ⟨rfl, hb⟩
        have HL := Lib.hid ((HL.out.keep hb))
        have hbw := hbw.trans (hb.mono hbw.size)
        clear hb
        go_wp2_with fail
        refine (area_union _ _ _ a b 20 20 (HL.out.at_ 3 rfl) (HL.out.at_ 2 rfl) L_a.out L_b.out S_a.out S_b.out (by omega) (by omega)).mono ?_
        rintro e W5 ⟨v_u, u, rfl, R_u, l_u, h_u, s_u, hb⟩
        obtain ⟨A_u, c_u, rfl, -⟩ := id R_u
        have L_u : Hid (u.length ≤ 100) := by show _ ≤ _; have := L_a.out; have := L_b.out; omega
        have S_u := Lib.hid s_u
        have H_u : Hid (IsU a b u) := h_u
        have HL := Lib.hid ((HL.out.keep hb).cons R_u)
        have hbw := hbw.trans (hb.mono hbw.size)
        clear R_u l_u h_u s_u hb
        go_wp2_with fail
        refine (within_b _ _ _ u c (HL.out.at_ 0 rfl) (HL.out.at_ 2 rfl) L_u.out L_c.out (S_u.out.mono (by omega)) (S_c.out.mono (by omega))).mono ?_
        rw [QUC _ H_u.out]
        rintro e W6 ⟨rfl, hb⟩
        have HL := Lib.hid ((HL.out.keep hb))
        have hbw := hbw.trans (hb.mono hbw.size)
        clear hb
        go_wp2_with fail
        refine (within_b _ _ _ a c (HL.out.at_ 4 rfl) (HL.out.at_ 2 rfl) L_a.out L_c.out (S_a.out.mono (by omega)) (S_c.out.mono (by omega))).mono ?_
        rw [Qac]
        rintro e W7 ⟨rfl, hb⟩
        have HL := Lib.hid ((HL.out.keep hb))
        have hbw := hbw.trans (hb.mono hbw.size)
        clear hb
        go_wp2_with fail
        refine (within_b _ _ _ a b (HL.out.at_ 4 rfl) (HL.out.at_ 3 rfl) L_a.out L_b.out (S_a.out.mono (by omega)) (S_b.out.mono (by omega))).mono ?_
        rw [Qab]
        rintro e W8 ⟨rfl, hb⟩
        have HL := Lib.hid ((HL.out.keep hb))
        have hbw := hbw.trans (hb.mono hbw.size)
        clear hb
        go_wp2_with fail
        refine (within_b _ _ _ b c (HL.out.at_ 3 rfl) (HL.out.at_ 2 rfl) L_b.out L_c.out (S_b.out.mono (by omega)) (S_c.out.mono (by omega))).mono ?_
        rw [Qbc]
        rintro e W9 ⟨rfl, hb⟩
        have HL := Lib.hid ((HL.out.keep hb))
        have hbw := hbw.trans (hb.mono hbw.size)
        clear hb
        go_wp2_with fail
        refine (area_meet _ _ _ a b 20 20 (HL.out.at_ 4 rfl) (HL.out.at_ 3 rfl) L_a.out L_b.out S_a.out S_b.out (by omega) (by omega)).mono ?_
        rintro e W10 ⟨v_m2, m2, rfl, R_m2, l_m2, h_m2, s_m2, hb⟩
        obtain ⟨A_m2, c_m2, rfl, -⟩ := id R_m2
        have L_m2 : Hid (m2.length ≤ 100) := by show _ ≤ _; have := L_a.out; have := L_b.out; omega
        have S_m2 := Lib.hid s_m2
        have H_m2 : Hid (IsM a b m2) := h_m2
        have HL := Lib.hid ((HL.out.keep hb).cons R_m2)
        have hbw := hbw.trans (hb.mono hbw.size)
        clear R_m2 l_m2 h_m2 s_m2 hb
        go_wp2_with fail
        refine (area_union _ _ _ b c 20 20 (HL.out.at_ 4 rfl) (HL.out.at_ 3 rfl) L_b.out L_c.out S_b.out S_c.out (by omega) (by omega)).mono ?_
        rintro e W11 ⟨v_u2, u2, rfl, R_u2, l_u2, h_u2, s_u2, hb⟩
        obtain ⟨A_u2, c_u2, rfl, -⟩ := id R_u2
        have L_u2 : Hid (u2.length ≤ 100) := by show _ ≤ _; have := L_b.out; have := L_c.out; omega
        have S_u2 := Lib.hid s_u2
        have H_u2 : Hid (IsU b c u2) := h_u2
        have HL := Lib.hid ((HL.out.keep hb).cons R_u2)
        have hbw := hbw.trans (hb.mono hbw.size)
        clear R_u2 l_u2 h_u2 s_u2 hb
        go_wp2_with fail
        refine (within_b _ _ _ m2 u2 (HL.out.at_ 1 rfl) (HL.out.at_ 0 rfl) L_m2.out L_u2.out (S_m2.out.mono (by omega)) (S_u2.out.mono (by omega))).mono ?_
        rw [sub_mu H_m2.out H_u2.out]
        rintro e W12 ⟨rfl, hb⟩
        have HL := Lib.hid ((HL.out.keep hb))
        have hbw := hbw.trans (hb.mono hbw.size)
        clear hb
        go_wp2_with fail
        refine (area_union _ _ _ a b 20 20 (HL.out.at_ 6 rfl) (HL.out.at_ 5 rfl) L_a.out L_b.out S_a.out S_b.out (by omega) (by omega)).mono ?_
        rintro e W13 ⟨v_u3, u3, rfl, R_u3, l_u3, h_u3, s_u3, hb⟩
        obtain ⟨A_u3, c_u3, rfl, -⟩ := id R_u3
        have L_u3 : Hid (u3.length ≤ 100) := by show _ ≤ _; have := L_a.out; have := L_b.out; omega
        have S_u3 := Lib.hid s_u3
        have H_u3 : Hid (IsU a b u3) := h_u3
        have HL := Lib.hid ((HL.out.keep hb).cons R_u3)
        have hbw := hbw.trans (hb.mono hbw.size)
        clear R_u3 l_u3 h_u3 s_u3 hb
        go_wp2_with fail
        refine (area_union _ _ _ b a 20 20 (HL.out.at_ 6 rfl) (HL.out.at_ 7 rfl) L_b.out L_a.out S_b.out S_a.out (by omega) (by omega)).mono ?_
        rintro e W14 ⟨v_u4, u4, rfl, R_u4, l_u4, h_u4, s_u4, hb⟩
        obtain ⟨A_u4, c_u4, rfl, -⟩ := id R_u4
        have L_u4 : Hid (u4.length ≤ 100) := by show _ ≤ _; have := L_b.out; have := L_a.out; omega
        have S_u4 := Lib.hid s_u4
        have H_u4 : Hid (IsU b a u4) := h_u4
        have HL := Lib.hid ((HL.out.keep hb).cons R_u4)
        have hbw := hbw.trans (hb.mono hbw.size)
        clear R_u4 l_u4 h_u4 s_u4 hb
        go_wp2_with fail
        refine (same_b _ _ _ u3 u4 (HL.out.at_ 1 rfl) (HL.out.at_ 0 rfl) L_u3.out L_u4.out (S_u3.out.mono (by omega)) (S_u4.out.mono (by omega))).mono ?_
        rw [sub_uu H_u3.out H_u4.out, sub_uu H_u4.out H_u3.out, Bool.and_self]
        rintro e W15 ⟨rfl, hb⟩
        have HL := Lib.hid ((HL.out.keep hb))
        have hbw := hbw.trans (hb.mono hbw.size)
        clear hb
        go_wp2_with fail
        refine (area_meet _ _ _ a b 20 20 (HL.out.at_ 8 rfl) (HL.out.at_ 7 rfl) L_a.out L_b.out S_a.out S_b.out (by omega) (by omega)).mono ?_
        rintro e W16 ⟨v_m3, m3, rfl, R_m3, l_m3, h_m3, s_m3, hb⟩
        obtain ⟨A_m3, c_m3, rfl, -⟩ := id R_m3
        have L_m3 : Hid (m3.length ≤ 100) := by show _ ≤ _; have := L_a.out; have := L_b.out; omega
        have S_m3 := Lib.hid s_m3
        have H_m3 : Hid (IsM a b m3) := h_m3
        have HL := Lib.hid ((HL.out.keep hb).cons R_m3)
        have hbw := hbw.trans (hb.mono hbw.size)
        clear R_m3 l_m3 h_m3 s_m3 hb
        go_wp2_with fail
        refine (area_meet _ _ _ b a 20 20 (HL.out.at_ 8 rfl) (HL.out.at_ 9 rfl) L_b.out L_a.out S_b.out S_a.out (by omega) (by omega)).mono ?_
        rintro e W17 ⟨v_m4, m4, rfl, R_m4, l_m4, h_m4, s_m4, hb⟩
        obtain ⟨A_m4, c_m4, rfl, -⟩ := id R_m4
        have L_m4 : Hid (m4.length ≤ 100) := by show _ ≤ _; have := L_b.out; have := L_a.out; omega
        have S_m4 := Lib.hid s_m4
        have H_m4 : Hid (IsM b a m4) := h_m4
        have HL := Lib.hid ((HL.out.keep hb).cons R_m4)
        have hbw := hbw.trans (hb.mono hbw.size)
        clear R_m4 l_m4 h_m4 s_m4 hb
        go_wp2_with fail
        refine (same_b _ _ _ m3 m4 (HL.out.at_ 1 rfl) (HL.out.at_ 0 rfl) L_m3.out L_m4.out (S_m3.out.mono (by omega)) (S_m4.out.mono (by omega))).mono ?_
        rw [sub_mm H_m3.out H_m4.out, sub_mm H_m4.out H_m3.out, Bool.and_self]
        rintro e W18 ⟨rfl, hb⟩
        have HL := Lib.hid ((HL.out.keep hb))
        have hbw := hbw.trans (hb.mono hbw.size)
        clear hb
        go_wp2
        go_ret
        exact ⟨rfl, hbw⟩
      | true =>
        exact absurd (sub_trans Qab Qbc) (by rw [Qac]; simp)
    | true =>
      cases Qbc : subB b c with
      | false =>
        have QAM : ∀ m, IsM b c m → subB a m = true := fun m h => by rw [sub_meet h, Qab, Qac]; rfl
        have QUC : ∀ u, IsU a b u → subB u c = false := fun u h => by rw [sub_union h, Qac, Qbc]; rfl
        go_wp2_with fail
        refine (area_meet _ _ _ b c 20 20 (HL.out.at_ 1 rfl) (HL.out.at_ 0 rfl) L_b.out L_c.out S_b.out S_c.out (by omega) (by omega)).mono ?_
        rintro e W1 ⟨v_m, m, rfl, R_m, l_m, h_m, s_m, hb⟩
        obtain ⟨A_m, c_m, rfl, -⟩ := id R_m
        have L_m : Hid (m.length ≤ 100) := by show _ ≤ _; have := L_b.out; have := L_c.out; omega
        have S_m := Lib.hid s_m
        have H_m : Hid (IsM b c m) := h_m
        have HL := Lib.hid ((HL.out.keep hb).cons R_m)
        have hbw := hbw.trans (hb.mono hbw.size)
        clear R_m l_m h_m s_m hb
        go_wp2_with fail
        refine (within_b _ _ _ a m (HL.out.at_ 3 rfl) (HL.out.at_ 0 rfl) L_a.out L_m.out (S_a.out.mono (by omega)) (S_m.out.mono (by omega))).mono ?_
        rw [QAM _ H_m.out]
        rintro e W2 ⟨rfl, hb⟩
        have HL := Lib.hid ((HL.out.keep hb))
        have hbw := hbw.trans (hb.mono hbw.size)
        clear hb
        go_wp2_with fail
        refine (within_b _ _ _ a b (HL.out.at_ 3 rfl) (HL.out.at_ 2 rfl) L_a.out L_b.out (S_a.out.mono (by omega)) (S_b.out.mono (by omega))).mono ?_
        rw [Qab]
        rintro e W3 ⟨rfl, hb⟩
        have HL := Lib.hid ((HL.out.keep hb))
        have hbw := hbw.trans (hb.mono hbw.size)
        clear hb
        go_wp2_with fail
        refine (within_b _ _ _ a c (HL.out.at_ 3 rfl) (HL.out.at_ 1 rfl) L_a.out L_c.out (S_a.out.mono (by omega)) (S_c.out.mono (by omega))).mono ?_
        rw [Qac]
        rintro e W4 ⟨rfl, hb⟩
        have HL := Lib.hid ((HL.out.keep hb))
        have hbw := hbw.trans (hb.mono hbw.size)
        clear hb
        go_wp2_with fail
        refine (area_union _ _ _ a b 20 20 (HL.out.at_ 3 rfl) (HL.out.at_ 2 rfl) L_a.out L_b.out S_a.out S_b.out (by omega) (by omega)).mono ?_
        rintro e W5 ⟨v_u, u, rfl, R_u, l_u, h_u, s_u, hb⟩
        obtain ⟨A_u, c_u, rfl, -⟩ := id R_u
        have L_u : Hid (u.length ≤ 100) := by show _ ≤ _; have := L_a.out; have := L_b.out; omega
        have S_u := Lib.hid s_u
        have H_u : Hid (IsU a b u) := h_u
        have HL := Lib.hid ((HL.out.keep hb).cons R_u)
        have hbw := hbw.trans (hb.mono hbw.size)
        clear R_u l_u h_u s_u hb
        go_wp2_with fail
        refine (within_b _ _ _ u c (HL.out.at_ 0 rfl) (HL.out.at_ 2 rfl) L_u.out L_c.out (S_u.out.mono (by omega)) (S_c.out.mono (by omega))).mono ?_
        rw [QUC _ H_u.out]
        rintro e W6 ⟨rfl, hb⟩
        have HL := Lib.hid ((HL.out.keep hb))
        have hbw := hbw.trans (hb.mono hbw.size)
        clear hb
        go_wp2_with fail
        refine (within_b _ _ _ a c (HL.out.at_ 4 rfl) (HL.out.at_ 2 rfl) L_a.out L_c.out (S_a.out.mono (by omega)) (S_c.out.mono (by omega))).mono ?_
        rw [Qac]
        rintro e W7 ⟨rfl, hb⟩
        have HL := Lib.hid ((HL.out.keep hb))
        have hbw := hbw.trans (hb.mono hbw.size)
        clear hb
        go_wp2_with fail
        refine (within_b _ _ _ b c (HL.out.at_ 3 rfl) (HL.out.at_ 2 rfl) L_b.out L_c.out (S_b.out.mono (by omega)) (S_c.out.mono (by omega))).mono ?_
        rw [Qbc]
        rintro e W8 ⟨rfl, hb⟩
        have HL := Lib.hid ((HL.out.keep hb))
        have hbw := hbw.trans (hb.mono hbw.size)
        clear hb
        go_wp2_with fail
        refine (within_b _ _ _ a b (HL.out.at_ 4 rfl) (HL.out.at_ 3 rfl) L_a.out L_b.out (S_a.out.mono (by omega)) (S_b.out.mono (by omega))).mono ?_
        rw [Qab]
        rintro e W9 ⟨rfl, hb⟩
        have HL := Lib.hid ((HL.out.keep hb))
        have hbw := hbw.trans (hb.mono hbw.size)
        clear hb
        go_wp2_with fail
        refine (within_b _ _ _ b c (HL.out.at_ 3 rfl) (HL.out.at_ 2 rfl) L_b.out L_c.out (S_b.out.mono (by omega)) (S_c.out.mono (by omega))).mono ?_
        rw [Qbc]
        rintro e W10 ⟨rfl, hb⟩
        have HL := Lib.hid ((HL.out.keep hb))
        have hbw := hbw.trans (hb.mono hbw.size)
        clear hb
        go_wp2_with fail
        refine (area_meet _ _ _ a b 20 20 (HL.out.at_ 4 rfl) (HL.out.at_ 3 rfl) L_a.out L_b.out S_a.out S_b.out (by omega) (by omega)).mono ?_
        rintro e W11 ⟨v_m2, m2, rfl, R_m2, l_m2, h_m2, s_m2, hb⟩
        obtain ⟨A_m2, c_m2, rfl, -⟩ := id R_m2
        have L_m2 : Hid (m2.length ≤ 100) := by show _ ≤ _; have := L_a.out; have := L_b.out; omega
        have S_m2 := Lib.hid s_m2
        have H_m2 : Hid (IsM a b m2) := h_m2
        have HL := Lib.hid ((HL.out.keep hb).cons R_m2)
        have hbw := hbw.trans (hb.mono hbw.size)
        clear R_m2 l_m2 h_m2 s_m2 hb
        go_wp2_with fail
        refine (area_union _ _ _ b c 20 20 (HL.out.at_ 4 rfl) (HL.out.at_ 3 rfl) L_b.out L_c.out S_b.out S_c.out (by omega) (by omega)).mono ?_
        rintro e W12 ⟨v_u2, u2, rfl, R_u2, l_u2, h_u2, s_u2, hb⟩
        obtain ⟨A_u2, c_u2, rfl, -⟩ := id R_u2
        have L_u2 : Hid (u2.length ≤ 100) := by show _ ≤ _; have := L_b.out; have := L_c.out; omega
        have S_u2 := Lib.hid s_u2
        have H_u2 : Hid (IsU b c u2) := h_u2
        have HL := Lib.hid ((HL.out.keep hb).cons R_u2)
        have hbw := hbw.trans (hb.mono hbw.size)
        clear R_u2 l_u2 h_u2 s_u2 hb
        go_wp2_with fail
        refine (within_b _ _ _ m2 u2 (HL.out.at_ 1 rfl) (HL.out.at_ 0 rfl) L_m2.out L_u2.out (S_m2.out.mono (by omega)) (S_u2.out.mono (by omega))).mono ?_
        rw [sub_mu H_m2.out H_u2.out]
        rintro e W13 ⟨rfl, hb⟩
        have HL := Lib.hid ((HL.out.keep hb))
        have hbw := hbw.trans (hb.mono hbw.size)
        clear hb
        go_wp2_with fail
        refine (area_union _ _ _ a b 20 20 (HL.out.at_ 6 rfl) (HL.out.at_ 5 rfl) L_a.out L_b.out S_a.out S_b.out (by omega) (by omega)).mono ?_
        rintro e W14 ⟨v_u3, u3, rfl, R_u3, l_u3, h_u3, s_u3, hb⟩
        obtain ⟨A_u3, c_u3, rfl, -⟩ := id R_u3
        have L_u3 : Hid (u3.length ≤ 100) := by show _ ≤ _; have := L_a.out; have := L_b.out; omega
        have S_u3 := Lib.hid s_u3
        have H_u3 : Hid (IsU a b u3) := h_u3
        have HL := Lib.hid ((HL.out.keep hb).cons R_u3)
        have hbw := hbw.trans (hb.mono hbw.size)
        clear R_u3 l_u3 h_u3 s_u3 hb
        go_wp2_with fail
        refine (area_union _ _ _ b a 20 20 (HL.out.at_ 6 rfl) (HL.out.at_ 7 rfl) L_b.out L_a.out S_b.out S_a.out (by omega) (by omega)).mono ?_
        rintro e W15 ⟨v_u4, u4, rfl, R_u4, l_u4, h_u4, s_u4, hb⟩
        obtain ⟨A_u4, c_u4, rfl, -⟩ := id R_u4
        have L_u4 : Hid (u4.length ≤ 100) := by show _ ≤ _; have := L_b.out; have := L_a.out; omega
        have S_u4 := Lib.hid s_u4
        have H_u4 : Hid (IsU b a u4) := h_u4
        have HL := Lib.hid ((HL.out.keep hb).cons R_u4)
        have hbw := hbw.trans (hb.mono hbw.size)
        clear R_u4 l_u4 h_u4 s_u4 hb
        go_wp2_with fail
        refine (same_b _ _ _ u3 u4 (HL.out.at_ 1 rfl) (HL.out.at_ 0 rfl) L_u3.out L_u4.out (S_u3.out.mono (by omega)) (S_u4.out.mono (by omega))).mono ?_
        rw [sub_uu H_u3.out H_u4.out, sub_uu H_u4.out H_u3.out, Bool.and_self]
        rintro e W16 ⟨rfl, hb⟩
        have HL := Lib.hid ((HL.out.keep hb))
        have hbw := hbw.trans (hb.mono hbw.size)
        clear hb
        go_wp2_with fail
        refine (area_meet _ _ _ a b 20 20 (HL.out.at_ 8 rfl) (HL.out.at_ 7 rfl) L_a.out L_b.out S_a.out S_b.out (by omega) (by omega)).mono ?_
        rintro e W17 ⟨v_m3, m3, rfl, R_m3, l_m3, h_m3, s_m3, hb⟩
        obtain ⟨A_m3, c_m3, rfl, -⟩ := id R_m3
        have L_m3 : Hid (m3.length ≤ 100) := by show _ ≤ _; have := L_a.out; have := L_b.out; omega
        have S_m3 := Lib.hid s_m3
        have H_m3 : Hid (IsM a b m3) := h_m3
        have HL := Lib.hid ((HL.out.keep hb).cons R_m3)
        have hbw := hbw.trans (hb.mono hbw.size)
        clear R_m3 l_m3 h_m3 s_m3 hb
        go_wp2_with fail
        refine (area_meet _ _ _ b a 20 20 (HL.out.at_ 8 rfl) (HL.out.at_ 9 rfl) L_b.out L_a.out S_b.out S_a.out (by omega) (by omega)).mono ?_
        rintro e W18 ⟨v_m4, m4, rfl, R_m4, l_m4, h_m4, s_m4, hb⟩
        obtain ⟨A_m4, c_m4, rfl, -⟩ := id R_m4
        have L_m4 : Hid (m4.length ≤ 100) := by show _ ≤ _; have := L_b.out; have := L_a.out; omega
        have S_m4 := Lib.hid s_m4
        have H_m4 : Hid (IsM b a m4) := h_m4
        have HL := Lib.hid ((HL.out.keep hb).cons R_m4)
        have hbw := hbw.trans (hb.mono hbw.size)
        clear R_m4 l_m4 h_m4 s_m4 hb
        go_wp2_with fail
        refine (same_b _ _ _ m3 m4 (HL.out.at_ 1 rfl) (HL.out.at_ 0 rfl) L_m3.out L_m4.out (S_m3.out.mono (by omega)) (S_m4.out.mono (by omega))).mono ?_
        rw [sub_mm H_m3.out H_m4.out, sub_mm H_m4.out H_m3.out, Bool.and_self]
        rintro e W19 ⟨rfl, hb⟩
        have HL := Lib.hid ((HL.out.keep hb))
        have hbw := hbw.trans (hb.mono hbw.size)
        clear hb
        go_wp2
        go_ret
        exact ⟨rfl, hbw⟩
      | true =>
        have QAM : ∀ m, IsM b c m → subB a m = true := fun m h => by rw [sub_meet h, Qab, Qac]; rfl
        have QUC : ∀ u, IsU a b u → subB u c = true := fun u h => by rw [sub_union h, Qac, Qbc]; rfl
        go_wp2_with fail
        refine (area_meet _ _ _ b c 20 20 (HL.out.at_ 1 rfl) (HL.out.at_ 0 rfl) L_b.out L_c.out S_b.out S_c.out (by omega) (by omega)).mono ?_
        rintro e W1 ⟨v_m, m, rfl, R_m, l_m, h_m, s_m, hb⟩
        obtain ⟨A_m, c_m, rfl, -⟩ := id R_m
        have L_m : Hid (m.length ≤ 100) := by show _ ≤ _; have := L_b.out; have := L_c.out; omega
        have S_m := Lib.hid s_m
        have H_m : Hid (IsM b c m) := h_m
        have HL := Lib.hid ((HL.out.keep hb).cons R_m)
        have hbw := hbw.trans (hb.mono hbw.size)
        clear R_m l_m h_m s_m hb
        go_wp2_with fail
        refine (within_b _ _ _ a m (HL.out.at_ 3 rfl) (HL.out.at_ 0 rfl) L_a.out L_m.out (S_a.out.mono (by omega)) (S_m.out.mono (by omega))).mono ?_
        rw [QAM _ H_m.out]
        rintro e W2 ⟨rfl, hb⟩
        have HL := Lib.hid ((HL.out.keep hb))
        have hbw := hbw.trans (hb.mono hbw.size)
        clear hb
        go_wp2_with fail
        refine (within_b _ _ _ a b (HL.out.at_ 3 rfl) (HL.out.at_ 2 rfl) L_a.out L_b.out (S_a.out.mono (by omega)) (S_b.out.mono (by omega))).mono ?_
        rw [Qab]
        rintro e W3 ⟨rfl, hb⟩
        have HL := Lib.hid ((HL.out.keep hb))
        have hbw := hbw.trans (hb.mono hbw.size)
        clear hb
        go_wp2_with fail
        refine (within_b _ _ _ a c (HL.out.at_ 3 rfl) (HL.out.at_ 1 rfl) L_a.out L_c.out (S_a.out.mono (by omega)) (S_c.out.mono (by omega))).mono ?_
        rw [Qac]
        rintro e W4 ⟨rfl, hb⟩
        have HL := Lib.hid ((HL.out.keep hb))
        have hbw := hbw.trans (hb.mono hbw.size)
        clear hb
        go_wp2_with fail
        refine (area_union _ _ _ a b 20 20 (HL.out.at_ 3 rfl) (HL.out.at_ 2 rfl) L_a.out L_b.out S_a.out S_b.out (by omega) (by omega)).mono ?_
        rintro e W5 ⟨v_u, u, rfl, R_u, l_u, h_u, s_u, hb⟩
        obtain ⟨A_u, c_u, rfl, -⟩ := id R_u
        have L_u : Hid (u.length ≤ 100) := by show _ ≤ _; have := L_a.out; have := L_b.out; omega
        have S_u := Lib.hid s_u
        have H_u : Hid (IsU a b u) := h_u
        have HL := Lib.hid ((HL.out.keep hb).cons R_u)
        have hbw := hbw.trans (hb.mono hbw.size)
        clear R_u l_u h_u s_u hb
        go_wp2_with fail
        refine (within_b _ _ _ u c (HL.out.at_ 0 rfl) (HL.out.at_ 2 rfl) L_u.out L_c.out (S_u.out.mono (by omega)) (S_c.out.mono (by omega))).mono ?_
        rw [QUC _ H_u.out]
        rintro e W6 ⟨rfl, hb⟩
        have HL := Lib.hid ((HL.out.keep hb))
        have hbw := hbw.trans (hb.mono hbw.size)
        clear hb
        go_wp2_with fail
        refine (within_b _ _ _ a c (HL.out.at_ 4 rfl) (HL.out.at_ 2 rfl) L_a.out L_c.out (S_a.out.mono (by omega)) (S_c.out.mono (by omega))).mono ?_
        rw [Qac]
        rintro e W7 ⟨rfl, hb⟩
        have HL := Lib.hid ((HL.out.keep hb))
        have hbw := hbw.trans (hb.mono hbw.size)
        clear hb
        go_wp2_with fail
        refine (within_b _ _ _ b c (HL.out.at_ 3 rfl) (HL.out.at_ 2 rfl) L_b.out L_c.out (S_b.out.mono (by omega)) (S_c.out.mono (by omega))).mono ?_
        rw [Qbc]
        rintro e W8 ⟨rfl, hb⟩
        have HL := Lib.hid ((HL.out.keep hb))
        have hbw := hbw.trans (hb.mono hbw.size)
        clear hb
        go_wp2_with fail
        refine (within_b _ _ _ a b (HL.out.at_ 4 rfl) (HL.out.at_ 3 rfl) L_a.out L_b.out (S_a.out.mono (by omega)) (S_b.out.mono (by omega))).mono ?_
        rw [Qab]
        rintro e W9 ⟨rfl, hb⟩
        have HL := Lib.hid ((HL.out.keep hb))
        have hbw := hbw.trans (hb.mono hbw.size)
        clear hb
        go_wp2_with fail
        refine (within_b _ _ _ b c (HL.out.at_ 3 rfl) (HL.out.at_ 2 rfl) L_b.out L_c.out (S_b.out.mono (by omega)) (S_c.out.mono (by omega))).mono ?_
        rw [Qbc]
        rintro e W10 ⟨rfl, hb⟩
        have HL := Lib.hid ((HL.out.keep hb))
        have hbw := hbw.trans (hb.mono hbw.size)
        clear hb
        go_wp2_with fail
        refine (within_b _ _ _ a c (HL.out.at_ 4 rfl) (HL.out.at_ 2 rfl) L_a.out L_c.out (S_a.out.mono (by omega)) (S_c.out.mono (by omega))).mono ?_
        rw [Qac]
        rintro e W11 ⟨rfl, hb⟩
        have HL := Lib.hid ((HL.out.keep hb))
        have hbw := hbw.trans (hb.mono hbw.size)
        clear hb
        go_wp2_with fail
        refine (area_meet _ _ _ a b 20 20 (HL.out.at_ 4 rfl) (HL.out.at_ 3 rfl) L_a.out L_b.out S_a.out S_b.out (by omega) (by omega)).mono ?_
        rintro e W12 ⟨v_m2, m2, rfl, R_m2, l_m2, h_m2, s_m2, hb⟩
        obtain ⟨A_m2, c_m2, rfl, -⟩ := id R_m2
        have L_m2 : Hid (m2.length ≤ 100) := by show _ ≤ _; have := L_a.out; have := L_b.out; omega
        have S_m2 := Lib.hid s_m2
        have H_m2 : Hid (IsM a b m2) := h_m2
        have HL := Lib.hid ((HL.out.keep hb).cons R_m2)
        have hbw := hbw.trans (hb.mono hbw.size)
        clear R_m2 l_m2 h_m2 s_m2 hb
        go_wp2_with fail
        refine (area_union _ _ _ b c 20 20 (HL.out.at_ 4 rfl) (HL.out.at_ 3 rfl) L_b.out L_c.out S_b.out S_c.out (by omega) (by omega)).mono ?_
        rintro e W13 ⟨v_u2, u2, rfl, R_u2, l_u2, h_u2, s_u2, hb⟩
        obtain ⟨A_u2, c_u2, rfl, -⟩ := id R_u2
        have L_u2 : Hid (u2.length ≤ 100) := by show _ ≤ _; have := L_b.out; have := L_c.out; omega
        have S_u2 := Lib.hid s_u2
        have H_u2 : Hid (IsU b c u2) := h_u2
        have HL := Lib.hid ((HL.out.keep hb).cons R_u2)
        have hbw := hbw.trans (hb.mono hbw.size)
        clear R_u2 l_u2 h_u2 s_u2 hb
        go_wp2_with fail
        refine (within_b _ _ _ m2 u2 (HL.out.at_ 1 rfl) (HL.out.at_ 0 rfl) L_m2.out L_u2.out (S_m2.out.mono (by omega)) (S_u2.out.mono (by omega))).mono ?_
        rw [sub_mu H_m2.out H_u2.out]
        rintro e W14 ⟨rfl, hb⟩
        have HL := Lib.hid ((HL.out.keep hb))
        have hbw := hbw.trans (hb.mono hbw.size)
        clear hb
        go_wp2_with fail
        refine (area_union _ _ _ a b 20 20 (HL.out.at_ 6 rfl) (HL.out.at_ 5 rfl) L_a.out L_b.out S_a.out S_b.out (by omega) (by omega)).mono ?_
        rintro e W15 ⟨v_u3, u3, rfl, R_u3, l_u3, h_u3, s_u3, hb⟩
        obtain ⟨A_u3, c_u3, rfl, -⟩ := id R_u3
        have L_u3 : Hid (u3.length ≤ 100) := by show _ ≤ _; have := L_a.out; have := L_b.out; omega
        have S_u3 := Lib.hid s_u3
        have H_u3 : Hid (IsU a b u3) := h_u3
        have HL := Lib.hid ((HL.out.keep hb).cons R_u3)
        have hbw := hbw.trans (hb.mono hbw.size)
        clear R_u3 l_u3 h_u3 s_u3 hb
        go_wp2_with fail
        refine (area_union _ _ _ b a 20 20 (HL.out.at_ 6 rfl) (HL.out.at_ 7 rfl) L_b.out L_a.out S_b.out S_a.out (by omega) (by omega)).mono ?_
        rintro e W16 ⟨v_u4, u4, rfl, R_u4, l_u4, h_u4, s_u4, hb⟩
        obtain ⟨A_u4, c_u4, rfl, -⟩ := id R_u4
        have L_u4 : Hid (u4.length ≤ 100) := by show _ ≤ _; have := L_b.out; have := L_a.out; omega
        have S_u4 := Lib.hid s_u4
        have H_u4 : Hid (IsU b a u4) := h_u4
        have HL := Lib.hid ((HL.out.keep hb).cons R_u4)
        have hbw := hbw.trans (hb.mono hbw.size)
        clear R_u4 l_u4 h_u4 s_u4 hb
        go_wp2_with fail
        refine (same_b _ _ _ u3 u4 (HL.out.at_ 1 rfl) (HL.out.at_ 0 rfl) L_u3.out L_u4.out (S_u3.out.mono (by omega)) (S_u4.out.mono (by omega))).mono ?_
        rw [sub_uu H_u3.out H_u4.out, sub_uu H_u4.out H_u3.out, Bool.and_self]
        rintro e W17 ⟨rfl, hb⟩
        have HL := Lib.hid ((HL.out.keep hb))
        have hbw := hbw.trans (hb.mono hbw.size)
        clear hb
        go_wp2_with fail
        refine (area_meet _ _ _ a b 20 20 (HL.out.at_ 8 rfl) (HL.out.at_ 7 rfl) L_a.out L_b.out S_a.out S_b.out (by omega) (by omega)).mono ?_
        rintro e W18 ⟨v_m3, m3, rfl, R_m3, l_m3, h_m3, s_m3, hb⟩
        obtain ⟨A_m3, c_m3, rfl, -⟩ := id R_m3
        have L_m3 : Hid (m3.length ≤ 100) := by show _ ≤ _; have := L_a.out; have := L_b.out; omega
        have S_m3 := Lib.hid s_m3
        have H_m3 : Hid (IsM a b m3) := h_m3
        have HL := Lib.hid ((HL.out.keep hb).cons R_m3)
        have hbw := hbw.trans (hb.mono hbw.size)
        clear R_m3 l_m3 h_m3 s_m3 hb
        go_wp2_with fail
        refine (area_meet _ _ _ b a 20 20 (HL.out.at_ 8 rfl) (HL.out.at_ 9 rfl) L_b.out L_a.out S_b.out S_a.out (by omega) (by omega)).mono ?_
        rintro e W19 ⟨v_m4, m4, rfl, R_m4, l_m4, h_m4, s_m4, hb⟩
        obtain ⟨A_m4, c_m4, rfl, -⟩ := id R_m4
        have L_m4 : Hid (m4.length ≤ 100) := by show _ ≤ _; have := L_b.out; have := L_a.out; omega
        have S_m4 := Lib.hid s_m4
        have H_m4 : Hid (IsM b a m4) := h_m4
        have HL := Lib.hid ((HL.out.keep hb).cons R_m4)
        have hbw := hbw.trans (hb.mono hbw.size)
        clear R_m4 l_m4 h_m4 s_m4 hb
        go_wp2_with fail
        refine (same_b _ _ _ m3 m4 (HL.out.at_ 1 rfl) (HL.out.at_ 0 rfl) L_m3.out L_m4.out (S_m3.out.mono (by omega)) (S_m4.out.mono (by omega))).mono ?_
        rw [sub_mm H_m3.out H_m4.out, sub_mm H_m4.out H_m3.out, Bool.and_self]
        rintro e W20 ⟨rfl, hb⟩
        have HL := Lib.hid ((HL.out.keep hb))
        have hbw := hbw.trans (hb.mono hbw.size)
        clear hb
        go_wp2
        go_ret
        exact ⟨rfl, hbw⟩
end Go.Proofs.YtjlkkbjolfhobaaDoor
