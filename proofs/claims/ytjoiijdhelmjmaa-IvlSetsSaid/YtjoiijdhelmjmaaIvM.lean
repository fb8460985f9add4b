import Derived.Test.YtjoiijdhelmjmaaIvL
namespace Go.Proofs.Ytjoiijdhelmjmaa
open Go.RowKit
attribute [local go_sem] World.cell?_alloc_some frozen_alloc_some

set_option maxRecDepth 100000 in
set_option maxHeartbeats 16000000 in
theorem sets_yes (w : World) (v u : Value) (a b : List Sp) (key : Nat) (ha : RdS w v a) (hb : RdS w u b) (la : a.length ≤ 40) (lb : b.length ≤ 40) (hkey : key < 4294967296) :
    Calls Try.prog 3 #[v, u, .int .u32 key] w fun e w' => e = .returned (.bool true) ∧ Below w.heap.size w w' := by
  obtain ⟨A_a, c_a, rfl, ka1_a, ka2_a, ka3_a, -⟩ := id ha
  unfold maxLen at ka2_a
  obtain ⟨A_b, c_b, rfl, ka1_b, ka2_b, ka3_b, -⟩ := id hb
  unfold maxLen at ka2_b
  have HL0 : Hid (RdAll w [(.slice A_a a.length c_a, a), (.slice A_b b.length c_b, b)]) := ((RdAll.nil.cons hb).cons ha)
  clear ha hb
  go_enter Try.func3, Try.ntmps3
  go_wp2_with fail
  refine (alive_calls _).mono ?_
  rintro e W0 ⟨rfl, hbw⟩
  have HL := Lib.hid (HL0.out.keep hbw)
  obtain ⟨i0, hi, hz0, hz1, hz2⟩ := info_parts infoSp
  have o9 := World.ownsRow_made (base := W0.heap.size) (e := 38) (size := 2) W0 #[] 0 (Nat.le_refl _) (Nat.zero_le _) rfl
  have HA1 := Lib.hid ((HL.out.at_ 0 rfl).keep ((Below.refl _ W0).alloc (Nat.le_refl _) (.cells #[] 38)))
  have hwa := (HL.out.at_ 0 rfl).wf
  have HWA := Lib.hid hwa
  clear hwa
  have G0 : True := trivial
  go_wp2_with (
      (at_builtin
       clear G0
       refine wpList_append_L 22 38 i0 _ Try.underlying22 hi hz0 hz1 hz2 rfl (by omega) (by omega) spc rSpan_enc rSpan_one rfl _ _ rfl W0.heap.size (.slice (some ⟨W0.heap.size, 0, none⟩) 0 0) _ _ rfl o9 _ a rfl HA1.out (by omega) (by simp) ?_
       intro v1 W01 hown1 hgrow1 hat1
       have hbx := ((Below.refl W0.heap.size W0).alloc (Nat.le_refl _) (.cells #[] 38)).trans (own_grown o9 hgrow1 (N := W0.heap.size) (Nat.le_refl _) (by simp))
       rw [Nat.zero_add, List.nil_append] at hown1
       have HN1 := Lib.hid (show NewS W0.heap.size W01 v1 a from ⟨hown1, HWA.out, by omega⟩)
       obtain ⟨Aw, cw, rfl⟩ := HN1.out.form
       have HL := Lib.hid ((HL.out.keep hbx).cons HN1.out.rd)
       have hbw := hbw.trans (hbx.mono hbw.size)
       clear hown1 hgrow1 hat1 hbx o9))
  skip
  refine (make_calls _ _  a (HL.out.at_ 1 rfl) (by first | omega | (simp; done) | (simp; omega))).mono ?_
  rintro e W1 ⟨vm1, m1, rfl, N, hset, l_m1, hb⟩
  obtain ⟨A_m1, c_m1, rfl⟩ : ∃ A c, vm1 = .slice A m1.length c := N.form
  have HL := Lib.hid ((HL.out.keep hb).cons N.rd)
  have hbw := hbw.trans (hb.mono hbw.size)
  have S_m1 := Lib.hid hset
  clear hset N hb
  go_wp2_with fail
  refine (build2_calls _ _ _ a [] 0 (HL.out.at_ 2 rfl) RdS.nil (by first | omega | simp) (by first | omega | simp) (by decide)).mono ?_
  rintro e W2 ⟨vr1, r1, rfl, N, hdef, hwa, hwb, l_r1, hb⟩
  have hset := buildMake_spec hwa
  rw [← hdef] at hset
  clear hdef hwa hwb
  obtain ⟨A_r1, c_r1, rfl⟩ : ∃ A c, vr1 = .slice A r1.length c := N.form
  have HL := Lib.hid ((HL.out.keep hb).cons N.rd)
  have hbw := hbw.trans (hb.mono hbw.size)
  have S_r1 := Lib.hid hset
  clear hset N hb
  go_wp2_with fail
  refine (refSame2_calls _ _ _ m1 r1 (HL.out.at_ 1 rfl) (HL.out.at_ 0 rfl)).mono ?_
  rintro e W3 ⟨q, rfl, hq, hb⟩
  obtain rfl : q = true := hq.2 (S_m1.out.eq S_r1.out fun k => Iff.rfl)
  clear hq
  have HL := Lib.hid (HL.out.keep hb)
  have hbw := hbw.trans (hb.mono hbw.size)
  clear hb
  go_wp2_with fail
  refine (union_calls _ _ _  a b (HL.out.at_ 3 rfl) (HL.out.at_ 4 rfl) (by first | omega | (simp; done) | (simp; omega)) (by first | omega | (simp; done) | (simp; omega))).mono ?_
  rintro e W4 ⟨vm2, m2, rfl, N, hset, l_m2, hb⟩
  obtain ⟨A_m2, c_m2, rfl⟩ : ∃ A c, vm2 = .slice A m2.length c := N.form
  have HL := Lib.hid ((HL.out.keep hb).cons N.rd)
  have hbw := hbw.trans (hb.mono hbw.size)
  have S_m2 := Lib.hid hset
  clear hset N hb
  go_wp2_with fail
  refine (build2_calls _ _ _ a b 0 (HL.out.at_ 4 rfl) (HL.out.at_ 5 rfl) (by first | omega | simp) (by first | omega | simp) (by decide)).mono ?_
  rintro e W5 ⟨vr2, r2, rfl, N, hdef, hwa, hwb, l_r2, hb⟩
  have hset := build0_spec hwa hwb
  rw [← hdef] at hset
  clear hdef hwa hwb
  obtain ⟨A_r2, c_r2, rfl⟩ : ∃ A c, vr2 = .slice A r2.length c := N.form
  have HL := Lib.hid ((HL.out.keep hb).cons N.rd)
  have hbw := hbw.trans (hb.mono hbw.size)
  have S_r2 := Lib.hid hset
  clear hset N hb
  go_wp2_with fail
  refine (refSame2_calls _ _ _ m2 r2 (HL.out.at_ 1 rfl) (HL.out.at_ 0 rfl)).mono ?_
  rintro e W6 ⟨q, rfl, hq, hb⟩
  obtain rfl : q = true := hq.2 (S_m2.out.eq S_r2.out fun k => Iff.rfl)
  clear hq
  have HL := Lib.hid (HL.out.keep hb)
  have hbw := hbw.trans (hb.mono hbw.size)
  clear hb
  go_wp2_with fail
  refine (meet_calls _ _ _  a b (HL.out.at_ 5 rfl) (HL.out.at_ 6 rfl) (by first | omega | (simp; done) | (simp; omega)) (by first | omega | (simp; done) | (simp; omega))).mono ?_
  rintro e W7 ⟨vm3, m3, rfl, N, hset, l_m3, hb⟩
  obtain ⟨A_m3, c_m3, rfl⟩ : ∃ A c, vm3 = .slice A m3.length c := N.form
  have HL := Lib.hid ((HL.out.keep hb).cons N.rd)
  have hbw := hbw.trans (hb.mono hbw.size)
  have S_m3 := Lib.hid hset
  clear hset N hb
  go_wp2_with fail
  refine (build2_calls _ _ _ a b 1 (HL.out.at_ 6 rfl) (HL.out.at_ 7 rfl) (by first | omega | simp) (by first | omega | simp) (by decide)).mono ?_
  rintro e W8 ⟨vr3, r3, rfl, N, hdef, hwa, hwb, l_r3, hb⟩
  have hset := build1_spec hwa hwb
  rw [← hdef] at hset
  clear hdef hwa hwb
  obtain ⟨A_r3, c_r3, rfl⟩ : ∃ A c, vr3 = .slice A r3.length c := N.form
  have HL := Lib.hid ((HL.out.keep hb).cons N.rd)
  have hbw := hbw.trans (hb.mono hbw.size)
  have S_r3 := Lib.hid hset
  clear hset N hb
  go_wp2_with fail
  refine (refSame2_calls _ _ _ m3 r3 (HL.out.at_ 1 rfl) (HL.out.at_ 0 rfl)).mono ?_
  rintro e W9 ⟨q, rfl, hq, hb⟩
  obtain rfl : q = true := hq.2 (S_m3.out.eq S_r3.out fun k => Iff.rfl)
  clear hq
  have HL := Lib.hid (HL.out.keep hb)
  have hbw := hbw.trans (hb.mono hbw.size)
  clear hb
  go_wp2_with fail
  refine (minus_calls _ _ _  a b (HL.out.at_ 7 rfl) (HL.out.at_ 8 rfl) (by first | omega | (simp; done) | (simp; omega)) (by first | omega | (simp; done) | (simp; omega))).mono ?_
  rintro e W10 ⟨vm4, m4, rfl, N, hset, l_m4, hb⟩
  obtain ⟨A_m4, c_m4, rfl⟩ : ∃ A c, vm4 = .slice A m4.length c := N.form
  have HL := Lib.hid ((HL.out.keep hb).cons N.rd)
  have hbw := hbw.trans (hb.mono hbw.size)
  have S_m4 := Lib.hid hset
  clear hset N hb
  go_wp2_with fail
  refine (build2_calls _ _ _ a b 2 (HL.out.at_ 8 rfl) (HL.out.at_ 9 rfl) (by first | omega | simp) (by first | omega | simp) (by decide)).mono ?_
  rintro e W11 ⟨vr4, r4, rfl, N, hdef, hwa, hwb, l_r4, hb⟩
  have hset := build2_spec hwa hwb
  rw [← hdef] at hset
  clear hdef hwa hwb
  obtain ⟨A_r4, c_r4, rfl⟩ : ∃ A c, vr4 = .slice A r4.length c := N.form
  have HL := Lib.hid ((HL.out.keep hb).cons N.rd)
  have hbw := hbw.trans (hb.mono hbw.size)
  have S_r4 := Lib.hid hset
  clear hset N hb
  go_wp2_with fail
  refine (refSame2_calls _ _ _ m4 r4 (HL.out.at_ 1 rfl) (HL.out.at_ 0 rfl)).mono ?_
  rintro e W12 ⟨q, rfl, hq, hb⟩
  obtain rfl : q = true := hq.2 (S_m4.out.eq S_r4.out fun k => Iff.rfl)
  clear hq
  have HL := Lib.hid (HL.out.keep hb)
  have hbw := hbw.trans (hb.mono hbw.size)
  clear hb
  go_wp2_with fail
  refine (not_calls _ _  a (HL.out.at_ 9 rfl) (by first | omega | (simp; done) | (simp; omega))).mono ?_
  rintro e W13 ⟨vm5, m5, rfl, N, hset, l_m5, hb⟩
  obtain ⟨A_m5, c_m5, rfl⟩ : ∃ A c, vm5 = .slice A m5.length c := N.form
  have HL := Lib.hid ((HL.out.keep hb).cons N.rd)
  have hbw := hbw.trans (hb.mono hbw.size)
  have S_m5 := Lib.hid hset
  clear hset N hb
  go_wp2_with fail
  refine (build2_calls _ _ _ a [] 3 (HL.out.at_ 10 rfl) RdS.nil (by first | omega | simp) (by first | omega | simp) (by decide)).mono ?_
  rintro e W14 ⟨vr5, r5, rfl, N, hdef, hwa, hwb, l_r5, hb⟩
  have hset := build3_spec hwa hwb
  rw [← hdef] at hset
  clear hdef hwa hwb
  obtain ⟨A_r5, c_r5, rfl⟩ : ∃ A c, vr5 = .slice A r5.length c := N.form
  have HL := Lib.hid ((HL.out.keep hb).cons N.rd)
  have hbw := hbw.trans (hb.mono hbw.size)
  have S_r5 := Lib.hid hset
  clear hset N hb
  go_wp2_with fail
  refine (refSame2_calls _ _ _ m5 r5 (HL.out.at_ 1 rfl) (HL.out.at_ 0 rfl)).mono ?_
  rintro e W15 ⟨q, rfl, hq, hb⟩
  obtain rfl : q = true := hq.2 (S_m5.out.eq S_r5.out fun k => Iff.rfl)
  clear hq
  have HL := Lib.hid (HL.out.keep hb)
  have hbw := hbw.trans (hb.mono hbw.size)
  clear hb
  go_wp2_with fail
  refine (right2_calls _ _ a (HL.out.at_ 11 rfl) (by first | omega | (simp; done) | (simp; omega))).mono ?_
  rintro e W16 ⟨q1, rfl, hq, hb⟩
  have Hq1 := Lib.hid hq
  clear hq
  have HL := Lib.hid (HL.out.keep hb)
  have hbw := hbw.trans (hb.mono hbw.size)
  clear hb
  go_wp2_with fail
  refine (build2_calls _ _ _ a [] 0 (HL.out.at_ 11 rfl) RdS.nil (by first | omega | simp) (by first | omega | simp) (by decide)).mono ?_
  rintro e W17 ⟨vr6, r6, rfl, N, hdef, hwa, hwb, l_r6, hb⟩
  have hset := buildMake_spec hwa
  rw [← hdef] at hset
  clear hdef hwa hwb
  obtain ⟨A_r6, c_r6, rfl⟩ : ∃ A c, vr6 = .slice A r6.length c := N.form
  have HL := Lib.hid ((HL.out.keep hb).cons N.rd)
  have hbw := hbw.trans (hb.mono hbw.size)
  have S_r6 := Lib.hid hset
  clear hset N hb
  go_wp2_with fail
  refine (refSame2_calls _ _ _ a r6 (HL.out.at_ 12 rfl) (HL.out.at_ 0 rfl)).mono ?_
  rintro e W18 ⟨q2, rfl, hq, hb⟩
  have Hq2 := Lib.hid hq
  clear hq
  have HL := Lib.hid (HL.out.keep hb)
  have hbw := hbw.trans (hb.mono hbw.size)
  clear hb
  obtain rfl : q1 = q2 := Bool.eq_iff_iff.2 (Hq1.out.trans (Iff.trans ⟨fun h => h.ext S_r6.out.nf fun k => (S_r6.out.iff k).symm, fun e => by rw [e]; exact S_r6.out.nf⟩ Hq2.out.symm))
  go_wp2_with fail
  refine (has2_calls _ _ a key (HL.out.at_ 12 rfl)).mono ?_
  rintro e W19 ⟨q3, rfl, hq, hb⟩
  have Hq3 := Lib.hid hq
  clear hq
  have HL := Lib.hid (HL.out.keep hb)
  have hbw := hbw.trans (hb.mono hbw.size)
  clear hb
  go_wp2_with fail
  refine (refHas2_calls _ _ a key (HL.out.at_ 12 rfl)).mono ?_
  rintro e W20 ⟨q4, rfl, hq, hb⟩
  have Hq4 := Lib.hid hq
  clear hq
  have HL := Lib.hid (HL.out.keep hb)
  have hbw := hbw.trans (hb.mono hbw.size)
  clear hb
  obtain rfl : q3 = q4 := Bool.eq_iff_iff.2 (Hq3.out.trans Hq4.out.symm)
  go_wp2_with fail
  refine (within_calls _ _ _ a b (HL.out.at_ 12 rfl) (HL.out.at_ 13 rfl) (by first | omega | (simp; done) | (simp; omega)) (by first | omega | (simp; done) | (simp; omega))).mono ?_
  rintro e W21 ⟨q5, rfl, hq, hb⟩
  have Hq5 := Lib.hid hq
  clear hq
  have HL := Lib.hid (HL.out.keep hb)
  have hbw := hbw.trans (hb.mono hbw.size)
  clear hb
  go_wp2_with fail
  refine (build2_calls _ _ _ a b 2 (HL.out.at_ 12 rfl) (HL.out.at_ 13 rfl) (by first | omega | simp) (by first | omega | simp) (by decide)).mono ?_
  rintro e W22 ⟨vr7, r7, rfl, N, hdef, hwa, hwb, l_r7, hb⟩
  have hset := build2_spec hwa hwb
  rw [← hdef] at hset
  clear hdef hwa hwb
  obtain ⟨A_r7, c_r7, rfl⟩ : ∃ A c, vr7 = .slice A r7.length c := N.form
  have HL := Lib.hid ((HL.out.keep hb).cons N.rd)
  have hbw := hbw.trans (hb.mono hbw.size)
  have S_r7 := Lib.hid hset
  clear hset N hb
  obtain rfl : q5 = ((r7.length : Int) == 0) := Bool.eq_iff_iff.2 (Hq5.out.trans (Iff.trans (by
    have e : (((r7.length : Int) == 0) = true) ↔ r7 = [] := by rw [beq_iff_eq, ← List.length_eq_zero_iff]; omega
    rw [e, S_r7.out.nil_iff]; grind) Iff.rfl))
  go_wp2_with fail
  refine (size2_calls _ _ a (HL.out.at_ 13 rfl) (by first | omega | (simp; done) | (simp; omega))).mono ?_
  rintro e W23 ⟨rfl, hb⟩
  have HL := Lib.hid (HL.out.keep hb)
  have hbw := hbw.trans (hb.mono hbw.size)
  clear hb
  go_wp2_with fail
  refine (refSize2_calls _ _ a (HL.out.at_ 13 rfl) (by first | omega | (simp; done) | (simp; omega))).mono ?_
  rintro e W24 ⟨rfl, hb⟩
  have HL := Lib.hid (HL.out.keep hb)
  have hbw := hbw.trans (hb.mono hbw.size)
  clear hb
  go_wp2_with fail
  refine (same2_calls _ _ _ a b (HL.out.at_ 13 rfl) (HL.out.at_ 14 rfl) (by first | omega | (simp; done) | (simp; omega)) (by first | omega | (simp; done) | (simp; omega))).mono ?_
  rintro e W25 ⟨q6, rfl, hq, hb⟩
  have Hq6 := Lib.hid hq
  clear hq
  have HL := Lib.hid (HL.out.keep hb)
  have hbw := hbw.trans (hb.mono hbw.size)
  clear hb
  go_wp2_with fail
  refine (build2_calls _ _ _ a [] 0 (HL.out.at_ 13 rfl) RdS.nil (by first | omega | simp) (by first | omega | simp) (by decide)).mono ?_
  rintro e W26 ⟨vr8, r8, rfl, N, hdef, hwa, hwb, l_r8, hb⟩
  have hset := buildMake_spec hwa
  rw [← hdef] at hset
  clear hdef hwa hwb
  obtain ⟨A_r8, c_r8, rfl⟩ : ∃ A c, vr8 = .slice A r8.length c := N.form
  have HL := Lib.hid ((HL.out.keep hb).cons N.rd)
  have hbw := hbw.trans (hb.mono hbw.size)
  have S_r8 := Lib.hid hset
  clear hset N hb
  go_wp2_with fail
  refine (build2_calls _ _ _ b [] 0 (HL.out.at_ 15 rfl) RdS.nil (by first | omega | simp) (by first | omega | simp) (by decide)).mono ?_
  rintro e W27 ⟨vr9, r9, rfl, N, hdef, hwa, hwb, l_r9, hb⟩
  have hset := buildMake_spec hwa
  rw [← hdef] at hset
  clear hdef hwa hwb
  obtain ⟨A_r9, c_r9, rfl⟩ : ∃ A c, vr9 = .slice A r9.length c := N.form
  have HL := Lib.hid ((HL.out.keep hb).cons N.rd)
  have hbw := hbw.trans (hb.mono hbw.size)
  have S_r9 := Lib.hid hset
  clear hset N hb
  go_wp2_with fail
  refine (refSame2_calls _ _ _ r8 r9 (HL.out.at_ 1 rfl) (HL.out.at_ 0 rfl)).mono ?_
  rintro e W28 ⟨q7, rfl, hq, hb⟩
  have Hq7 := Lib.hid hq
  clear hq
  have HL := Lib.hid (HL.out.keep hb)
  have hbw := hbw.trans (hb.mono hbw.size)
  clear hb
  obtain rfl : q6 = q7 := Bool.eq_iff_iff.2 (Hq6.out.trans (Iff.trans (S_r8.out.eq_iff S_r9.out).symm Hq7.out.symm))
  go_wp2_with fail
  refine (refSame2_calls _ _ _ a a (HL.out.at_ 14 rfl) (HL.out.at_ 15 rfl)).mono ?_
  rintro e W29 ⟨q, rfl, hq, hb⟩
  obtain rfl : q = true := hq.2 (rfl)
  clear hq
  have HL := Lib.hid (HL.out.keep hb)
  have hbw := hbw.trans (hb.mono hbw.size)
  clear hb
  go_wp2
  go_ret
  exact ⟨rfl, hbw⟩
set_option maxRecDepth 100000 in
set_option maxHeartbeats 2000000 in
theorem sets_no (w : World) (v u : Value) (a b : List Sp) (key : Nat) (ha : RdS w v a) (hb : RdS w u b) (hn : 40 < a.length ∨ 40 < b.length) :
    Calls Try.prog 3 #[v, u, .int .u32 key] w fun e w' => e = .returned (.bool true) ∧ Below w.heap.size w w' := by
  obtain ⟨A_a, c_a, rfl, ka1_a, ka2_a, ka3_a, -⟩ := id ha
  unfold maxLen at ka2_a
  obtain ⟨A_b, c_b, rfl, ka1_b, ka2_b, ka3_b, -⟩ := id hb
  unfold maxLen at ka2_b
  clear ha hb
  by_cases c0 : 40 < a.length
  · have k0 : decide ((40 : Int) < a.length) = true := by simp; omega
    clear hn
    go_enter Try.func3, Try.ntmps3
    go_wp2_with fail
    refine (alive_calls _).mono ?_
    rintro e W0 ⟨rfl, hbw⟩
    go_wp2
    go_ret
    exact ⟨rfl, hbw⟩
  · have k0 : decide ((40 : Int) < a.length) = false := by simp; omega
    have k1 : decide ((40 : Int) < b.length) = true := by simp; omega
    clear hn
    go_enter Try.func3, Try.ntmps3
    go_wp2_with fail
    refine (alive_calls _).mono ?_
    rintro e W0 ⟨rfl, hbw⟩
    go_wp2
    go_ret
    exact ⟨rfl, hbw⟩
theorem sets_law (w : World) (v u : Value) (a b : List Sp) (key : Int) (ha : RdS w v a) (hb : RdS w u b) (hk : (Lit.int .u32 key).wf = true) :
    Calls Try.prog 3 #[v, u, .int .u32 key] w fun e w' => e = .returned (.bool true) ∧ Below w.heap.size w w' := by
  obtain ⟨k, rfl, hk2⟩ := u32_nat hk
  by_cases h : 40 < a.length ∨ 40 < b.length
  · exact sets_no w v u a b k ha hb h
  · exact sets_yes w v u a b k ha hb (by omega) (by omega) hk2
end Go.Proofs.Ytjoiijdhelmjmaa
