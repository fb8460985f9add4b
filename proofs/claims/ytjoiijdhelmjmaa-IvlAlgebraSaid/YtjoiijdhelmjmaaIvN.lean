import Derived.Test.YtjoiijdhelmjmaaIvL
namespace Go.Proofs.Ytjoiijdhelmjmaa
open Go.RowKit
attribute [local go_sem] World.cell?_alloc_some frozen_alloc_some

set_option maxRecDepth 100000 in
set_option maxHeartbeats 64000000 in
theorem algebra_yes (w : World) (v u t : Value) (a b c : List Sp) (key : Nat) (ha : RdS w v a) (hb : RdS w u b) (hc : RdS w t c) (la : a.length ≤ 40) (lb : b.length ≤ 40) (lc : c.length ≤ 40) (hkey : key < 4294967296) :
    Calls Try.prog 4 #[v, u, t, .int .u32 key] w fun e w' => e = .returned (.bool true) ∧ Below w.heap.size w w' := by
  obtain ⟨A_a, c_a, rfl, ka1_a, ka2_a, ka3_a, -⟩ := id ha
  unfold maxLen at ka2_a
  obtain ⟨A_b, c_b, rfl, ka1_b, ka2_b, ka3_b, -⟩ := id hb
  unfold maxLen at ka2_b
  obtain ⟨A_c, c_c, rfl, ka1_c, ka2_c, ka3_c, -⟩ := id hc
  unfold maxLen at ka2_c
  have HL0 : Hid (RdAll w [(.slice A_a a.length c_a, a), (.slice A_b b.length c_b, b), (.slice A_c c.length c_c, c)]) := (((RdAll.nil.cons hc).cons hb).cons ha)
  clear ha hb hc
  go_enter Try.func4, Try.ntmps4
  go_wp2_with fail
  refine (alive_calls _).mono ?_
  rintro e W0 ⟨rfl, hbw⟩
  have HL := Lib.hid (HL0.out.keep hbw)
  have WA := Lib.hid (HL0.out.at_ 0 rfl).wf
  go_wp2_with fail
  refine (union_calls _ _ _  a b (HL.out.at_ 0 rfl) (HL.out.at_ 1 rfl) (by first | omega | (simp; done) | (simp; omega)) (by first | omega | (simp; done) | (simp; omega))).mono ?_
  rintro e W1 ⟨vu, u, rfl, N, hset, l_u, hb⟩
  try simp only [List.length_cons, List.length_nil] at l_u
  obtain ⟨A_u, c_u, rfl⟩ : ∃ A c, vu = .slice A u.length c := N.form
  have HL := Lib.hid ((HL.out.keep hb).cons N.rd)
  have hbw := hbw.trans (hb.mono hbw.size)
  have S_u := Lib.hid hset
  clear hset N hb
  go_wp2_with fail
  refine (meet_calls _ _ _  a b (HL.out.at_ 1 rfl) (HL.out.at_ 2 rfl) (by first | omega | (simp; done) | (simp; omega)) (by first | omega | (simp; done) | (simp; omega))).mono ?_
  rintro e W2 ⟨vm, m, rfl, N, hset, l_m, hb⟩
  try simp only [List.length_cons, List.length_nil] at l_m
  obtain ⟨A_m, c_m, rfl⟩ : ∃ A c, vm = .slice A m.length c := N.form
  have HL := Lib.hid ((HL.out.keep hb).cons N.rd)
  have hbw := hbw.trans (hb.mono hbw.size)
  have S_m := Lib.hid hset
  clear hset N hb
  go_wp2_with fail
  refine (minus_calls _ _ _  a b (HL.out.at_ 2 rfl) (HL.out.at_ 3 rfl) (by first | omega | (simp; done) | (simp; omega)) (by first | omega | (simp; done) | (simp; omega))).mono ?_
  rintro e W3 ⟨vd, d, rfl, N, hset, l_d, hb⟩
  try simp only [List.length_cons, List.length_nil] at l_d
  obtain ⟨A_d, c_d, rfl⟩ : ∃ A c, vd = .slice A d.length c := N.form
  have HL := Lib.hid ((HL.out.keep hb).cons N.rd)
  have hbw := hbw.trans (hb.mono hbw.size)
  have S_d := Lib.hid hset
  clear hset N hb
  go_wp2_with fail
  refine (right2_calls _ _ u (HL.out.at_ 2 rfl) (by first | omega | (simp; done) | (simp; omega))).mono ?_
  rintro e W4 ⟨q, rfl, hq, hb⟩
  obtain rfl : q = true := hq.2 (S_u.out.nf)
  clear hq
  have HL := Lib.hid (HL.out.keep hb)
  have hbw := hbw.trans (hb.mono hbw.size)
  clear hb
  go_wp2_with fail
  refine (right2_calls _ _ m (HL.out.at_ 1 rfl) (by first | omega | (simp; done) | (simp; omega))).mono ?_
  rintro e W5 ⟨q, rfl, hq, hb⟩
  obtain rfl : q = true := hq.2 (S_m.out.nf)
  clear hq
  have HL := Lib.hid (HL.out.keep hb)
  have hbw := hbw.trans (hb.mono hbw.size)
  clear hb
  go_wp2_with fail
  refine (right2_calls _ _ d (HL.out.at_ 0 rfl) (by first | omega | (simp; done) | (simp; omega))).mono ?_
  rintro e W6 ⟨q, rfl, hq, hb⟩
  obtain rfl : q = true := hq.2 (S_d.out.nf)
  clear hq
  have HL := Lib.hid (HL.out.keep hb)
  have hbw := hbw.trans (hb.mono hbw.size)
  clear hb
  go_wp2_with fail
  refine (not_calls _ _  u (HL.out.at_ 2 rfl) (by first | omega | (simp; done) | (simp; omega))).mono ?_
  rintro e W7 ⟨vnu, nu, rfl, N, hset, l_nu, hb⟩
  try simp only [List.length_cons, List.length_nil] at l_nu
  obtain ⟨A_nu, c_nu, rfl⟩ : ∃ A c, vnu = .slice A nu.length c := N.form
  have HL := Lib.hid ((HL.out.keep hb).cons N.rd)
  have hbw := hbw.trans (hb.mono hbw.size)
  have S_nu := Lib.hid hset
  clear hset N hb
  go_wp2_with fail
  refine (not_calls _ _  a (HL.out.at_ 4 rfl) (by first | omega | (simp; done) | (simp; omega))).mono ?_
  rintro e W8 ⟨vna, na, rfl, N, hset, l_na, hb⟩
  try simp only [List.length_cons, List.length_nil] at l_na
  obtain ⟨A_na, c_na, rfl⟩ : ∃ A c, vna = .slice A na.length c := N.form
  have HL := Lib.hid ((HL.out.keep hb).cons N.rd)
  have hbw := hbw.trans (hb.mono hbw.size)
  have S_na := Lib.hid hset
  clear hset N hb
  go_wp2_with fail
  refine (not_calls _ _  b (HL.out.at_ 6 rfl) (by first | omega | (simp; done) | (simp; omega))).mono ?_
  rintro e W9 ⟨vnb, nb, rfl, N, hset, l_nb, hb⟩
  try simp only [List.length_cons, List.length_nil] at l_nb
  obtain ⟨A_nb, c_nb, rfl⟩ : ∃ A c, vnb = .slice A nb.length c := N.form
  have HL := Lib.hid ((HL.out.keep hb).cons N.rd)
  have hbw := hbw.trans (hb.mono hbw.size)
  have S_nb := Lib.hid hset
  clear hset N hb
  go_wp2_with fail
  refine (meet_calls _ _ _  na nb (HL.out.at_ 1 rfl) (HL.out.at_ 0 rfl) (by first | omega | (simp; done) | (simp; omega)) (by first | omega | (simp; done) | (simp; omega))).mono ?_
  rintro e W10 ⟨vmn, mn, rfl, N, hset, l_mn, hb⟩
  try simp only [List.length_cons, List.length_nil] at l_mn
  obtain ⟨A_mn, c_mn, rfl⟩ : ∃ A c, vmn = .slice A mn.length c := N.form
  have HL := Lib.hid ((HL.out.keep hb).cons N.rd)
  have hbw := hbw.trans (hb.mono hbw.size)
  have S_mn := Lib.hid hset
  clear hset N hb
  go_wp2_with fail
  refine (same2_calls _ _ _ nu mn (HL.out.at_ 3 rfl) (HL.out.at_ 0 rfl) (by first | omega | (simp; done) | (simp; omega)) (by first | omega | (simp; done) | (simp; omega))).mono ?_
  rintro e W11 ⟨q, rfl, hq, hb⟩
  obtain rfl : q = true := hq.2 (fun k => by rw [S_nu.out.iff, S_mn.out.iff, S_na.out.iff, S_nb.out.iff, S_u.out.iff]; grind)
  clear hq
  have HL := Lib.hid (HL.out.keep hb)
  have hbw := hbw.trans (hb.mono hbw.size)
  clear hb
  go_wp2_with fail
  refine (not_calls _ _  a (HL.out.at_ 7 rfl) (by first | omega | (simp; done) | (simp; omega))).mono ?_
  rintro e W12 ⟨vna2, na2, rfl, N, hset, l_na2, hb⟩
  try simp only [List.length_cons, List.length_nil] at l_na2
  obtain ⟨A_na2, c_na2, rfl⟩ : ∃ A c, vna2 = .slice A na2.length c := N.form
  have HL := Lib.hid ((HL.out.keep hb).cons N.rd)
  have hbw := hbw.trans (hb.mono hbw.size)
  have S_na2 := Lib.hid hset
  clear hset N hb
  go_wp2_with fail
  refine (not_calls _ _  na2 (HL.out.at_ 0 rfl) (by first | omega | (simp; done) | (simp; omega))).mono ?_
  rintro e W13 ⟨vnna, nna, rfl, N, hset, l_nna, hb⟩
  try simp only [List.length_cons, List.length_nil] at l_nna
  obtain ⟨A_nna, c_nna, rfl⟩ : ∃ A c, vnna = .slice A nna.length c := N.form
  have HL := Lib.hid ((HL.out.keep hb).cons N.rd)
  have hbw := hbw.trans (hb.mono hbw.size)
  have S_nna := Lib.hid hset
  clear hset N hb
  go_wp2_with fail
  refine (same2_calls _ _ _ nna a (HL.out.at_ 0 rfl) (HL.out.at_ 9 rfl) (by first | omega | (simp; done) | (simp; omega)) (by first | omega | (simp; done) | (simp; omega))).mono ?_
  rintro e W14 ⟨q, rfl, hq, hb⟩
  obtain rfl : q = true := hq.2 (fun k => by rw [S_nna.out.iff, S_na2.out.iff]; have := fun h => Wf.lt WA.out (k := k) h; grind)
  clear hq
  have HL := Lib.hid (HL.out.keep hb)
  have hbw := hbw.trans (hb.mono hbw.size)
  clear hb
  obtain ⟨n_u, z⟩ : ∃ n, n = szB u := ⟨_, rfl⟩
  have Z_u := Lib.hid z
  have zl_u : n_u ≤ 4294967296 := by rw [z]; exact szB_le _
  clear z
  obtain ⟨n_m, z⟩ : ∃ n, n = szB m := ⟨_, rfl⟩
  have Z_m := Lib.hid z
  have zl_m : n_m ≤ 4294967296 := by rw [z]; exact szB_le _
  clear z
  obtain ⟨n_d, z⟩ : ∃ n, n = szB d := ⟨_, rfl⟩
  have Z_d := Lib.hid z
  have zl_d : n_d ≤ 4294967296 := by rw [z]; exact szB_le _
  clear z
  obtain ⟨n_a, z⟩ : ∃ n, n = szB a := ⟨_, rfl⟩
  have Z_a := Lib.hid z
  have zl_a : n_a ≤ 4294967296 := by rw [z]; exact szB_le _
  clear z
  obtain ⟨n_b, z⟩ : ∃ n, n = szB b := ⟨_, rfl⟩
  have Z_b := Lib.hid z
  have zl_b : n_b ≤ 4294967296 := by rw [z]; exact szB_le _
  clear z
  have E1 : ((n_u : Int) + n_m == n_a + n_b) = true := by
    have := szB_add S_u.out S_m.out; rw [← Z_u.out, ← Z_m.out, ← Z_a.out, ← Z_b.out] at this; simp; omega
  have E2 : ((n_d : Int) + n_m == n_a) = true := by
    have := szB_sub S_d.out S_m.out; rw [← Z_d.out, ← Z_m.out, ← Z_a.out] at this; simp; omega
  rcases Bool.eq_false_or_eq_true (memB key a) with ha | ha <;> rcases Bool.eq_false_or_eq_true (memB key b) with hb | hb
  all_goals
    have HA := Lib.hid ha
    have HB := Lib.hid hb
    clear ha hb
    go_wp2_with fail
    refine (has_calls _ _ a key (HL.out.at_ 9 rfl)).mono ?_
    rintro e W15 ⟨rfl, hb⟩
    rw [HA.out]
    have HL := Lib.hid (HL.out.keep hb)
    have hbw := hbw.trans (hb.mono hbw.size)
    clear hb
    go_wp2_with fail
    refine (has_calls _ _ b key (HL.out.at_ 10 rfl)).mono ?_
    rintro e W16 ⟨rfl, hb⟩
    rw [HB.out]
    have HL := Lib.hid (HL.out.keep hb)
    have hbw := hbw.trans (hb.mono hbw.size)
    clear hb
    go_wp2_with fail
    refine (has2_calls _ _ u key (HL.out.at_ 8 rfl)).mono ?_
    rintro e W17 ⟨q, rfl, hq, hb⟩
    have eq : q = (memB key a || memB key b) := by rw [Bool.eq_iff_iff, hq, Bool.or_eq_true, memB_iff, memB_iff]; exact S_u.out.iff _
    rw [HA.out, HB.out] at eq
    simp at eq
    subst eq
    clear hq
    have HL := Lib.hid (HL.out.keep hb)
    have hbw := hbw.trans (hb.mono hbw.size)
    clear hb
    go_wp2_with fail
    refine (has2_calls _ _ m key (HL.out.at_ 7 rfl)).mono ?_
    rintro e W18 ⟨q, rfl, hq, hb⟩
    have eq : q = (memB key a && memB key b) := by rw [Bool.eq_iff_iff, hq, Bool.and_eq_true, memB_iff, memB_iff]; exact S_m.out.iff _
    rw [HA.out, HB.out] at eq
    simp at eq
    subst eq
    clear hq
    have HL := Lib.hid (HL.out.keep hb)
    have hbw := hbw.trans (hb.mono hbw.size)
    clear hb
    go_wp2_with fail
    refine (has2_calls _ _ d key (HL.out.at_ 6 rfl)).mono ?_
    rintro e W19 ⟨q, rfl, hq, hb⟩
    have eq : q = (memB key a && !memB key b) := by rw [Bool.eq_iff_iff, hq, Bool.and_eq_true, Bool.not_eq_true', ← Bool.not_eq_true, memB_iff, memB_iff]; exact S_d.out.iff _
    rw [HA.out, HB.out] at eq
    simp at eq
    subst eq
    clear hq
    have HL := Lib.hid (HL.out.keep hb)
    have hbw := hbw.trans (hb.mono hbw.size)
    clear hb
    go_wp2_with fail
    refine (not_calls _ _  a (HL.out.at_ 9 rfl) (by first | omega | (simp; done) | (simp; omega))).mono ?_
    rintro e W20 ⟨vna3, na3, rfl, N, hset, l_na3, hb⟩
    try simp only [List.length_cons, List.length_nil] at l_na3
    obtain ⟨A_na3, c_na3, rfl⟩ : ∃ A c, vna3 = .slice A na3.length c := N.form
    have HL := Lib.hid ((HL.out.keep hb).cons N.rd)
    have hbw := hbw.trans (hb.mono hbw.size)
    have S_na3 := Lib.hid hset
    clear hset N hb
    go_wp2_with fail
    refine (has2_calls _ _ na3 key (HL.out.at_ 0 rfl)).mono ?_
    rintro e W21 ⟨q, rfl, hq, hb⟩
    have eq : q = (!memB key a) := by rw [Bool.eq_iff_iff, hq, Bool.not_eq_true', ← Bool.not_eq_true, memB_iff, S_na3.out.iff]; exact ⟨fun h => h.2, fun h => ⟨hkey, h⟩⟩
    rw [HA.out] at eq
    simp at eq
    subst eq
    clear hq
    have HL := Lib.hid (HL.out.keep hb)
    have hbw := hbw.trans (hb.mono hbw.size)
    clear hb
    go_wp2_with fail
    refine (size2_calls _ _ u (HL.out.at_ 9 rfl) (by first | omega | (simp; done) | (simp; omega))).mono ?_
    rintro e W22 ⟨rfl, hb⟩
    have HL := Lib.hid (HL.out.keep hb)
    have hbw := hbw.trans (hb.mono hbw.size)
    clear hb
    rw [← Z_u.out]
    go_wp2_with fail
    refine (size2_calls _ _ m (HL.out.at_ 8 rfl) (by first | omega | (simp; done) | (simp; omega))).mono ?_
    rintro e W23 ⟨rfl, hb⟩
    have HL := Lib.hid (HL.out.keep hb)
    have hbw := hbw.trans (hb.mono hbw.size)
    clear hb
    rw [← Z_m.out]
    go_wp2_with fail
    refine (size2_calls _ _ a (HL.out.at_ 10 rfl) (by first | omega | (simp; done) | (simp; omega))).mono ?_
    rintro e W24 ⟨rfl, hb⟩
    have HL := Lib.hid (HL.out.keep hb)
    have hbw := hbw.trans (hb.mono hbw.size)
    clear hb
    rw [← Z_a.out]
    go_wp2_with fail
    refine (size2_calls _ _ b (HL.out.at_ 11 rfl) (by first | omega | (simp; done) | (simp; omega))).mono ?_
    rintro e W25 ⟨rfl, hb⟩
    have HL := Lib.hid (HL.out.keep hb)
    have hbw := hbw.trans (hb.mono hbw.size)
    clear hb
    rw [← Z_b.out]
    go_wp2_with fail
    refine (size2_calls _ _ d (HL.out.at_ 7 rfl) (by first | omega | (simp; done) | (simp; omega))).mono ?_
    rintro e W26 ⟨rfl, hb⟩
    have HL := Lib.hid (HL.out.keep hb)
    have hbw := hbw.trans (hb.mono hbw.size)
    clear hb
    rw [← Z_d.out]
    go_wp2_with fail
    refine (size2_calls _ _ m (HL.out.at_ 8 rfl) (by first | omega | (simp; done) | (simp; omega))).mono ?_
    rintro e W27 ⟨rfl, hb⟩
    have HL := Lib.hid (HL.out.keep hb)
    have hbw := hbw.trans (hb.mono hbw.size)
    clear hb
    rw [← Z_m.out]
    go_wp2_with fail
    refine (size2_calls _ _ a (HL.out.at_ 10 rfl) (by first | omega | (simp; done) | (simp; omega))).mono ?_
    rintro e W28 ⟨rfl, hb⟩
    have HL := Lib.hid (HL.out.keep hb)
    have hbw := hbw.trans (hb.mono hbw.size)
    clear hb
    rw [← Z_a.out]
    go_wp2_with fail
    refine (not_calls _ _  a (HL.out.at_ 10 rfl) (by first | omega | (simp; done) | (simp; omega))).mono ?_
    rintro e W29 ⟨vna4, na4, rfl, N, hset, l_na4, hb⟩
    try simp only [List.length_cons, List.length_nil] at l_na4
    obtain ⟨A_na4, c_na4, rfl⟩ : ∃ A c, vna4 = .slice A na4.length c := N.form
    have HL := Lib.hid ((HL.out.keep hb).cons N.rd)
    have hbw := hbw.trans (hb.mono hbw.size)
    have S_na4 := Lib.hid hset
    clear hset N hb
    obtain ⟨n_na4, z⟩ : ∃ n, n = szB na4 := ⟨_, rfl⟩
    have Z_na4 := Lib.hid z
    have zl_na4 : n_na4 ≤ 4294967296 := by rw [z]; exact szB_le _
    clear z
    have E3 : ((n_na4 : Int) + n_a == 4294967296) = true := by
      have := szB_not S_na4.out; rw [← Z_na4.out, ← Z_a.out] at this; simp; omega
    go_wp2_with fail
    refine (size2_calls _ _ na4 (HL.out.at_ 0 rfl) (by first | omega | (simp; done) | (simp; omega))).mono ?_
    rintro e W30 ⟨rfl, hb⟩
    have HL := Lib.hid (HL.out.keep hb)
    have hbw := hbw.trans (hb.mono hbw.size)
    clear hb
    rw [← Z_na4.out]
    go_wp2_with fail
    refine (size2_calls _ _ a (HL.out.at_ 11 rfl) (by first | omega | (simp; done) | (simp; omega))).mono ?_
    rintro e W31 ⟨rfl, hb⟩
    have HL := Lib.hid (HL.out.keep hb)
    have hbw := hbw.trans (hb.mono hbw.size)
    clear hb
    rw [← Z_a.out]
    go_wp2_with fail
    refine (union_calls _ _ _  b c (HL.out.at_ 12 rfl) (HL.out.at_ 13 rfl) (by first | omega | (simp; done) | (simp; omega)) (by first | omega | (simp; done) | (simp; omega))).mono ?_
    rintro e W32 ⟨vubc, ubc, rfl, N, hset, l_ubc, hb⟩
    try simp only [List.length_cons, List.length_nil] at l_ubc
    obtain ⟨A_ubc, c_ubc, rfl⟩ : ∃ A c, vubc = .slice A ubc.length c := N.form
    have HL := Lib.hid ((HL.out.keep hb).cons N.rd)
    have hbw := hbw.trans (hb.mono hbw.size)
    have S_ubc := Lib.hid hset
    clear hset N hb
    go_wp2_with fail
    refine (meet_calls _ _ _  a ubc (HL.out.at_ 12 rfl) (HL.out.at_ 0 rfl) (by first | omega | (simp; done) | (simp; omega)) (by first | omega | (simp; done) | (simp; omega))).mono ?_
    rintro e W33 ⟨vx1, x1, rfl, N, hset, l_x1, hb⟩
    try simp only [List.length_cons, List.length_nil] at l_x1
    obtain ⟨A_x1, c_x1, rfl⟩ : ∃ A c, vx1 = .slice A x1.length c := N.form
    have HL := Lib.hid ((HL.out.keep hb).cons N.rd)
    have hbw := hbw.trans (hb.mono hbw.size)
    have S_x1 := Lib.hid hset
    clear hset N hb
    go_wp2_with fail
    refine (meet_calls _ _ _  a c (HL.out.at_ 13 rfl) (HL.out.at_ 15 rfl) (by first | omega | (simp; done) | (simp; omega)) (by first | omega | (simp; done) | (simp; omega))).mono ?_
    rintro e W34 ⟨vmac, mac, rfl, N, hset, l_mac, hb⟩
    try simp only [List.length_cons, List.length_nil] at l_mac
    obtain ⟨A_mac, c_mac, rfl⟩ : ∃ A c, vmac = .slice A mac.length c := N.form
    have HL := Lib.hid ((HL.out.keep hb).cons N.rd)
    have hbw := hbw.trans (hb.mono hbw.size)
    have S_mac := Lib.hid hset
    clear hset N hb
    go_wp2_with fail
    refine (union_calls _ _ _  m mac (HL.out.at_ 12 rfl) (HL.out.at_ 0 rfl) (by first | omega | (simp; done) | (simp; omega)) (by first | omega | (simp; done) | (simp; omega))).mono ?_
    rintro e W35 ⟨vx2, x2, rfl, N, hset, l_x2, hb⟩
    try simp only [List.length_cons, List.length_nil] at l_x2
    obtain ⟨A_x2, c_x2, rfl⟩ : ∃ A c, vx2 = .slice A x2.length c := N.form
    have HL := Lib.hid ((HL.out.keep hb).cons N.rd)
    have hbw := hbw.trans (hb.mono hbw.size)
    have S_x2 := Lib.hid hset
    clear hset N hb
    go_wp2_with fail
    refine (same2_calls _ _ _ x1 x2 (HL.out.at_ 2 rfl) (HL.out.at_ 0 rfl) (by first | omega | (simp; done) | (simp; omega)) (by first | omega | (simp; done) | (simp; omega))).mono ?_
    rintro e W36 ⟨q, rfl, hq, hb⟩
    obtain rfl : q = true := hq.2 (fun k => by rw [S_x1.out.iff, S_x2.out.iff, S_ubc.out.iff, S_m.out.iff, S_mac.out.iff]; grind)
    clear hq
    have HL := Lib.hid (HL.out.keep hb)
    have hbw := hbw.trans (hb.mono hbw.size)
    clear hb
    go_wp2_with fail
    refine (within_calls _ _ _ m a (HL.out.at_ 13 rfl) (HL.out.at_ 15 rfl) (by first | omega | (simp; done) | (simp; omega)) (by first | omega | (simp; done) | (simp; omega))).mono ?_
    rintro e W37 ⟨q, rfl, hq, hb⟩
    obtain rfl : q = true := hq.2 (fun k h => ((S_m.out.iff k).1 h).1)
    clear hq
    have HL := Lib.hid (HL.out.keep hb)
    have hbw := hbw.trans (hb.mono hbw.size)
    clear hb
    go_wp2_with fail
    refine (within_calls _ _ _ a u (HL.out.at_ 15 rfl) (HL.out.at_ 14 rfl) (by first | omega | (simp; done) | (simp; omega)) (by first | omega | (simp; done) | (simp; omega))).mono ?_
    rintro e W38 ⟨q, rfl, hq, hb⟩
    obtain rfl : q = true := hq.2 (fun k h => (S_u.out.iff k).2 (.inl h))
    clear hq
    have HL := Lib.hid (HL.out.keep hb)
    have hbw := hbw.trans (hb.mono hbw.size)
    clear hb
    go_wp2
    go_ret
    exact ⟨rfl, hbw⟩
set_option maxRecDepth 100000 in
set_option maxHeartbeats 2000000 in
theorem algebra_no (w : World) (v u t : Value) (a b c : List Sp) (key : Nat) (ha : RdS w v a) (hb : RdS w u b) (hc : RdS w t c) (hn : 40 < a.length ∨ 40 < b.length ∨ 40 < c.length) :
    Calls Try.prog 4 #[v, u, t, .int .u32 key] w fun e w' => e = .returned (.bool true) ∧ Below w.heap.size w w' := by
  obtain ⟨A_a, c_a, rfl, ka1_a, ka2_a, ka3_a, -⟩ := id ha
  unfold maxLen at ka2_a
  obtain ⟨A_b, c_b, rfl, ka1_b, ka2_b, ka3_b, -⟩ := id hb
  unfold maxLen at ka2_b
  obtain ⟨A_c, c_c, rfl, ka1_c, ka2_c, ka3_c, -⟩ := id hc
  unfold maxLen at ka2_c
  clear ha hb hc
  by_cases c0 : 40 < a.length
  · have k0 : decide ((40 : Int) < a.length) = true := by simp; omega
    clear hn
    go_enter Try.func4, Try.ntmps4
    go_wp2_with fail
    refine (alive_calls _).mono ?_
    rintro e W0 ⟨rfl, hbw⟩
    go_wp2
    go_ret
    exact ⟨rfl, hbw⟩
  · have k0 : decide ((40 : Int) < a.length) = false := by simp; omega
    by_cases c1 : 40 < b.length
    · have k1 : decide ((40 : Int) < b.length) = true := by simp; omega
      clear hn
      go_enter Try.func4, Try.ntmps4
      go_wp2_with fail
      refine (alive_calls _).mono ?_
      rintro e W0 ⟨rfl, hbw⟩
      go_wp2
      go_ret
      exact ⟨rfl, hbw⟩
    · have k1 : decide ((40 : Int) < b.length) = false := by simp; omega
      have k2 : decide ((40 : Int) < c.length) = true := by simp; omega
      clear hn
      go_enter Try.func4, Try.ntmps4
      go_wp2_with fail
      refine (alive_calls _).mono ?_
      rintro e W0 ⟨rfl, hbw⟩
      go_wp2
      go_ret
      exact ⟨rfl, hbw⟩
theorem algebra_law (w : World) (v u t : Value) (a b c : List Sp) (key : Int) (ha : RdS w v a) (hb : RdS w u b) (hc : RdS w t c) (hk : (Lit.int .u32 key).wf = true) :
    Calls Try.prog 4 #[v, u, t, .int .u32 key] w fun e w' => e = .returned (.bool true) ∧ Below w.heap.size w w' := by
  obtain ⟨k, rfl, hk2⟩ := u32_nat hk
  by_cases h : 40 < a.length ∨ 40 < b.length ∨ 40 < c.length
  · exact algebra_no w v u t a b c k ha hb hc h
  · exact algebra_yes w v u t a b c k ha hb hc (by omega) (by omega) (by omega) hk2
end Go.Proofs.Ytjoiijdhelmjmaa
