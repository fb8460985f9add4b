import Derived.Test.YtjoiijdhelmjmaaIvL
namespace Go.Proofs.Ytjoiijdhelmjmaa
open Go.RowKit
attribute [local go_sem] World.cell?_alloc_some frozen_alloc_some

theorem szB_odd {a b o m : List Sp} (ho : IsSet (fun k => (Mem k a ∧ ¬ Mem k b) ∨ (Mem k b ∧ ¬ Mem k a)) o) (hm : IsSet (fun k => Mem k a ∧ Mem k b) m) : szB o + 2 * szB m = szB a + szB b := by
  have e := cnt_or_and (fun k => memB k a) (fun k => memB k b) 4294967296
  have f := cnt_or_and (fun k => memB k o) (fun k => memB k m) 4294967296
  have e1 : cnt (fun k => memB k a && memB k b) 4294967296 = szB m := cnt_congr fun k _ => by rw [Bool.eq_iff_iff, hm.memB]; simp [memB_iff]
  have e2 : cnt (fun k => memB k o || memB k m) 4294967296 = cnt (fun k => memB k a || memB k b) 4294967296 := cnt_congr fun k _ => by
    rw [Bool.eq_iff_iff]; simp only [Bool.or_eq_true, ho.memB, hm.memB, memB_iff]; grind
  have e3 : cnt (fun k => memB k o && memB k m) 4294967296 = 0 := cnt_none fun k _ => by
    rw [Bool.eq_false_iff]; simp only [ne_eq, Bool.and_eq_true, ho.memB, hm.memB]; grind
  unfold szB at *; omega
theorem odd_calls (w : World) (v u : Value) (l m : List Sp) (hr : RdS w v l) (hr2 : RdS w u m) (hn : l.length ≤ 10000) (hn2 : m.length ≤ 10000) :
    Calls Try.prog 23 #[v, u] w fun e w' => ∃ v' l', e = .returned v' ∧ NewS w.heap.size w' v' l' ∧ IsSet (fun k => (Mem k l ∧ ¬ Mem k m) ∨ (Mem k m ∧ ¬ Mem k l)) l' ∧ l'.length ≤ 2 * (l.length + m.length + 1) ∧ Below w.heap.size w w' := by
  have HR := Lib.hid hr
  have HR2 := Lib.hid hr2
  clear hr hr2
  go_enter Try.func23, Try.ntmps23
  go_wp2_with fail
  refine (minus_calls _ _ _ _ _ HR.out HR2.out (by omega) (by omega)).mono ?_
  rintro e w1 ⟨v1, a, rfl, N1, hset, hal, hb1⟩
  obtain ⟨A3, cap3, rfl⟩ := N1.form
  have hN := Lib.hid N1
  have HS := Lib.hid hset
  have HR3 := Lib.hid (HR.out.keep hb1)
  have HR4 := Lib.hid (HR2.out.keep hb1)
  clear N1 hset
  go_wp2_with fail
  refine (minus_calls _ _ _ _ _ HR4.out HR3.out (by omega) (by omega)).mono ?_
  rintro e w2 ⟨v2, b, rfl, N2, hset2, hal2, hb2⟩
  obtain ⟨A4, cap4, rfl⟩ := N2.form
  have HN2 := Lib.hid N2
  have HS2 := Lib.hid hset2
  have HR5 := Lib.hid (hN.out.rd.keep hb2)
  have hb2 := hb1.trans (hb2.mono hb1.size)
  clear N2 hset2
  go_wp2_with fail
  refine (union_calls _ _ _ _ _ HR5.out HN2.out.rd (by omega) (by omega)).mono ?_
  rintro e w3 ⟨v3, c, rfl, N3, hset3, hal3, hb3⟩
  obtain ⟨A5, cap5, rfl⟩ := N3.form
  have HN3 := Lib.hid N3
  have HS3 := Lib.hid hset3
  clear N3 hset3
  go_wp2
  go_ret
  exact ⟨_, _, rfl, HN3.out.mono hb2.size, HS3.out.of fun k => by rw [HS.out.iff, HS2.out.iff], by omega, hb2.trans (hb3.mono hb2.size)⟩

set_option maxRecDepth 100000 in
set_option maxHeartbeats 32000000 in
theorem three_yes (w : World) (v u t : Value) (a b c : List Sp) (ha : RdS w v a) (hb : RdS w u b) (hc : RdS w t c) (la : a.length ≤ 20) (lb : b.length ≤ 20) (lc : c.length ≤ 20) :
    Calls Try.prog 7 #[v, u, t] w fun e w' => e = .returned (.bool true) ∧ Below w.heap.size w w' := by
  obtain ⟨A_a, c_a, rfl, ka1_a, ka2_a, ka3_a, -⟩ := id ha
  unfold maxLen at ka2_a
  obtain ⟨A_b, c_b, rfl, ka1_b, ka2_b, ka3_b, -⟩ := id hb
  unfold maxLen at ka2_b
  obtain ⟨A_c, c_c, rfl, ka1_c, ka2_c, ka3_c, -⟩ := id hc
  unfold maxLen at ka2_c
  have HL0 : Hid (RdAll w [(.slice A_a a.length c_a, a), (.slice A_b b.length c_b, b), (.slice A_c c.length c_c, c)]) := (((RdAll.nil.cons hc).cons hb).cons ha)
  clear ha hb hc
  go_enter Try.func7, Try.ntmps7
  go_wp2_with fail
  refine (alive_calls _).mono ?_
  rintro e W0 ⟨rfl, hbw⟩
  have HL := Lib.hid (HL0.out.keep hbw)
  have WA := Lib.hid (HL0.out.at_ 0 rfl).wf
  go_wp2_with fail
  refine (odd_calls _ _ _  a b (HL.out.at_ 0 rfl) (HL.out.at_ 1 rfl) (by first | omega | (simp; done) | (simp; omega)) (by first | omega | (simp; done) | (simp; omega))).mono ?_
  rintro e W1 ⟨vo1, o1, rfl, N, hset, l_o1, hb⟩
  try simp only [List.length_cons, List.length_nil] at l_o1
  obtain ⟨A_o1, c_o1, rfl⟩ : ∃ A c, vo1 = .slice A o1.length c := N.form
  have HL := Lib.hid ((HL.out.keep hb).cons N.rd)
  have hbw := hbw.trans (hb.mono hbw.size)
  have S_o1 := Lib.hid hset
  clear hset N hb
  go_wp2_with fail
  refine (odd_calls _ _ _  b a (HL.out.at_ 2 rfl) (HL.out.at_ 1 rfl) (by first | omega | (simp; done) | (simp; omega)) (by first | omega | (simp; done) | (simp; omega))).mono ?_
  rintro e W2 ⟨vo2, o2, rfl, N, hset, l_o2, hb⟩
  try simp only [List.length_cons, List.length_nil] at l_o2
  obtain ⟨A_o2, c_o2, rfl⟩ : ∃ A c, vo2 = .slice A o2.length c := N.form
  have HL := Lib.hid ((HL.out.keep hb).cons N.rd)
  have hbw := hbw.trans (hb.mono hbw.size)
  have S_o2 := Lib.hid hset
  clear hset N hb
  go_wp2_with fail
  refine (same2_calls _ _ _ o1 o2 (HL.out.at_ 1 rfl) (HL.out.at_ 0 rfl) (by first | omega | (simp; done) | (simp; omega)) (by first | omega | (simp; done) | (simp; omega))).mono ?_
  rintro e W3 ⟨q, rfl, hq, hb⟩
  obtain rfl : q = true := hq.2 (fun k => by rw [S_o1.out.iff, S_o2.out.iff]; grind)
  clear hq
  have HL := Lib.hid (HL.out.keep hb)
  have hbw := hbw.trans (hb.mono hbw.size)
  clear hb
  go_wp2_with fail
  refine (odd_calls _ _ _  a b (HL.out.at_ 2 rfl) (HL.out.at_ 3 rfl) (by first | omega | (simp; done) | (simp; omega)) (by first | omega | (simp; done) | (simp; omega))).mono ?_
  rintro e W4 ⟨vo3, o3, rfl, N, hset, l_o3, hb⟩
  try simp only [List.length_cons, List.length_nil] at l_o3
  obtain ⟨A_o3, c_o3, rfl⟩ : ∃ A c, vo3 = .slice A o3.length c := N.form
  have HL := Lib.hid ((HL.out.keep hb).cons N.rd)
  have hbw := hbw.trans (hb.mono hbw.size)
  have S_o3 := Lib.hid hset
  clear hset N hb
  go_wp2_with fail
  refine (odd_calls _ _ _  o3 c (HL.out.at_ 0 rfl) (HL.out.at_ 5 rfl) (by first | omega | (simp; done) | (simp; omega)) (by first | omega | (simp; done) | (simp; omega))).mono ?_
  rintro e W5 ⟨vo4, o4, rfl, N, hset, l_o4, hb⟩
  try simp only [List.length_cons, List.length_nil] at l_o4
  obtain ⟨A_o4, c_o4, rfl⟩ : ∃ A c, vo4 = .slice A o4.length c := N.form
  have HL := Lib.hid ((HL.out.keep hb).cons N.rd)
  have hbw := hbw.trans (hb.mono hbw.size)
  have S_o4 := Lib.hid hset
  clear hset N hb
  go_wp2_with fail
  refine (odd_calls _ _ _  b c (HL.out.at_ 5 rfl) (HL.out.at_ 6 rfl) (by first | omega | (simp; done) | (simp; omega)) (by first | omega | (simp; done) | (simp; omega))).mono ?_
  rintro e W6 ⟨vo5, o5, rfl, N, hset, l_o5, hb⟩
  try simp only [List.length_cons, List.length_nil] at l_o5
  obtain ⟨A_o5, c_o5, rfl⟩ : ∃ A c, vo5 = .slice A o5.length c := N.form
  have HL := Lib.hid ((HL.out.keep hb).cons N.rd)
  have hbw := hbw.trans (hb.mono hbw.size)
  have S_o5 := Lib.hid hset
  clear hset N hb
  go_wp2_with fail
  refine (odd_calls _ _ _  a o5 (HL.out.at_ 5 rfl) (HL.out.at_ 0 rfl) (by first | omega | (simp; done) | (simp; omega)) (by first | omega | (simp; done) | (simp; omega))).mono ?_
  rintro e W7 ⟨vo6, o6, rfl, N, hset, l_o6, hb⟩
  try simp only [List.length_cons, List.length_nil] at l_o6
  obtain ⟨A_o6, c_o6, rfl⟩ : ∃ A c, vo6 = .slice A o6.length c := N.form
  have HL := Lib.hid ((HL.out.keep hb).cons N.rd)
  have hbw := hbw.trans (hb.mono hbw.size)
  have S_o6 := Lib.hid hset
  clear hset N hb
  go_wp2_with fail
  refine (same2_calls _ _ _ o4 o6 (HL.out.at_ 2 rfl) (HL.out.at_ 0 rfl) (by first | omega | (simp; done) | (simp; omega)) (by first | omega | (simp; done) | (simp; omega))).mono ?_
  rintro e W8 ⟨q, rfl, hq, hb⟩
  obtain rfl : q = true := hq.2 (fun k => by rw [S_o4.out.iff, S_o6.out.iff, S_o3.out.iff, S_o5.out.iff]; grind)
  clear hq
  have HL := Lib.hid (HL.out.keep hb)
  have hbw := hbw.trans (hb.mono hbw.size)
  clear hb
  go_wp2_with fail
  refine (odd_calls _ _ _  a a (HL.out.at_ 6 rfl) (HL.out.at_ 6 rfl) (by first | omega | (simp; done) | (simp; omega)) (by first | omega | (simp; done) | (simp; omega))).mono ?_
  rintro e W9 ⟨vo7, o7, rfl, N, hset, l_o7, hb⟩
  try simp only [List.length_cons, List.length_nil] at l_o7
  have eqs : o7 = [] := hset.eq (q := fun k => Mem k []) ⟨⟨by decide, by decide⟩, fun _ => Iff.rfl⟩ (fun k => by have := @mem_nil k; grind)
  subst eqs
  obtain ⟨A_o7, c_o7, rfl⟩ : ∃ A c, vo7 = .slice A 0 c := N.form
  have HL := Lib.hid ((HL.out.keep hb).cons N.rd)
  have hbw := hbw.trans (hb.mono hbw.size)
  clear hset N hb
  go_wp2_with fail
  refine (odd_calls _ _ _  a [] (HL.out.at_ 7 rfl) RdS.nil (by first | omega | (simp; done) | (simp; omega)) (by first | omega | (simp; done) | (simp; omega))).mono ?_
  rintro e W10 ⟨vo8, o8, rfl, N, hset, l_o8, hb⟩
  try simp only [List.length_cons, List.length_nil] at l_o8
  obtain ⟨A_o8, c_o8, rfl⟩ : ∃ A c, vo8 = .slice A o8.length c := N.form
  have HL := Lib.hid ((HL.out.keep hb).cons N.rd)
  have hbw := hbw.trans (hb.mono hbw.size)
  have S_o8 := Lib.hid hset
  clear hset N hb
  go_wp2_with fail
  refine (same2_calls _ _ _ o8 a (HL.out.at_ 0 rfl) (HL.out.at_ 8 rfl) (by first | omega | (simp; done) | (simp; omega)) (by first | omega | (simp; done) | (simp; omega))).mono ?_
  rintro e W11 ⟨q, rfl, hq, hb⟩
  obtain rfl : q = true := hq.2 (fun k => by rw [S_o8.out.iff]; have := @mem_nil k; grind)
  clear hq
  have HL := Lib.hid (HL.out.keep hb)
  have hbw := hbw.trans (hb.mono hbw.size)
  clear hb
  go_wp2_with fail
  refine (not_calls _ _  a (HL.out.at_ 8 rfl) (by first | omega | (simp; done) | (simp; omega))).mono ?_
  rintro e W12 ⟨vna, na, rfl, N, hset, l_na, hb⟩
  try simp only [List.length_cons, List.length_nil] at l_na
  obtain ⟨A_na, c_na, rfl⟩ : ∃ A c, vna = .slice A na.length c := N.form
  have HL := Lib.hid ((HL.out.keep hb).cons N.rd)
  have hbw := hbw.trans (hb.mono hbw.size)
  have S_na := Lib.hid hset
  clear hset N hb
  go_wp2_with fail
  refine (odd_calls _ _ _  a na (HL.out.at_ 9 rfl) (HL.out.at_ 0 rfl) (by first | omega | (simp; done) | (simp; omega)) (by first | omega | (simp; done) | (simp; omega))).mono ?_
  rintro e W13 ⟨vo9, o9, rfl, N, hset, l_o9, hb⟩
  try simp only [List.length_cons, List.length_nil] at l_o9
  obtain ⟨A_o9, c_o9, rfl⟩ : ∃ A c, vo9 = .slice A o9.length c := N.form
  have HL := Lib.hid ((HL.out.keep hb).cons N.rd)
  have hbw := hbw.trans (hb.mono hbw.size)
  have S_o9 := Lib.hid hset
  clear hset N hb
  go_wp2_with fail
  refine (not_calls _ _  [] RdS.nil (by first | omega | (simp; done) | (simp; omega))).mono ?_
  rintro e W14 ⟨vnn, nn, rfl, N, hset, l_nn, hb⟩
  try simp only [List.length_cons, List.length_nil] at l_nn
  obtain ⟨A_nn, c_nn, rfl⟩ : ∃ A c, vnn = .slice A nn.length c := N.form
  have HL := Lib.hid ((HL.out.keep hb).cons N.rd)
  have hbw := hbw.trans (hb.mono hbw.size)
  have S_nn := Lib.hid hset
  clear hset N hb
  go_wp2_with fail
  refine (same2_calls _ _ _ o9 nn (HL.out.at_ 1 rfl) (HL.out.at_ 0 rfl) (by first | omega | (simp; done) | (simp; omega)) (by first | omega | (simp; done) | (simp; omega))).mono ?_
  rintro e W15 ⟨q, rfl, hq, hb⟩
  obtain rfl : q = true := hq.2 (fun k => by rw [S_o9.out.iff, S_nn.out.iff, S_na.out.iff]; have := @mem_nil k; have := fun h => Wf.lt WA.out (k := k) h; grind)
  clear hq
  have HL := Lib.hid (HL.out.keep hb)
  have hbw := hbw.trans (hb.mono hbw.size)
  clear hb
  go_wp2_with fail
  refine (odd_calls _ _ _  a b (HL.out.at_ 11 rfl) (HL.out.at_ 12 rfl) (by first | omega | (simp; done) | (simp; omega)) (by first | omega | (simp; done) | (simp; omega))).mono ?_
  rintro e W16 ⟨vo10, o10, rfl, N, hset, l_o10, hb⟩
  try simp only [List.length_cons, List.length_nil] at l_o10
  obtain ⟨A_o10, c_o10, rfl⟩ : ∃ A c, vo10 = .slice A o10.length c := N.form
  have HL := Lib.hid ((HL.out.keep hb).cons N.rd)
  have hbw := hbw.trans (hb.mono hbw.size)
  have S_o10 := Lib.hid hset
  clear hset N hb
  obtain ⟨n_o10, z⟩ : ∃ n, n = szB o10 := ⟨_, rfl⟩
  have Z_o10 := Lib.hid z
  have zl_o10 : n_o10 ≤ 4294967296 := by rw [z]; exact szB_le _
  clear z
  obtain ⟨n_a, z⟩ : ∃ n, n = szB a := ⟨_, rfl⟩
  have Z_a := Lib.hid z
  have zl_a : n_a ≤ 4294967296 := by rw [z]; exact szB_le _
  clear z
  obtain ⟨n_b, z⟩ : ∃ n, n = szB b := ⟨_, rfl⟩
  have Z_b := Lib.hid z
  have zl_b : n_b ≤ 4294967296 := by rw [z]; exact szB_le _
  clear z
  go_wp2_with fail
  refine (size2_calls _ _ o10 (HL.out.at_ 0 rfl) (by first | omega | (simp; done) | (simp; omega))).mono ?_
  rintro e W17 ⟨rfl, hb⟩
  have HL := Lib.hid (HL.out.keep hb)
  have hbw := hbw.trans (hb.mono hbw.size)
  clear hb
  rw [← Z_o10.out]
  go_wp2_with fail
  refine (meet_calls _ _ _  a b (HL.out.at_ 12 rfl) (HL.out.at_ 13 rfl) (by first | omega | (simp; done) | (simp; omega)) (by first | omega | (simp; done) | (simp; omega))).mono ?_
  rintro e W18 ⟨vm, m, rfl, N, hset, l_m, hb⟩
  try simp only [List.length_cons, List.length_nil] at l_m
  obtain ⟨A_m, c_m, rfl⟩ : ∃ A c, vm = .slice A m.length c := N.form
  have HL := Lib.hid ((HL.out.keep hb).cons N.rd)
  have hbw := hbw.trans (hb.mono hbw.size)
  have S_m := Lib.hid hset
  clear hset N hb
  obtain ⟨n_m, z⟩ : ∃ n, n = szB m := ⟨_, rfl⟩
  have Z_m := Lib.hid z
  have zl_m : n_m ≤ 4294967296 := by rw [z]; exact szB_le _
  clear z
  have E1 : ((n_o10 : Int) + 2 * n_m == n_a + n_b) = true := by
    have := szB_odd S_o10.out S_m.out; rw [← Z_o10.out, ← Z_m.out, ← Z_a.out, ← Z_b.out] at this; simp; omega
  go_wp2_with fail
  refine (size2_calls _ _ m (HL.out.at_ 0 rfl) (by first | omega | (simp; done) | (simp; omega))).mono ?_
  rintro e W19 ⟨rfl, hb⟩
  have HL := Lib.hid (HL.out.keep hb)
  have hbw := hbw.trans (hb.mono hbw.size)
  clear hb
  rw [← Z_m.out]
  go_wp2_with fail
  refine (size2_calls _ _ a (HL.out.at_ 13 rfl) (by first | omega | (simp; done) | (simp; omega))).mono ?_
  rintro e W20 ⟨rfl, hb⟩
  have HL := Lib.hid (HL.out.keep hb)
  have hbw := hbw.trans (hb.mono hbw.size)
  clear hb
  rw [← Z_a.out]
  go_wp2_with fail
  refine (size2_calls _ _ b (HL.out.at_ 14 rfl) (by first | omega | (simp; done) | (simp; omega))).mono ?_
  rintro e W21 ⟨rfl, hb⟩
  have HL := Lib.hid (HL.out.keep hb)
  have hbw := hbw.trans (hb.mono hbw.size)
  clear hb
  rw [← Z_b.out]
  go_wp2
  go_ret
  exact ⟨rfl, hbw⟩
set_option maxRecDepth 100000 in
set_option maxHeartbeats 2000000 in
theorem three_no (w : World) (v u t : Value) (a b c : List Sp) (ha : RdS w v a) (hb : RdS w u b) (hc : RdS w t c) (hn : 20 < a.length ∨ 20 < b.length ∨ 20 < c.length) :
    Calls Try.prog 7 #[v, u, t] w fun e w' => e = .returned (.bool true) ∧ Below w.heap.size w w' := by
  obtain ⟨A_a, c_a, rfl, ka1_a, ka2_a, ka3_a, -⟩ := id ha
  unfold maxLen at ka2_a
  obtain ⟨A_b, c_b, rfl, ka1_b, ka2_b, ka3_b, -⟩ := id hb
  unfold maxLen at ka2_b
  obtain ⟨A_c, c_c, rfl, ka1_c, ka2_c, ka3_c, -⟩ := id hc
  unfold maxLen at ka2_c
  clear ha hb hc
  by_cases c0 : 20 < a.length
  · have k0 : decide ((20 : Int) < a.length) = true := by simp; omega
    clear hn
    go_enter Try.func7, Try.ntmps7
    go_wp2_with fail
    refine (alive_calls _).mono ?_
    rintro e W0 ⟨rfl, hbw⟩
    go_wp2
    go_ret
    exact ⟨rfl, hbw⟩
  · have k0 : decide ((20 : Int) < a.length) = false := by simp; omega
    by_cases c1 : 20 < b.length
    · have k1 : decide ((20 : Int) < b.length) = true := by simp; omega
      clear hn
      go_enter Try.func7, Try.ntmps7
      go_wp2_with fail
      refine (alive_calls _).mono ?_
      rintro e W0 ⟨rfl, hbw⟩
      go_wp2
      go_ret
      exact ⟨rfl, hbw⟩
    · have k1 : decide ((20 : Int) < b.length) = false := by simp; omega
      have k2 : decide ((20 : Int) < c.length) = true := by simp; omega
      clear hn
      go_enter Try.func7, Try.ntmps7
      go_wp2_with fail
      refine (alive_calls _).mono ?_
      rintro e W0 ⟨rfl, hbw⟩
      go_wp2
      go_ret
      exact ⟨rfl, hbw⟩
theorem three_law (w : World) (v u t : Value) (a b c : List Sp) (ha : RdS w v a) (hb : RdS w u b) (hc : RdS w t c) :
    Calls Try.prog 7 #[v, u, t] w fun e w' => e = .returned (.bool true) ∧ Below w.heap.size w w' := by
  by_cases h : 20 < a.length ∨ 20 < b.length ∨ 20 < c.length
  · exact three_no w v u t a b c ha hb hc h
  · exact three_yes w v u t a b c ha hb hc (by omega) (by omega) (by omega)
end Go.Proofs.Ytjoiijdhelmjmaa
