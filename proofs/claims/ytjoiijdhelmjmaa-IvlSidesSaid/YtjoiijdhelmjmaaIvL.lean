import Derived.Test.YtjoiijdhelmjmaaIvK
namespace Go.Proofs.Ytjoiijdhelmjmaa
open Go.RowKit
attribute [local go_sem] World.cell?_alloc_some frozen_alloc_some

theorem rdS_at {w : World} {b : Nat} {t : TypeId} {fr : Nat × Nat} (l : List Sp) (h : w.heap[b]? = some (.cells (l.flatMap spc).toArray t fr)) (hw : ∀ s ∈ l, s.1 < 4294967296 ∧ s.2 < 4294967296) (hl : l.length ≤ 1000000) (n : Nat) (hn : n = l.length) : RdS w (.slice (some ⟨b, 0, none⟩) n n) l := by
  subst hn
  refine ⟨_, _, rfl, Nat.le_refl _, by unfold maxLen; omega, ⟨by omega, fun h => by cases h⟩, fun i hi => ⟨b, 0, spc l[i], rfl, rfl, rfl, ⟨rfl, hw _ (List.getElem_mem hi)⟩, fun j hj => ?_⟩⟩
  have hj2 : j < 2 := by simpa [spc] using hj
  have hc := flat_chunk spc 2 (fun _ => rfl) l i hi
  simp only [World.cell?, h, Nat.zero_add]
  have e : (l.flatMap spc)[i * 2 + j]? = (spc l[i])[j]? := by
    have := congrArg (fun x => x[j]?) hc
    simpa [List.getElem?_take, List.getElem?_drop, hj2] using this
  rw [List.getElem?_eq_getElem hj] at e
  simpa using e
set_option maxRecDepth 100000 in
set_option maxHeartbeats 4000000 in
theorem alive_calls (w : World) : Calls Try.prog 8 #[] w fun e w' => e = .returned (.bool true) ∧ Below w.heap.size w w' := by
  have hb0 := (Below.refl w.heap.size w).alloc (Nat.le_refl _) (.cells ([(4, 5), (1, 3), (9, 8)].flatMap spc).toArray 38)
  have HL0 := Lib.hid (rdS_at [(4, 5), (1, 3), (9, 8)] (heap_alloc_at w _) (by decide) (by decide) 3 rfl : RdS (w.alloc (.cells ([(4, 5), (1, 3), (9, 8)].flatMap spc).toArray 38)) _ _)
  have HL : Hid (RdAll (w.alloc (.cells ([(4, 5), (1, 3), (9, 8)].flatMap spc).toArray 38)) [(.slice (some ⟨w.heap.size, 0, none⟩) 3 3, [(4, 5), (1, 3), (9, 8)])]) := RdAll.nil.cons HL0.out
  have hbw := hb0
  go_enter Try.func8, Try.ntmps8
  go_wp2_with fail
  refine (make_calls _ _  [(4, 5), (1, 3), (9, 8)] (HL.out.at_ 0 rfl) (by first | omega | (simp; done) | (simp; omega))).mono ?_
  rintro e W1 ⟨va, a, rfl, N, hset, l_a, hb⟩
  have eqs : a = [(1, 5)] := hset.eq (q := fun k => Mem k [(1, 5)]) ⟨⟨by decide, by decide⟩, fun _ => Iff.rfl⟩ (fun k => by simp [Mem]; omega)
  subst eqs
  obtain ⟨A_a, c_a, rfl⟩ : ∃ A c, va = .slice A 1 c := N.form
  have HL := Lib.hid ((HL.out.keep hb).cons N.rd)
  have hbw := hbw.trans (hb.mono hbw.size)
  clear hset N hb
  obtain ⟨ga, oa, rfl, ca0, ca1, -⟩ := (HL.out.at_ 0 rfl).get 0 (by simp)
  have ca0 : W1.cell? ⟨ga, oa, none⟩ = some (.int .u32 1) := ca0
  have ca1 : W1.cell? ⟨ga, oa + 1, none⟩ = some (.int .u32 5) := ca1
  have hbB := (Below.refl W1.heap.size W1).alloc (Nat.le_refl _) (.cells ([(3, 7)].flatMap spc).toArray 38)
  have HB0 := Lib.hid (rdS_at [(3, 7)] (heap_alloc_at W1 _) (by decide) (by decide) 1 rfl : RdS (W1.alloc (.cells ([(3, 7)].flatMap spc).toArray 38)) _ _)
  have HL := Lib.hid ((HL.out.keep hbB).cons HB0.out)
  have hbw := hbw.trans (hbB.mono hbw.size)
  clear l_a
  go_wp2_with fail
  refine (not_calls _ _  [(1, 5)] (HL.out.at_ 1 rfl) (by first | omega | (simp; done) | (simp; omega))).mono ?_
  rintro e W2 ⟨vn, n, rfl, N, hset, l_n, hb⟩
  have eqs : n = [(0, 0), (6, 4294967295)] := hset.eq (q := fun k => Mem k [(0, 0), (6, 4294967295)]) ⟨⟨by decide, by decide⟩, fun _ => Iff.rfl⟩ (fun k => by simp [Mem]; omega)
  subst eqs
  obtain ⟨A_n, c_n, rfl⟩ : ∃ A c, vn = .slice A 2 c := N.form
  have HL := Lib.hid ((HL.out.keep hb).cons N.rd)
  have hbw := hbw.trans (hb.mono hbw.size)
  clear hset N hb
  go_wp2_with fail
  refine (right2_calls _ _ [(1, 5)] (HL.out.at_ 2 rfl) (by first | omega | (simp; done) | (simp; omega))).mono ?_
  rintro e W3 ⟨q, rfl, hq, hb⟩
  obtain rfl : q = true := hq.2 (⟨by decide, by decide⟩)
  clear hq
  have HL := Lib.hid (HL.out.keep hb)
  have hbw := hbw.trans (hb.mono hbw.size)
  clear hb
  go_wp2_with fail
  refine (union_calls _ _ _  [(1, 5)] [(3, 7)] (HL.out.at_ 2 rfl) (HL.out.at_ 1 rfl) (by first | omega | (simp; done) | (simp; omega)) (by first | omega | (simp; done) | (simp; omega))).mono ?_
  rintro e W4 ⟨vu, u, rfl, N, hset, l_u, hb⟩
  have eqs : u = [(1, 7)] := hset.eq (q := fun k => Mem k [(1, 7)]) ⟨⟨by decide, by decide⟩, fun _ => Iff.rfl⟩ (fun k => by simp [Mem]; omega)
  subst eqs
  obtain ⟨A_u, c_u, rfl⟩ : ∃ A c, vu = .slice A 1 c := N.form
  have HL := Lib.hid ((HL.out.keep hb).cons N.rd)
  have hbw := hbw.trans (hb.mono hbw.size)
  clear hset N hb
  go_wp2_with fail
  refine (meet_calls _ _ _  [(1, 5)] [(3, 7)] (HL.out.at_ 3 rfl) (HL.out.at_ 2 rfl) (by first | omega | (simp; done) | (simp; omega)) (by first | omega | (simp; done) | (simp; omega))).mono ?_
  rintro e W5 ⟨vm, m, rfl, N, hset, l_m, hb⟩
  have eqs : m = [(3, 5)] := hset.eq (q := fun k => Mem k [(3, 5)]) ⟨⟨by decide, by decide⟩, fun _ => Iff.rfl⟩ (fun k => by simp [Mem]; omega)
  subst eqs
  obtain ⟨A_m, c_m, rfl⟩ : ∃ A c, vm = .slice A 1 c := N.form
  have HL := Lib.hid ((HL.out.keep hb).cons N.rd)
  have hbw := hbw.trans (hb.mono hbw.size)
  clear hset N hb
  have z3 : szB [(3, 5)] = 3 := by rw [← szB_set (a := [(3, 5)]) ⟨⟨by decide, by decide⟩, fun _ => Iff.rfl⟩]; decide
  have Z3 := Lib.hid z3
  clear z3
  go_wp2_with fail
  refine (size2_calls _ _ [(3, 5)] (HL.out.at_ 0 rfl) (by first | omega | (simp; done) | (simp; omega))).mono ?_
  rintro e W6 ⟨rfl, hb⟩
  have HL := Lib.hid (HL.out.keep hb)
  have hbw := hbw.trans (hb.mono hbw.size)
  clear hb
  rw [Z3.out]
  go_wp2_with fail
  refine (minus_calls _ _ _  [(1, 5)] [(3, 7)] (HL.out.at_ 4 rfl) (HL.out.at_ 3 rfl) (by first | omega | (simp; done) | (simp; omega)) (by first | omega | (simp; done) | (simp; omega))).mono ?_
  rintro e W7 ⟨vd, d, rfl, N, hset, l_d, hb⟩
  have eqs : d = [(1, 2)] := hset.eq (q := fun k => Mem k [(1, 2)]) ⟨⟨by decide, by decide⟩, fun _ => Iff.rfl⟩ (fun k => by simp [Mem]; omega)
  subst eqs
  obtain ⟨A_d, c_d, rfl⟩ : ∃ A c, vd = .slice A 1 c := N.form
  have HL := Lib.hid ((HL.out.keep hb).cons N.rd)
  have hbw := hbw.trans (hb.mono hbw.size)
  clear hset N hb
  have z2 : szB [(1, 2)] = 2 := by rw [← szB_set (a := [(1, 2)]) ⟨⟨by decide, by decide⟩, fun _ => Iff.rfl⟩]; decide
  have Z2 := Lib.hid z2
  clear z2
  go_wp2_with fail
  refine (size2_calls _ _ [(1, 2)] (HL.out.at_ 0 rfl) (by first | omega | (simp; done) | (simp; omega))).mono ?_
  rintro e W8 ⟨rfl, hb⟩
  have HL := Lib.hid (HL.out.keep hb)
  have hbw := hbw.trans (hb.mono hbw.size)
  clear hb
  rw [Z2.out]
  obtain ⟨gn, on, rfl, -, cn1, -⟩ := (HL.out.at_ 3 rfl).get 1 (by simp)
  have cn1 : W8.cell? ⟨gn, on + 3, none⟩ = some (.int .u32 4294967295) := cn1
  go_wp2_with fail
  refine (has2_calls _ _ [(1, 5)] 5 (HL.out.at_ 5 rfl)).mono ?_
  rintro e W9 ⟨q, rfl, hq, hb⟩
  obtain rfl : q = true := hq.2 (memB_iff.1 (by decide))
  clear hq
  have HL := Lib.hid (HL.out.keep hb)
  have hbw := hbw.trans (hb.mono hbw.size)
  clear hb
  go_wp2_with fail
  refine (has2_calls _ _ [(1, 5)] 6 (HL.out.at_ 5 rfl)).mono ?_
  rintro e W10 ⟨q, rfl, hq, hb⟩
  obtain rfl : q = false := Bool.eq_false_iff.2 fun h => (fun h => absurd (memB_iff.2 h) (by decide)) (hq.1 h)
  clear hq
  have HL := Lib.hid (HL.out.keep hb)
  have hbw := hbw.trans (hb.mono hbw.size)
  clear hb
  go_wp2_with fail
  refine (meet_calls _ _ _  [(1, 5)] [(3, 7)] (HL.out.at_ 5 rfl) (HL.out.at_ 4 rfl) (by first | omega | (simp; done) | (simp; omega)) (by first | omega | (simp; done) | (simp; omega))).mono ?_
  rintro e W11 ⟨vm2, m2, rfl, N, hset, l_m2, hb⟩
  have eqs : m2 = [(3, 5)] := hset.eq (q := fun k => Mem k [(3, 5)]) ⟨⟨by decide, by decide⟩, fun _ => Iff.rfl⟩ (fun k => by simp [Mem]; omega)
  subst eqs
  obtain ⟨A_m2, c_m2, rfl⟩ : ∃ A c, vm2 = .slice A 1 c := N.form
  have HL := Lib.hid ((HL.out.keep hb).cons N.rd)
  have hbw := hbw.trans (hb.mono hbw.size)
  clear hset N hb
  go_wp2_with fail
  refine (within_calls _ _ _ [(3, 5)] [(3, 7)] (HL.out.at_ 0 rfl) (HL.out.at_ 5 rfl) (by first | omega | (simp; done) | (simp; omega)) (by first | omega | (simp; done) | (simp; omega))).mono ?_
  rintro e W12 ⟨q, rfl, hq, hb⟩
  obtain rfl : q = true := hq.2 (fun k => by simp [Mem]; omega)
  clear hq
  have HL := Lib.hid (HL.out.keep hb)
  have hbw := hbw.trans (hb.mono hbw.size)
  clear hb
  go_wp2_with fail
  refine (within_calls _ _ _ [(1, 5)] [(3, 7)] (HL.out.at_ 6 rfl) (HL.out.at_ 5 rfl) (by first | omega | (simp; done) | (simp; omega)) (by first | omega | (simp; done) | (simp; omega))).mono ?_
  rintro e W13 ⟨q, rfl, hq, hb⟩
  obtain rfl : q = false := Bool.eq_false_iff.2 fun h => (fun h => by have := h 1 (memB_iff.1 (by decide)); exact absurd (memB_iff.2 this) (by decide)) (hq.1 h)
  clear hq
  have HL := Lib.hid (HL.out.keep hb)
  have hbw := hbw.trans (hb.mono hbw.size)
  clear hb
  go_wp2_with fail
  refine (same2_calls _ _ _ [(1, 5)] [(1, 5)] (HL.out.at_ 6 rfl) (HL.out.at_ 6 rfl) (by first | omega | (simp; done) | (simp; omega)) (by first | omega | (simp; done) | (simp; omega))).mono ?_
  rintro e W14 ⟨q, rfl, hq, hb⟩
  obtain rfl : q = true := hq.2 (fun _ => Iff.rfl)
  clear hq
  have HL := Lib.hid (HL.out.keep hb)
  have hbw := hbw.trans (hb.mono hbw.size)
  clear hb
  go_wp2_with fail
  refine (not_calls _ _  [] RdS.nil (by first | omega | (simp; done) | (simp; omega))).mono ?_
  rintro e W15 ⟨vnn, nn, rfl, N, hset, l_nn, hb⟩
  have eqs : nn = [(0, 4294967295)] := hset.eq (q := fun k => Mem k [(0, 4294967295)]) ⟨⟨by decide, by decide⟩, fun _ => Iff.rfl⟩ (fun k => by simp [Mem]; omega)
  subst eqs
  obtain ⟨A_nn, c_nn, rfl⟩ : ∃ A c, vnn = .slice A 1 c := N.form
  have HL := Lib.hid ((HL.out.keep hb).cons N.rd)
  have hbw := hbw.trans (hb.mono hbw.size)
  clear hset N hb
  have z4 : szB [(0, 4294967295)] = 4294967296 := by rw [← szB_set (a := [(0, 4294967295)]) ⟨⟨by decide, by decide⟩, fun _ => Iff.rfl⟩]; decide
  have Z4 := Lib.hid z4
  clear z4
  go_wp2_with fail
  refine (size2_calls _ _ [(0, 4294967295)] (HL.out.at_ 0 rfl) (by first | omega | (simp; done) | (simp; omega))).mono ?_
  rintro e W16 ⟨rfl, hb⟩
  have HL := Lib.hid (HL.out.keep hb)
  have hbw := hbw.trans (hb.mono hbw.size)
  clear hb
  rw [Z4.out]
  go_wp2
  go_ret
  exact ⟨rfl, hbw⟩
end Go.Proofs.Ytjoiijdhelmjmaa
