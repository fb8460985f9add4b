import Derived.Test.YtjoiijdhelmjmaaIvS
namespace Go.Proofs.Ytjoiijdhelmjmaa
open Go.RowKit
attribute [local go_sem] World.cell?_alloc_some frozen_alloc_some

theorem rev_take (a : List Sp) (k : Nat) (h : k < a.length) : (a.drop k).reverse = (a.drop (k + 1)).reverse ++ [a[k]] := by
  rw [List.drop_eq_getElem_cons h, List.reverse_cons]
set_option maxRecDepth 100000 in
set_option maxHeartbeats 32000000 in
theorem sides_yes (w : World) (v : Value) (a : List Sp) (lo p hi : Nat) (ha : RdS w v a) (la : a.length ≤ 40) (h1 : lo ≤ p) (h2 : p + 1 < hi) (h3 : hi < 4294967296) :
    Calls Try.prog 6 #[v, .int .u32 lo, .int .u32 ((p : Int) + 1), .int .u32 hi] w fun e w' => e = .returned (.bool true) ∧ Below w.heap.size w w' := by
  obtain ⟨A_a, c_a, rfl, ka1_a, ka2_a, ka3_a, -⟩ := id ha
  unfold maxLen at ka2_a
  have HL0 : Hid (RdAll w [(.slice A_a a.length c_a, a)]) := (RdAll.nil.cons ha)
  clear ha
  go_enter Try.func6, Try.ntmps6
  go_wp2_with fail
  refine (alive_calls _).mono ?_
  rintro e W0 ⟨rfl, hbw⟩
  have HL := Lib.hid (HL0.out.keep hbw)
  have hbx := (Below.refl (W0).heap.size (W0)).alloc (Nat.le_refl _) (.cells #[.int .u32 lo, .int .u32 hi] 38)
  have hlit : ((W0).alloc (.cells #[.int .u32 lo, .int .u32 hi] 38)).heap[W0.heap.size]? = some (.cells #[.int .u32 lo, .int .u32 hi] 38) := by have := heap_alloc_at (W0) (.cells #[.int .u32 lo, .int .u32 hi] 38); simpa only [World.size_alloc] using this
  have HO := Lib.hid (rdS_ati [(lo, hi)] hlit (by simp [spc] <;> omega) (by simp <;> omega) (by simp) 1 rfl)
  clear hlit
  have HL := Lib.hid ((HL.out.keep hbx).cons HO.out)
  have hbw := hbw.trans (hbx.mono hbw.size)
  clear hbx
  have hbx := (Below.refl ((W0).alloc (.cells #[.int .u32 lo, .int .u32 hi] 38)).heap.size ((W0).alloc (.cells #[.int .u32 lo, .int .u32 hi] 38))).alloc (Nat.le_refl _) (.cells #[.int .u32 ((p : Int) + 1), .int .u32 hi, .int .u32 lo, .int .u32 p] 38)
  have hlit : (((W0).alloc (.cells #[.int .u32 lo, .int .u32 hi] 38)).alloc (.cells #[.int .u32 ((p : Int) + 1), .int .u32 hi, .int .u32 lo, .int .u32 p] 38)).heap[W0.heap.size + 1]? = some (.cells #[.int .u32 ((p : Int) + 1), .int .u32 hi, .int .u32 lo, .int .u32 p] 38) := by have := heap_alloc_at ((W0).alloc (.cells #[.int .u32 lo, .int .u32 hi] 38)) (.cells #[.int .u32 ((p : Int) + 1), .int .u32 hi, .int .u32 lo, .int .u32 p] 38); simpa only [World.size_alloc] using this
  have HO := Lib.hid (rdS_ati [(p + 1, hi), (lo, p)] hlit (by simp [spc] <;> omega) (by simp <;> omega) (by simp) 2 rfl)
  clear hlit
  have HL := Lib.hid ((HL.out.keep hbx).cons HO.out)
  have hbw := hbw.trans (hbx.mono hbw.size)
  clear hbx
  have hbx := (Below.refl (((W0).alloc (.cells #[.int .u32 lo, .int .u32 hi] 38)).alloc (.cells #[.int .u32 ((p : Int) + 1), .int .u32 hi, .int .u32 lo, .int .u32 p] 38)).heap.size (((W0).alloc (.cells #[.int .u32 lo, .int .u32 hi] 38)).alloc (.cells #[.int .u32 ((p : Int) + 1), .int .u32 hi, .int .u32 lo, .int .u32 p] 38))).alloc (Nat.le_refl _) (.cells #[.int .u32 lo, .int .u32 p, .int .u32 ((p : Int) + 1 + 1), .int .u32 hi] 38)
  have hlit : ((((W0).alloc (.cells #[.int .u32 lo, .int .u32 hi] 38)).alloc (.cells #[.int .u32 ((p : Int) + 1), .int .u32 hi, .int .u32 lo, .int .u32 p] 38)).alloc (.cells #[.int .u32 lo, .int .u32 p, .int .u32 ((p : Int) + 1 + 1), .int .u32 hi] 38)).heap[W0.heap.size + 1 + 1]? = some (.cells #[.int .u32 lo, .int .u32 p, .int .u32 ((p : Int) + 1 + 1), .int .u32 hi] 38) := by have := heap_alloc_at (((W0).alloc (.cells #[.int .u32 lo, .int .u32 hi] 38)).alloc (.cells #[.int .u32 ((p : Int) + 1), .int .u32 hi, .int .u32 lo, .int .u32 p] 38)) (.cells #[.int .u32 lo, .int .u32 p, .int .u32 ((p : Int) + 1 + 1), .int .u32 hi] 38); simpa only [World.size_alloc] using this
  have HO := Lib.hid (rdS_ati [(lo, p), (p + 2, hi)] hlit (by simp [spc] <;> omega) (by simp <;> omega) (by simp) 2 rfl)
  clear hlit
  have HL := Lib.hid ((HL.out.keep hbx).cons HO.out)
  have hbw := hbw.trans (hbx.mono hbw.size)
  clear hbx
  obtain ⟨WB, hWB⟩ : ∃ WB, WB = (((W0).alloc (.cells #[.int .u32 lo, .int .u32 hi] 38)).alloc (.cells #[.int .u32 ((p : Int) + 1), .int .u32 hi, .int .u32 lo, .int .u32 p] 38)).alloc (.cells #[.int .u32 lo, .int .u32 p, .int .u32 ((p : Int) + 1 + 1), .int .u32 hi] 38) := ⟨_, rfl⟩
  rw [← hWB] at HL hbw
  have o9 := World.ownsRow_made (base := WB.heap.size) (e := 38) (size := 2) WB #[] 0 (Nat.le_refl _) (Nat.zero_le _) rfl
  have hb9 := (Below.refl WB.heap.size WB).alloc (Nat.le_refl _) (.cells #[] 38)
  have O9 : Hid ((WB.alloc (.cells #[] 38)).ownsRow WB.heap.size 38 2 (.slice (some ⟨W0.heap.size + 1 + 1 + 1, 0, none⟩) 0 0) 0 []) := by
    have e : W0.heap.size + 1 + 1 + 1 = WB.heap.size := by rw [hWB]; simp
    rw [e]; exact o9
  have HLB := Lib.hid HL.out
  have hbw0 := hbw
  have WA := Lib.hid (HL0.out.at_ 0 rfl).wf
  have HWB := Lib.hid hWB
  have hWs : WB.heap.size = W0.heap.size + 3 := by rw [hWB]; simp
  have HWs := Lib.hid hWs
  clear o9 hWB hbw hWs HL
  go_wp2
  rw [← HWB.out]
  obtain ⟨i0, hi0, hz0, hz1, hz2⟩ := info_parts infoSp
  go_loopw [12, 13] (fun v i wr => Below WB.heap.size WB wr ∧ ((∃ k : Nat, k < a.length ∧ i = .int .i64 k ∧ wr.ownsRow WB.heap.size 38 2 v (a.drop (k + 1)).reverse.length ((a.drop (k + 1)).reverse.flatMap spc)) ∨ (i = .int .i64 (-1) ∧ wr.ownsRow WB.heap.size 38 2 v a.reverse.length (a.reverse.flatMap spc)))) (fun _ i _ => (intOf i + 1).toNat)
  case atStart =>
    refine ⟨hb9, ?_⟩
    by_cases h0 : a.length = 0
    · right
      have : a = [] := List.length_eq_zero_iff.1 h0
      subst this
      exact ⟨rfl, O9.out⟩
    · left
      refine ⟨a.length - 1, by omega, by refine val_int ?_; omega, ?_⟩
      rw [show a.length - 1 + 1 = a.length by omega, List.drop_length]
      exact O9.out
  case round =>
    obtain ⟨hbr, (⟨k, hk, rfl, V⟩ | ⟨rfl, V⟩)⟩ := hrel
    · obtain ⟨A6, cap6, rfl⟩ := owns_form V
      obtain ⟨gb, go, rfl, p0, p1, q0, q1⟩ := ((HLB.out.at_ 3 rfl).keep hbr).get k hk
      have hT : Hid ((a.drop k).reverse = (a.drop (k + 1)).reverse ++ [a[k]]) := rev_take a k hk
      have hol : (a.drop (k + 1)).reverse.length ≤ 40 := by simp; omega
      obtain ⟨s, hs⟩ : ∃ s, s = a[k] := ⟨_, rfl⟩
      rw [← hs] at p0 p1 q0 q1 hT
      obtain ⟨o, ho⟩ : ∃ o, o = (a.drop (k + 1)).reverse := ⟨_, rfl⟩
      rw [← ho] at V hT hol ⊢
      have HO := Lib.hid ho
      clear hs ho
      go_wp2_with (at_builtin; refine push_sp rfl _ _ rfl WB.heap.size o _ rfl V (by omega) hbr.size s.1 s.2 _ _ _ rfl rfl rfl rfl ?_; intro v' w6 V6 hb6 ho6)
      have hbl := hbr.trans hb6
      rw [← hT.out] at V6
      refine ⟨⟨hbl, ?_⟩, by simp [intOf] <;> omega⟩
      cases k with
      | zero => exact .inr ⟨by rfl, V6⟩
      | succ k => exact .inl ⟨k, by omega, by first | rfl | (refine val_int ?_ <;> omega), V6⟩
    · have HN := Lib.hid (show NewS WB.heap.size wr _ a.reverse from ⟨V, fun s hs => WA.out s (List.mem_reverse.1 hs), by simp; omega⟩)
      obtain ⟨A6, cap6, rfl⟩ := owns_form V
      have HL := Lib.hid ((HLB.out.keep hbr).cons HN.out.rd)
      have hbw := hbw0.trans (hbr.mono hbw0.size)
      have hrl : a.reverse.length ≤ 40 := by simpa using la
      obtain ⟨r, hr⟩ : ∃ r, r = a.reverse := ⟨_, rfl⟩
      rw [← hr] at HL hrl ⊢
      have HRV := Lib.hid hr
      clear V HN hr

      go_wp2_with fail
      refine (same2_calls _ _ _ [(p + 1, hi), (lo, p)] [(lo, hi)] (HL.out.at_ 2 rfl) (HL.out.at_ 3 rfl) (by first | omega | (simp; done) | (simp; omega)) (by first | omega | (simp; done) | (simp; omega))).mono ?_
      rintro e W1 ⟨q, rfl, hq, hb⟩
      obtain rfl : q = true := hq.2 (fun k => by simp [Mem]; omega)
      clear hq
      have HL := Lib.hid (HL.out.keep hb)
      have hbw := hbw.trans (hb.mono hbw.size)
      clear hb
      go_wp2_with fail
      refine (make_calls _ _  [(p + 1, hi), (lo, p)] (HL.out.at_ 2 rfl) (by first | omega | (simp; done) | (simp; omega))).mono ?_
      rintro e W2 ⟨vt1, t1, rfl, N, hset, l_t1, hb⟩
      try simp only [List.length_cons, List.length_nil] at l_t1
      have eqs : t1 = [(lo, hi)] := hset.eq (q := fun k => Mem k [(lo, hi)]) ⟨⟨by simp [OkS]; omega, by simp [Gap] <;> omega⟩, fun _ => Iff.rfl⟩ (fun k => by simp [Mem] <;> omega)
      subst eqs
      obtain ⟨A_t1, c_t1, rfl⟩ : ∃ A c, vt1 = .slice A 1 c := N.form
      have HL := Lib.hid ((HL.out.keep hb).cons N.rd)
      have hbw := hbw.trans (hb.mono hbw.size)
      clear hset N hb
      go_wp2_with fail
      refine (right2_calls _ _ [(p + 1, hi), (lo, p)] (HL.out.at_ 3 rfl) (by first | omega | (simp; done) | (simp; omega))).mono ?_
      rintro e W3 ⟨q, rfl, hq, hb⟩
      obtain rfl : q = false := Bool.eq_false_iff.2 fun h => (fun h => by have := h.gap; simp [Gap] at this <;> omega) (hq.1 h)
      clear hq
      have HL := Lib.hid (HL.out.keep hb)
      have hbw := hbw.trans (hb.mono hbw.size)
      clear hb
      go_wp2_with fail
      refine (make_calls _ _  [(lo, p), (p + 2, hi)] (HL.out.at_ 2 rfl) (by first | omega | (simp; done) | (simp; omega))).mono ?_
      rintro e W4 ⟨vt2, t2, rfl, N, hset, l_t2, hb⟩
      try simp only [List.length_cons, List.length_nil] at l_t2
      have eqs : t2 = [(lo, p), (p + 2, hi)] := hset.eq (q := fun k => Mem k [(lo, p), (p + 2, hi)]) ⟨⟨by simp [OkS]; omega, by simp [Gap] <;> omega⟩, fun _ => Iff.rfl⟩ (fun k => by simp [Mem] <;> omega)
      subst eqs
      obtain ⟨A_t2, c_t2, rfl⟩ : ∃ A c, vt2 = .slice A 2 c := N.form
      have HL := Lib.hid ((HL.out.keep hb).cons N.rd)
      have hbw := hbw.trans (hb.mono hbw.size)
      clear hset N hb
      go_wp2_with fail
      refine (right2_calls _ _ [(lo, p), (p + 2, hi)] (HL.out.at_ 3 rfl) (by first | omega | (simp; done) | (simp; omega))).mono ?_
      rintro e W5 ⟨q, rfl, hq, hb⟩
      obtain rfl : q = true := hq.2 (⟨by simp [OkS]; omega, by simp [Gap] <;> omega⟩)
      clear hq
      have HL := Lib.hid (HL.out.keep hb)
      have hbw := hbw.trans (hb.mono hbw.size)
      clear hb
      have hbx := (Below.refl (W5).heap.size (W5)).alloc (Nat.le_refl _) (.cells #[.int .u32 ((p : Int) + 1), .int .u32 ((p : Int) + 1)] 38)
      have hlit : ((W5).alloc (.cells #[.int .u32 ((p : Int) + 1), .int .u32 ((p : Int) + 1)] 38)).heap[W5.heap.size]? = some (.cells #[.int .u32 ((p : Int) + 1), .int .u32 ((p : Int) + 1)] 38) := by have := heap_alloc_at (W5) (.cells #[.int .u32 ((p : Int) + 1), .int .u32 ((p : Int) + 1)] 38); simpa only [World.size_alloc] using this
      have HO := Lib.hid (rdS_ati [(p + 1, p + 1)] hlit (by simp [spc] <;> omega) (by simp <;> omega) (by simp) 1 rfl)
      clear hlit
      have HL := Lib.hid ((HL.out.keep hbx).cons HO.out)
      have hbw := hbw.trans (hbx.mono hbw.size)
      clear hbx
      go_wp2_with fail
      refine (minus_calls _ _ _  [(lo, hi)] [(p + 1, p + 1)] (HL.out.at_ 6 rfl) (HL.out.at_ 0 rfl) (by first | omega | (simp; done) | (simp; omega)) (by first | omega | (simp; done) | (simp; omega))).mono ?_
      rintro e W6 ⟨vd, d, rfl, N, hset, l_d, hb⟩
      try simp only [List.length_cons, List.length_nil] at l_d
      obtain ⟨A_d, c_d, rfl⟩ : ∃ A c, vd = .slice A d.length c := N.form
      have HL := Lib.hid ((HL.out.keep hb).cons N.rd)
      have hbw := hbw.trans (hb.mono hbw.size)
      have S_d := Lib.hid hset
      clear hset N hb
      go_wp2_with fail
      refine (same2_calls _ _ _ d [(lo, p), (p + 2, hi)] (HL.out.at_ 0 rfl) (HL.out.at_ 5 rfl) (by first | omega | (simp; done) | (simp; omega)) (by first | omega | (simp; done) | (simp; omega))).mono ?_
      rintro e W7 ⟨q, rfl, hq, hb⟩
      obtain rfl : q = true := hq.2 (fun k => by rw [S_d.out.iff]; simp [Mem]; omega)
      clear hq
      have HL := Lib.hid (HL.out.keep hb)
      have hbw := hbw.trans (hb.mono hbw.size)
      clear hb
      go_wp2_with fail
      refine (same2_calls _ _ _ a r (HL.out.at_ 8 rfl) (HL.out.at_ 4 rfl) (by first | omega | (simp; done) | (simp; omega)) (by first | omega | (simp; done) | (simp; omega))).mono ?_
      rintro e W8 ⟨q, rfl, hq, hb⟩
      obtain rfl : q = true := hq.2 (fun k => by rw [HRV.out]; exact mem_rev.symm)
      clear hq
      have HL := Lib.hid (HL.out.keep hb)
      have hbw := hbw.trans (hb.mono hbw.size)
      clear hb
      go_wp2_with fail
      refine (make_calls _ _  r (HL.out.at_ 4 rfl) (by first | omega | (simp; done) | (simp; omega))).mono ?_
      rintro e W9 ⟨vmb, mb, rfl, N, hset, l_mb, hb⟩
      try simp only [List.length_cons, List.length_nil] at l_mb
      obtain ⟨A_mb, c_mb, rfl⟩ : ∃ A c, vmb = .slice A mb.length c := N.form
      have HL := Lib.hid ((HL.out.keep hb).cons N.rd)
      have hbw := hbw.trans (hb.mono hbw.size)
      have S_mb := Lib.hid hset
      clear hset N hb
      go_wp2_with fail
      refine (right2_calls _ _ mb (HL.out.at_ 0 rfl) (by first | omega | (simp; done) | (simp; omega))).mono ?_
      rintro e W10 ⟨q, rfl, hq, hb⟩
      obtain rfl : q = true := hq.2 (S_mb.out.nf)
      clear hq
      have HL := Lib.hid (HL.out.keep hb)
      have hbw := hbw.trans (hb.mono hbw.size)
      clear hb
      go_wp2
      go_ret
      exact ⟨rfl, hbw⟩
set_option maxRecDepth 100000 in
set_option maxHeartbeats 2000000 in
theorem sides_no (w : World) (v : Value) (a : List Sp) (lo cut hi : Nat) (ha : RdS w v a) (hn : 40 < a.length ∨ cut ≤ lo ∨ hi ≤ cut) :
    Calls Try.prog 6 #[v, .int .u32 lo, .int .u32 cut, .int .u32 hi] w fun e w' => e = .returned (.bool true) ∧ Below w.heap.size w w' := by
  obtain ⟨A_a, c_a, rfl, ka1_a, ka2_a, ka3_a, -⟩ := id ha
  unfold maxLen at ka2_a
  clear ha
  by_cases c0 : 40 < a.length
  · have k0 : decide ((40 : Int) < a.length) = true := by simp; omega
    clear hn
    go_enter Try.func6, Try.ntmps6
    go_wp2_with fail
    refine (alive_calls _).mono ?_
    rintro e W0 ⟨rfl, hbw⟩
    go_wp2
    go_ret
    exact ⟨rfl, hbw⟩
  · have k0 : decide ((40 : Int) < a.length) = false := by simp; omega
    by_cases c1 : cut ≤ lo
    · clear hn
      go_enter Try.func6, Try.ntmps6
      go_wp2_with fail
      refine (alive_calls _).mono ?_
      rintro e W0 ⟨rfl, hbw⟩
      go_wp2
      go_ret
      exact ⟨rfl, hbw⟩
    · have c2 : hi ≤ cut := by omega
      clear hn
      go_enter Try.func6, Try.ntmps6
      go_wp2_with fail
      refine (alive_calls _).mono ?_
      rintro e W0 ⟨rfl, hbw⟩
      go_wp2
      go_ret
      exact ⟨rfl, hbw⟩
theorem sides_law (w : World) (v : Value) (a : List Sp) (lo cut hi : Int) (ha : RdS w v a) (h1 : (Lit.int .u32 lo).wf = true) (h2 : (Lit.int .u32 cut).wf = true) (h3 : (Lit.int .u32 hi).wf = true) :
    Calls Try.prog 6 #[v, .int .u32 lo, .int .u32 cut, .int .u32 hi] w fun e w' => e = .returned (.bool true) ∧ Below w.heap.size w w' := by
  obtain ⟨lo, rfl, k1⟩ := u32_nat h1
  obtain ⟨cut, rfl, k2⟩ := u32_nat h2
  obtain ⟨hi, rfl, k3⟩ := u32_nat h3
  by_cases h : 40 < a.length ∨ cut ≤ lo ∨ hi ≤ cut
  · exact sides_no w v a lo cut hi ha h
  · obtain ⟨p, rfl⟩ : ∃ p, cut = p + 1 := ⟨cut - 1, by omega⟩
    exact sides_yes w v a lo p hi ha (by omega) (by omega) (by omega) k3
end Go.Proofs.Ytjoiijdhelmjmaa
