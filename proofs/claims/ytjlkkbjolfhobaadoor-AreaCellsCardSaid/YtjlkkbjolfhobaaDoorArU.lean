import Derived.Test.YtjlkkbjolfhobaaDoorArP
namespace Go.Proofs.YtjlkkbjolfhobaaDoor
open Go.RowKit
attribute [local go_sem] World.cell?_alloc_some frozen_alloc_some

/-! The reference of areas. -/
theorem held_calls (w : World) (n : Int) : Calls Tryd.prog 37 #[.int .i64 n, .int .i64 0, .int .i64 16] w fun e w' => e = .returned (.int .i64 (min (max n 0) 16)) ∧ w' = w := by
  by_cases h1 : 16 < n
  · rw [show min (max n 0) 16 = 16 by omega]
    go_enter Tryd.func37, Tryd.ntmps37
    go_wp2
    go_ret
    exact ⟨rfl, rfl⟩
  · by_cases h2 : n < 0
    · rw [show min (max n 0) 16 = 0 by omega]
      go_enter Tryd.func37, Tryd.ntmps37
      go_wp2
      go_ret
      exact ⟨rfl, rfl⟩
    · rw [show min (max n 0) 16 = n by omega]
      go_enter Tryd.func37, Tryd.ntmps37
      go_wp2
      go_ret
      exact ⟨rfl, rfl⟩
/-- a label's set, nothing beyond. -/
def atI (a : Ar) (i : Int) : List Sp := if i < 0 then [] else atA a i.toNat
theorem atI_nat (a : Ar) (i : Nat) : atI a i = atA a i := by unfold atI; rw [if_neg (by omega), Int.toNat_natCast]
set_option maxHeartbeats 1000000 in
theorem refatN_calls (w : World) (v : Value) (a : Ar) (i : Nat) (hr : RdA w v a) :
    Calls Tryd.prog 16 #[v, .int .i64 i] w fun e w' => ∃ u A c, u = .slice A (atA a i).length c ∧ e = .returned u ∧ RdS w u (atA a i) ∧ w = w' := by
  obtain ⟨A, cap, rfl, a1, a2, a3, -⟩ := id hr
  unfold maxLen at a2
  have HR := Lib.hid hr
  clear hr
  by_cases hlt : i < a.length
  · obtain ⟨b, o, u, rfl, hc, hu⟩ := HR.out.get i hlt
    have HU := Lib.hid hu
    obtain ⟨A', c', rfl, -⟩ := id hu
    have HA := Lib.hid (atA_lt hlt)
    clear hu
    go_enter Tryd.func16, Tryd.ntmps16
    go_wp2
    go_ret
    exact ⟨.slice A' a[i].length c', A', c', by rw [HA.out], rfl, by rw [HA.out]; exact HU.out, rfl⟩
  · have HA := Lib.hid (atA_ge (a := a) (i := i) (by omega))
    go_enter Tryd.func16, Tryd.ntmps16
    go_wp2
    go_ret
    exact ⟨.slice none 0 0, none, 0, by rw [HA.out]; rfl, rfl, by rw [HA.out]; exact RdS.nil, rfl⟩
set_option maxHeartbeats 1000000 in
theorem refat_calls (w : World) (v : Value) (a : Ar) (i : Int) (hr : RdA w v a) :
    Calls Tryd.prog 16 #[v, .int .i64 i] w fun e w' => ∃ u A c, u = .slice A (atI a i).length c ∧ e = .returned u ∧ RdS w u (atI a i) ∧ w = w' := by
  by_cases h0 : i < 0
  · obtain ⟨A, cap, rfl, a1, a2, a3, -⟩ := id hr
    have HA : Hid (atI a i = []) := by unfold atI; rw [if_pos h0]; rfl
    clear hr
    go_enter Tryd.func16, Tryd.ntmps16
    go_wp2
    go_ret
    exact ⟨.slice none 0 0, none, 0, by rw [HA.out]; rfl, rfl, by rw [HA.out]; exact RdS.nil, rfl⟩
  · obtain ⟨i, rfl⟩ : ∃ n : Nat, i = n := ⟨i.toNat, by omega⟩
    have h := refatN_calls w v a i hr
    rw [← atI_nat] at h
    exact h
set_option maxRecDepth 100000 in
set_option maxHeartbeats 4000000 in
theorem bit_calls (w : World) (x i : Nat) (hx : x < 18446744073709551616) (hi : i ≤ 1000) :
    Calls Tryd.prog 55 #[.int .u64 x, .int .i64 i] w fun e w' => e = .returned (.int .u64 ((x / 2 ^ i % 2 : Nat) : Int)) ∧ w' = w := by
  go_enter Tryd.func55, Tryd.ntmps55
  go_wp2
  go_loopw [0, 5] (fun nv kv wr => ∃ k y : Nat, k ≤ i ∧ kv = .int .i64 k ∧ nv = .int .u64 y ∧ Hid (y = x / 2 ^ k) ∧ y ≤ x ∧ wr = w) (fun _ kv _ => i - (intOf kv).toNat)
  case atStart => exact ⟨0, x, by omega, rfl, rfl, by show _ = _; simp, by first | trivial | simp⟩
  case round =>
    obtain ⟨k, y, hk', rfl, rfl, HY, hy, rfl⟩ := hrel
    by_cases hlt : k < i
    · have HY2 : Hid (y / 2 = x / 2 ^ (k + 1)) := by show _ = _; rw [HY.out, Nat.pow_succ, Nat.div_div_eq_div_mul]
      go_wp2
      refine ⟨⟨k + 1, y / 2, hlt, by go_num, by first | rfl | (congr 1; omega), HY2, by omega, by first | trivial | rfl⟩, by simp [intOf]; omega⟩
    · obtain rfl : k = i := by omega
      go_wp2
      go_ret
      exact ⟨ret_int (by rw [← HY.out]; omega), rfl⟩
theorem refbit_calls (w : World) (x i : Nat) (hx : x < 4294967296) (hi : i ≤ 1000) :
    Calls Tryd.prog 38 #[.int .u32 x, .int .i64 i] w fun e w' => e = .returned (.bool (x.testBit i)) ∧ w' = w := by
  have HC := Lib.hid (bit_calls w x i (by omega) hi)
  have hb := Nat.testBit_eq_decide_div_mod_eq (x := x) (i := i)
  obtain ⟨y, hy⟩ : ∃ y, y = x / 2 ^ i % 2 := ⟨_, rfl⟩
  rw [← hy] at HC hb
  rw [hb]
  have hy2 : y < 2 := by omega
  clear hy hb
  go_enter Tryd.func38, Tryd.ntmps38
  go_wp2_with fail
  refine HC.out.mono ?_
  rintro e w1 ⟨rfl, rfl⟩
  rcases (by omega : y = 0 ∨ y = 1) with rfl | rfl
  · go_wp2
    go_ret
    exact ⟨rfl, rfl⟩
  · go_wp2
    go_ret
    exact ⟨rfl, rfl⟩
theorem fullB_len {l : List Sp} (h : WfS l) : fullB l = decide (0 < (buildL l [] 0).length) := by
  refine eq_of_iff ?_
  rw [fullB_iff, decide_eq_true_iff]
  have h2 := (buildMake_spec h).nil_iff
  constructor
  · rintro ⟨k, hk⟩
    refine Classical.byContradiction fun h3 => ?_
    exact h2.1 (List.length_eq_zero_iff.1 (by omega)) k hk
  · intro h1
    refine Classical.byContradiction fun h3 => ?_
    rw [h2.2 fun k hk => h3 ⟨k, hk⟩] at h1
    simp at h1
set_option maxRecDepth 100000 in
set_option maxHeartbeats 4000000 in
theorem refempty_calls (w : World) (v : Value) (a : Ar) (hr : RdA w v a) (hs : Sm 10000 a) :
    Calls Tryd.prog 23 #[v] w fun e w' => e = .returned (.bool (emptyB a)) ∧ Below w.heap.size w w' := by
  obtain ⟨A, cap, rfl, a1, a2, a3, -⟩ := id hr
  unfold maxLen at a2
  have ha63 := a3.1
  clear a3
  have HR := Lib.hid hr
  have HSM := Lib.hid hs
  clear hr hs
  go_enter Tryd.func23, Tryd.ntmps23
  go_wp2
  go_loopw [3] (fun i wr => ∃ k : Nat, k ≤ a.length ∧ i = .int .i64 k ∧ Hid ((a.take k).any fullB = false) ∧ Below w.heap.size w wr) (fun i _ => a.length - (intOf i).toNat)
  case atStart => exact ⟨0, by omega, rfl, rfl, Below.refl _ _⟩
  case round =>
    obtain ⟨k, hk', rfl, HM, hb⟩ := hrel
    by_cases hlt : k < a.length
    · obtain ⟨gb, go, u, rfl, hc, hu⟩ := (HR.out.keep hb).get k hlt
      have HT : Hid (a.take (k + 1) = a.take k ++ [a[k]]) := List.take_succ_eq_append_getElem hlt
      have HD := Lib.hid (split_at a k hlt)
      have hll := HSM.out _ (List.getElem_mem hlt)
      obtain ⟨l, hl⟩ : ∃ l, l = a[k] := ⟨_, rfl⟩
      rw [← hl] at hu HT HD hll
      obtain ⟨A', c', rfl, -⟩ := id hu
      have HU := Lib.hid hu
      have HQ := Lib.hid (fullB_len hu.wf)
      clear hl hu
      go_wp2_with fail
      refine (refMake_calls _ _ _ HU.out hll).mono ?_
      rintro e w1 ⟨v1, rfl, N1, hb1⟩
      obtain ⟨A1, c1, rfl⟩ := N1.form
      obtain ⟨n, hn⟩ : ∃ n, n = (buildL l [] 0).length := ⟨_, rfl⟩
      have hn2 := N1.2.2
      rw [← hn] at hn2 HQ ⊢
      have hbb := hb.trans (hb1.mono hb.size)
      clear N1 hn
      by_cases h0 : 0 < n
      · have HE : Hid (emptyB a = false) := by
          show _ = _; unfold emptyB; rw [HD.out, List.any_append, List.any_cons, HQ.out, decide_eq_true h0]; simp
        go_wp2
        go_ret
        exact ⟨ret_bool HE.out.symm, hbb⟩
      · have HM2 : Hid ((a.take (k + 1)).any fullB = false) := by
          show _ = _; rw [HT.out, List.any_append, HM.out]; simp [HQ.out]; omega
        go_wp2
        refine ⟨⟨k + 1, hlt, by go_num, HM2, hbb⟩, by simp [intOf]; omega⟩
    · have HE : Hid (emptyB a = true) := by
        show _ = _; have := HM.out; rw [List.take_of_length_le (by omega)] at this; unfold emptyB; rw [this]; rfl
      go_wp2
      go_ret
      exact ⟨ret_bool HE.out.symm, hb⟩
set_option maxRecDepth 100000 in
set_option maxHeartbeats 4000000 in
theorem alike_calls (w : World) (v u : Value) (a b : Ar) (ha : RdA w v a) (hb : RdA w u b) :
    Calls Tryd.prog 11 #[v, u] w fun e w' => e = .returned (.bool (decide (a = b))) ∧ ∃ d, w' = w.drewN d := by
  obtain ⟨A, cap, rfl, a1, a2, a3, -⟩ := id ha
  obtain ⟨B, bcap, rfl, b1, b2, b3, -⟩ := id hb
  unfold maxLen at a2 b2
  have ha63 := a3.1
  have hb63 := b3.1
  clear a3 b3
  have HA := Lib.hid ha
  have HB := Lib.hid hb
  clear ha hb
  by_cases hl : a.length = b.length
  · go_enter Tryd.func11, Tryd.ntmps11
    rw [← hl]
    have HL := Lib.hid hl
    clear hl
    go_wp2
    go_loopw [5] (fun i wr => ∃ k : Nat, k ≤ a.length ∧ i = .int .i64 k ∧ Hid (a.take k = b.take k) ∧ Hid (∃ d, wr = w.drewN d)) (fun i _ => a.length - (intOf i).toNat)
    case atStart => exact ⟨0, by omega, rfl, rfl, 0, rfl⟩
    case round =>
      obtain ⟨k, hk', rfl, HM, HD⟩ := hrel
      have HAr := HD.out.elim fun d h => (show RdA wr _ a by rw [h]; exact HA.out.drewN d)
      have HBr := HD.out.elim fun d h => (show RdA wr _ b by rw [h]; exact HB.out.drewN d)
      have HDn : Hid (∀ n, ∃ d, wr.drewN n = w.drewN d) := fun n => HD.out.elim fun d h => by rw [h]; exact drewN_ex _ _ _
      by_cases hlt : k < a.length
      · have hltb : k < b.length := by have := HL.out; omega
        obtain ⟨gb, go, u1, rfl, hc, hu⟩ := HAr.get k hlt
        obtain ⟨gb2, go2, u2, rfl, hc2, hu2⟩ := HBr.get k hltb
        have HT : Hid (a.take (k + 1) = a.take k ++ [a[k]]) := List.take_succ_eq_append_getElem hlt
        have HT2 : Hid (b.take (k + 1) = b.take k ++ [b[k]]) := List.take_succ_eq_append_getElem hltb
        have HN : Hid (a[k] ≠ b[k] → a ≠ b) := fun h e => by subst e; exact h rfl
        obtain ⟨l, hl⟩ : ∃ l, l = a[k] := ⟨_, rfl⟩
        obtain ⟨m, hm⟩ : ∃ m, m = b[k] := ⟨_, rfl⟩
        rw [← hl] at hu HT HN
        rw [← hm] at hu2 HT2 HN
        obtain ⟨A', c', rfl, -⟩ := id hu
        obtain ⟨B', c'', rfl, -⟩ := id hu2
        have HU := Lib.hid hu
        have HU2 := Lib.hid hu2
        clear hl hu hm hu2
        obtain ⟨q, hq⟩ : ∃ q, q = decide (l = m) := ⟨_, rfl⟩
        have HQ := Lib.hid hq
        have HSQ : Hid (∀ n, Calls Tryd.prog 31 #[.slice A' l.length c', .slice B' m.length c''] (wr.drewN n) fun e w' => e = .returned (.bool q) ∧ ∃ k, w' = (wr.drewN n).drewN k) := fun n => by
          rw [hq]; exact refSame_calls _ _ _ l m (HU.out.drewN _) (HU2.out.drewN _)
        clear hq hltb HAr HBr
        go_wp2
        go_quiet ((go_at_call 31; exact Calls.quiet_of (HSQ.out _)))
        cases q with
        | true =>
          have e : l = m := of_decide_eq_true HQ.out.symm
          have HM2 : Hid (a.take (k + 1) = b.take (k + 1)) := by show _ = _; rw [HT.out, HT2.out, HM.out, e]
          clear e
          go_wp2
          refine ⟨⟨k + 1, hlt, by go_num, HM2, HDn.out _⟩, by simp [intOf]; omega⟩
        | false =>
          have e : Hid (a ≠ b) := HN.out (of_decide_eq_false HQ.out.symm)
          go_wp2
          go_ret
          exact ⟨ret_bool (decide_eq_false e.out).symm, HDn.out _⟩
      · clear HAr HBr
        have HE : Hid (a = b) := by
          show _ = _; have := HM.out; rwa [List.take_of_length_le (by omega), List.take_of_length_le (by have := HL.out; omega)] at this
        go_wp2
        go_ret
        exact ⟨ret_bool (decide_eq_true HE.out).symm, HD.out⟩
  · have HE : Hid (a ≠ b) := fun e => hl (by rw [e])
    go_enter Tryd.func11, Tryd.ntmps11
    go_wp2
    go_ret
    exact ⟨ret_bool (decide_eq_false HE.out).symm, 0, rfl⟩
end Go.Proofs.YtjlkkbjolfhobaaDoor
