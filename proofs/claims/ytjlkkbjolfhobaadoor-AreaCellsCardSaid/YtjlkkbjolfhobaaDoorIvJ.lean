import Derived.Test.YtjlkkbjolfhobaaDoorIvI
namespace Go.Proofs.YtjlkkbjolfhobaaDoor
open Go.RowKit
attribute [local go_sem] World.cell?_alloc_some frozen_alloc_some

theorem build0_spec {a b : List Sp} (ha : WfS a) (hb : WfS b) : IsSet (fun k => Mem k a ∨ Mem k b) (buildL a b 0) := (build_spec ha hb 0).of fun k => by
  have h1 := fun h => ha.lt (k := k) h
  have h2 := fun h => hb.lt (k := k) h
  simp only [pK, ← memB_iff] at *
  revert h1 h2
  generalize memB k a = x; generalize memB k b = y; intro h1 h2; cases x <;> cases y <;> simp_all
theorem build1_spec {a b : List Sp} (ha : WfS a) (hb : WfS b) : IsSet (fun k => Mem k a ∧ Mem k b) (buildL a b 1) := (build_spec ha hb 1).of fun k => by
  have h1 := fun h => ha.lt (k := k) h
  have h2 := fun h => hb.lt (k := k) h
  simp only [pK, ← memB_iff] at *
  revert h1 h2
  generalize memB k a = x; generalize memB k b = y; intro h1 h2; cases x <;> cases y <;> simp_all
theorem build2_spec {a b : List Sp} (ha : WfS a) (hb : WfS b) : IsSet (fun k => Mem k a ∧ ¬ Mem k b) (buildL a b 2) := (build_spec ha hb 2).of fun k => by
  have h1 := fun h => ha.lt (k := k) h
  have h2 := fun h => hb.lt (k := k) h
  simp only [pK, ← memB_iff] at *
  revert h1 h2
  generalize memB k a = x; generalize memB k b = y; intro h1 h2; cases x <;> cases y <;> simp_all
theorem build3_spec {a b : List Sp} (ha : WfS a) (hb : WfS b) : IsSet (fun k => k < 4294967296 ∧ ¬ Mem k a) (buildL a b 3) := (build_spec ha hb 3).of fun k => by
  simp only [pK, ← memB_iff] at *
  cases memB k a <;> cases memB k b <;> simp_all
theorem WfS.nil : WfS [] := fun s h => by simp at h
theorem buildMake_spec {a : List Sp} (ha : WfS a) : IsSet (fun k => Mem k a) (buildL a [] 0) := (build0_spec ha WfS.nil).of fun _ => ⟨fun h => h.resolve_right mem_nil, .inl⟩

theorem refMake_calls (w : World) (v : Value) (l : List Sp) (hr : RdS w v l) (hn : l.length ≤ 10000) :
    Calls Tryd.prog 18 #[v] w fun e w' => ∃ v', e = .returned v' ∧ NewS w.heap.size w' v' (buildL l [] 0) ∧ Below w.heap.size w w' := by
  have HR := Lib.hid hr
  clear hr
  go_enter Tryd.func18, Tryd.ntmps18
  go_wp2_with fail
  refine (build_calls _ _ _ _ _ _ HR.out RdS.nil hn (by simp) (.inl rfl)).mono ?_
  rintro e w1 ⟨v1, rfl, N1, hb1⟩
  have HN := Lib.hid N1
  obtain ⟨A, c, rfl⟩ := N1.form
  clear N1
  go_wp2
  go_ret
  exact ⟨_, rfl, HN.out, hb1⟩

set_option maxRecDepth 100000 in
set_option maxHeartbeats 4000000 in
theorem refSame_calls (w : World) (v u : Value) (l m : List Sp) (h1 : RdS w v l) (h2 : RdS w u m) :
    Calls Tryd.prog 31 #[v, u] w fun e w' => e = .returned (.bool (decide (l = m))) ∧ ∃ d, w' = w.drewN d := by
  obtain ⟨A, cap, rfl, a1, a2, a3, -⟩ := id h1
  obtain ⟨B, cap2, rfl, b1, b2, b3, -⟩ := id h2
  unfold maxLen at a2 b2
  have H1 := Lib.hid h1
  have H2 := Lib.hid h2
  clear h1 h2
  by_cases hlen : l.length = m.length
  · have HL := Lib.hid hlen
    have hl1 : ((l.length : Int) != (m.length : Int)) = false := by simp; omega
    clear hlen
    go_enter Tryd.func31, Tryd.ntmps31
    go_wp2
    clear hl1
    go_loopw [5] (fun i wr => ∃ k : Nat, k ≤ l.length ∧ i = .int .i64 k ∧ Hid (l.take k = m.take k) ∧ ∃ d, wr = w.drewN d) (fun i _ => l.length - (intOf i).toNat)
    case atStart => exact ⟨0, by omega, rfl, rfl, 0, rfl⟩
    case round =>
      obtain ⟨k, hk, rfl, HT, d, rfl⟩ := hrel
      by_cases hlt : k < l.length
      · have hlt2 : k < m.length := by rw [← HL.out]; exact hlt
        obtain ⟨gb, go, rfl, p0, p1, -⟩ := H1.out.get k hlt
        obtain ⟨gb2, go2, rfl, q0, q1, -⟩ := H2.out.get k hlt2
        have HT1 : Hid (l.take (k + 1) = l.take k ++ [l[k]]) := List.take_succ_eq_append_getElem hlt
        have HT2 : Hid (m.take (k + 1) = m.take k ++ [m[k]]) := List.take_succ_eq_append_getElem hlt2
        have HE1 := Lib.hid (List.getElem?_eq_getElem hlt)
        have HE2 := Lib.hid (List.getElem?_eq_getElem hlt2)
        obtain ⟨s, hs⟩ : ∃ s, s = l[k] := ⟨_, rfl⟩
        obtain ⟨t, ht⟩ : ∃ t, t = m[k] := ⟨_, rfl⟩
        rw [← hs] at p0 p1 HT1 HE1
        rw [← ht] at q0 q1 HT2 HE2
        clear hs ht
        by_cases c1 : s.1 = t.1
        · by_cases c2 : s.2 = t.2
          · have HST : Hid (s = t) := Prod.ext c1 c2
            have d1 : ((s.1 : Int) == (t.1 : Int)) = true := by simp; omega
            have d2 : ((s.2 : Int) == (t.2 : Int)) = true := by simp; omega
            clear c1 c2
            go_wp2
            go_quiet (fail)
            go_wp2
            refine ⟨⟨k + 1, hlt, by go_num, by show _ = _; rw [HT1.out, HT2.out, HT.out, HST.out], (by first | exact ⟨_, rfl⟩ | exact drewN_ex _ _ _ | exact drew_ex _ _)⟩, by simp [intOf]; omega⟩
          · have HNE : Hid (decide (l = m) = false) := by
              show _ = _
              rw [decide_eq_false_iff_not]; rintro e
              have := HE1.out; rw [e, HE2.out] at this
              exact c2 (by cases this; rfl)
            have d1 : ((s.1 : Int) == (t.1 : Int)) = true := by simp; omega
            have d2 : ((s.2 : Int) == (t.2 : Int)) = false := by simp; omega
            clear c1 c2
            go_wp2
            go_quiet (fail)
            go_wp2
            go_ret
            exact ⟨ret_bool HNE.out.symm, (by first | exact ⟨_, rfl⟩ | exact drewN_ex _ _ _ | exact drew_ex _ _)⟩
        · have HNE : Hid (decide (l = m) = false) := by
            show _ = _
            rw [decide_eq_false_iff_not]; rintro e
            have := HE1.out; rw [e, HE2.out] at this
            exact c1 (by cases this; rfl)
          have d1 : ((s.1 : Int) == (t.1 : Int)) = false := by simp; omega
          clear c1
          go_wp2
          go_quiet (fail)
          go_wp2
          go_ret
          exact ⟨ret_bool HNE.out.symm, (by first | exact ⟨_, rfl⟩ | exact drewN_ex _ _ _ | exact drew_ex _ _)⟩
      · have HE : Hid (decide (l = m) = true) := by
          show _ = _
          rw [decide_eq_true_iff]
          have := HT.out
          rwa [List.take_of_length_le (by omega), List.take_of_length_le (by have := HL.out; omega)] at this
        go_wp2
        go_ret
        exact ⟨ret_bool HE.out.symm, (by first | exact ⟨_, rfl⟩ | exact drewN_ex _ _ _ | exact drew_ex _ _)⟩
  · have HE : Hid (decide (l = m) = false) := by
      show _ = _; rw [decide_eq_false_iff_not]; rintro rfl; exact hlen rfl
    have hl1 : ((l.length : Int) != (m.length : Int)) = true := by simp; omega
    clear hlen
    go_enter Tryd.func31, Tryd.ntmps31
    go_wp2
    go_ret
    exact ⟨ret_bool HE.out.symm, 0, rfl⟩

end Go.Proofs.YtjlkkbjolfhobaaDoor
