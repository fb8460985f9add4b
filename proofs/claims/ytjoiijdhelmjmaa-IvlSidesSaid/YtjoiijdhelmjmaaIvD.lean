import Derived.Test.YtjoiijdhelmjmaaIvC
import Derived.Shelf.Spec.SlicesGrow
namespace Go.Proofs.Ytjoiijdhelmjmaa
open Go.RowKit
attribute [local go_sem] World.cell?_alloc_some frozen_alloc_some

set_option maxRecDepth 100000 in
set_option maxHeartbeats 4000000 in
theorem equal_calls (w : World) (v u : Value) (l m : List Sp) (h1 : RdS w v l) (h2 : RdS w u m) :
    Calls Try.prog 30 #[v, u] w fun e w' => e = .returned (.bool (decide (l = m))) ∧ ∃ d, w' = w.drewN d := by
  obtain ⟨A, cap, rfl, a1, a2, a3, -⟩ := id h1
  obtain ⟨B, cap2, rfl, b1, b2, b3, -⟩ := id h2
  unfold maxLen at a2 b2
  have H1 := Lib.hid h1
  have H2 := Lib.hid h2
  clear h1 h2
  by_cases hlen : l.length = m.length
  · have HL := Lib.hid hlen
    have hl1 : ((l.length : Int) != (m.length : Int)) = false := by simp; omega
    clear hlen
    go_enter Try.func30, Try.ntmps30
    go_wp2
    clear hl1
    go_loopw [13] (fun i wr => ∃ k : Nat, k ≤ l.length ∧ i = .int .i64 k ∧ Hid (l.take k = m.take k) ∧ ∃ d, wr = w.drewN d) (fun i _ => l.length - (intOf i).toNat)
    case atStart => exact ⟨0, by omega, rfl, rfl, 0, rfl⟩
    case round =>
      obtain ⟨k, hk, rfl, HT, d, rfl⟩ := hrel
      by_cases hlt : k < l.length
      · have hlt2 : k < m.length := by rw [← HL.out]; exact hlt
        obtain ⟨gb, go, rfl, p0, p1, -⟩ := H1.out.get k hlt
        obtain ⟨gb2, go2, rfl, q0, q1, -⟩ := H2.out.get k hlt2
        have HT1 : Hid (l.take (k + 1) = l.take k ++ [l[k]]) := List.take_succ_eq_append_getElem hlt
        have HT2 : Hid (m.take (k + 1) = m.take k ++ [m[k]]) := List.take_succ_eq_append_getElem hlt2
        have HE1 := Lib.hid (List.getElem?_eq_getElem hlt)
        have HE2 := Lib.hid (List.getElem?_eq_getElem hlt2)
        obtain ⟨s, hs⟩ : ∃ s, s = l[k] := ⟨_, rfl⟩
        obtain ⟨t, ht⟩ : ∃ t, t = m[k] := ⟨_, rfl⟩
        rw [← hs] at p0 p1 HT1 HE1
        rw [← ht] at q0 q1 HT2 HE2
        clear hs ht
        by_cases c1 : s.1 = t.1
        · by_cases c2 : s.2 = t.2
          · have HST : Hid (s = t) := Prod.ext c1 c2
            have d1 : ((s.1 : Int) == (t.1 : Int)) = true := by simp; omega
            have d2 : ((s.2 : Int) == (t.2 : Int)) = true := by simp; omega
            clear c1 c2
            go_wp2
            go_quiet (fail)
            go_wp2
            refine ⟨⟨k + 1, hlt, by go_num, by show _ = _; rw [HT1.out, HT2.out, HT.out, HST.out], (by first | exact ⟨_, rfl⟩ | exact drewN_ex _ _ _ | exact drew_ex _ _)⟩, by simp [intOf]; omega⟩
          · have HNE : Hid (decide (l = m) = false) := by
              show _ = _
              rw [decide_eq_false_iff_not]; rintro e
              have := HE1.out; rw [e, HE2.out] at this
              exact c2 (by cases this; rfl)
            have d1 : ((s.1 : Int) == (t.1 : Int)) = true := by simp; omega
            have d2 : ((s.2 : Int) == (t.2 : Int)) = false := by simp; omega
            clear c1 c2
            go_wp2
            go_quiet (fail)
            go_wp2
            go_ret
            exact ⟨ret_bool HNE.out.symm, (by first | exact ⟨_, rfl⟩ | exact drewN_ex _ _ _ | exact drew_ex _ _)⟩
        · have HNE : Hid (decide (l = m) = false) := by
            show _ = _
            rw [decide_eq_false_iff_not]; rintro e
            have := HE1.out; rw [e, HE2.out] at this
            exact c1 (by cases this; rfl)
          have d1 : ((s.1 : Int) == (t.1 : Int)) = false := by simp; omega
          clear c1
          go_wp2
          go_quiet (fail)
          go_wp2
          go_ret
          exact ⟨ret_bool HNE.out.symm, (by first | exact ⟨_, rfl⟩ | exact drewN_ex _ _ _ | exact drew_ex _ _)⟩
      · have HE : Hid (decide (l = m) = true) := by
          show _ = _
          rw [decide_eq_true_iff]
          have := HT.out
          rwa [List.take_of_length_le (by omega), List.take_of_length_le (by have := HL.out; omega)] at this
        go_wp2
        go_ret
        exact ⟨ret_bool HE.out.symm, (by first | exact ⟨_, rfl⟩ | exact drewN_ex _ _ _ | exact drew_ex _ _)⟩
  · have HE : Hid (decide (l = m) = false) := by
      show _ = _; rw [decide_eq_false_iff_not]; rintro rfl; exact hlen rfl
    have hl1 : ((l.length : Int) != (m.length : Int)) = true := by simp; omega
    clear hlen
    go_enter Try.func30, Try.ntmps30
    go_wp2
    go_ret
    exact ⟨ret_bool HE.out.symm, 0, rfl⟩

def inSp (s : Sp) (key : Nat) : Bool := decide (s.1 ≤ key) && decide (key ≤ s.2)
set_option maxHeartbeats 1000000 in
theorem has1_calls (w : World) (s : Sp) (key kb : Nat) (hk : w.cell? ⟨kb, 0, none⟩ = some (.int .u32 key)) :
    Calls Try.prog 32 #[.agg #[.int .u32 s.1, .int .u32 s.2], .pointer (some ⟨kb, 0, none⟩)] w fun e w' => e = .returned (.bool (inSp s key)) ∧ Below w.heap.size w w' := by
  have hb := (Below.refl w.heap.size w).alloc (Nat.le_refl _) (.cells #[.int .u32 s.1, .int .u32 s.2] 38)
  by_cases c1 : s.1 ≤ key
  · by_cases c2 : key ≤ s.2
    · have HE : Hid (inSp s key = true) := by show _ = _; unfold inSp; simp [c1, c2]
      go_enter Try.func32, Try.ntmps32
      go_wp2
      go_ret
      exact ⟨ret_bool HE.out.symm, hb⟩
    · have HE : Hid (inSp s key = false) := by show _ = _; unfold inSp; simp [c1, c2]
      go_enter Try.func32, Try.ntmps32
      go_wp2
      go_ret
      exact ⟨ret_bool HE.out.symm, hb⟩
  · have HE : Hid (inSp s key = false) := by show _ = _; unfold inSp; simp [c1]
    go_enter Try.func32, Try.ntmps32
    go_wp2
    go_ret
    exact ⟨ret_bool HE.out.symm, hb⟩

set_option maxRecDepth 100000 in
set_option maxHeartbeats 4000000 in
theorem index_calls (w : World) (v : Value) (l : List Sp) (key kb : Nat) (hr : RdS w v l) (hk : w.cell? ⟨kb, 0, none⟩ = some (.int .u32 key)) :
    Calls Try.prog 39 #[v, .func (.func 32) #[] #[.pointer (some ⟨kb, 0, none⟩)]] w fun e w' => ∃ r : Int, e = .returned (.int .i64 r) ∧ decide (0 ≤ r) = memB key l ∧ Below w.heap.size w w' := by
  obtain ⟨A, cap, rfl, a1, a2, a3, -⟩ := id hr
  unfold maxLen at a2
  have HR := Lib.hid hr
  clear hr
  have hkl := World.block_lt_of_cell? w _ hk
  go_enter Try.func39, Try.ntmps39
  go_wp2
  go_loopw [8] (fun i wr => ∃ k : Nat, k ≤ l.length ∧ i = .int .i64 k ∧ Hid (memB key (l.take k) = false) ∧ Below w.heap.size w wr) (fun i _ => l.length - (intOf i).toNat)
  case atStart => exact ⟨0, by omega, rfl, rfl, Below.refl _ _⟩
  case round =>
    obtain ⟨k, hk', rfl, HM, hb⟩ := hrel
    by_cases hlt : k < l.length
    · obtain ⟨gb, go, rfl, p0, p1, -⟩ := (HR.out.keep hb).get k hlt
      have HT : Hid (l.take (k + 1) = l.take k ++ [l[k]]) := List.take_succ_eq_append_getElem hlt
      have HD := Lib.hid (split_at l k hlt)
      obtain ⟨s, hs⟩ : ∃ s, s = l[k] := ⟨_, rfl⟩
      rw [← hs] at p0 p1 HT HD
      clear hs
      have hkc : wr.cell? ⟨kb, 0, none⟩ = some (.int .u32 key) := (hb.cell hkl).trans hk
      have HKC := Lib.hid hkc
      obtain ⟨q, hq⟩ : ∃ q, q = inSp s key := ⟨_, rfl⟩
      have HQ := Lib.hid hq
      clear hq hkc
      go_wp2_with fail
      refine (has1_calls _ _ _ _ HKC.out).mono ?_
      rw [← HQ.out]
      rintro e w1 ⟨rfl, hb1⟩
      cases q with
      | true =>
        have HE : Hid (memB key l = true) := by
          show _ = _; rw [HD.out]; unfold memB; rw [List.any_append, List.any_cons]
          have := HQ.out; unfold inSp at this; rw [← this]; simp
        have hbb := hb.trans (hb1.mono hb.size)
        go_wp2
        go_ret
        exact ⟨_, rfl, by rw [HE.out]; simp, hbb⟩
      | false =>
        have HM2 : Hid (memB key (l.take (k + 1)) = false) := by
          show _ = _; rw [HT.out]; unfold memB at *; rw [List.any_append, HM.out]
          have := HQ.out; unfold inSp at this; simp [← this]
        go_wp2
        refine ⟨⟨k + 1, hlt, by go_num, HM2, hb.trans (hb1.mono hb.size)⟩, by simp [intOf]; omega⟩
    · have HE : Hid (memB key l = false) := by
        show _ = _; have := HM.out; rwa [List.take_of_length_le (by omega)] at this
      go_wp2
      go_ret
      exact ⟨-1, rfl, by rw [HE.out]; rfl, hb⟩

set_option maxHeartbeats 1000000 in
theorem has_calls (w : World) (v : Value) (l : List Sp) (key : Nat) (hr : RdS w v l) :
    Calls Try.prog 17 #[v, .int .u32 key] w fun e w' => e = .returned (.bool (memB key l)) ∧ Below w.heap.size w w' := by
  have HC := Lib.hid fun (W : World) (kb : Nat) (h1 : RdS W v l) (h2 : W.cell? ⟨kb, 0, none⟩ = some (.int .u32 key)) => index_calls W v l key kb h1 h2
  have hC : ∀ (W : World) (kb : Nat), RdS W v l → W.cell? ⟨kb, 0, none⟩ = some (.int .u32 key) → Calls Try.prog 31 #[v, .func (.func 32) #[] #[.pointer (some ⟨kb, 0, none⟩)]] W fun e w' => e = .returned (.bool (memB key l)) ∧ Below W.heap.size W w' := by
    intro W kb h1 h2
    have H1 := Lib.hid h1
    have H2 := Lib.hid h2
    clear h1 h2
    go_enter Try.func31, Try.ntmps31
    go_wp2_with fail
    refine (HC.out _ _ H1.out H2.out).mono ?_
    rintro e w1 ⟨r, rfl, hr2, hb⟩
    have HR2 := Lib.hid hr2
    clear hr2
    go_wp2
    go_ret
    exact ⟨ret_bool HR2.out, hb⟩
  have HC2 := Lib.hid hC
  have HR := Lib.hid (hr.keep ((Below.refl w.heap.size w).alloc (Nat.le_refl _) (.cells #[.int .u32 key] 23)))
  clear hC hr
  go_enter Try.func17, Try.ntmps17
  go_wp2_with fail
  refine (HC2.out _ _ HR.out (by simp)).mono ?_
  rintro e w1 ⟨rfl, hb⟩
  go_wp2
  go_ret
  exact ⟨rfl, below_lit hb⟩

theorem spright_calls (w : World) (v : Value) (l : List Sp) (hr : RdS w v l) (hn : l.length ≤ 100000) :
    Calls Try.prog 16 #[v] w fun e w' => ∃ l', IsSet (fun k => Mem k l) l' ∧ e = .returned (.bool (decide (l = l'))) ∧ Below w.heap.size w w' := by
  have HR := Lib.hid hr
  clear hr
  go_enter Try.func16, Try.ntmps16
  go_wp2_with fail
  refine (make_calls _ _ _ HR.out hn).mono ?_
  rintro e w1 ⟨v1, a, rfl, N1, hset, hal, hb1⟩
  have HS := Lib.hid hset
  clear hset
  go_wp2_with fail
  refine (equal_calls _ _ _ _ _ (HR.out.keep hb1) N1.rd).mono ?_
  rintro e w2 ⟨rfl, d, rfl⟩
  go_wp2
  go_ret
  exact ⟨a, HS.out, rfl, hb1.trans (below_drewN _ _ _)⟩
theorem spsame_calls (w : World) (v u : Value) (l m : List Sp) (hr : RdS w v l) (hr2 : RdS w u m) (hn : l.length ≤ 100000) (hn2 : m.length ≤ 100000) :
    Calls Try.prog 22 #[v, u] w fun e w' => ∃ l' m', IsSet (fun k => Mem k l) l' ∧ IsSet (fun k => Mem k m) m' ∧ e = .returned (.bool (decide (l' = m'))) ∧ Below w.heap.size w w' := by
  have HR := Lib.hid hr
  have HR2 := Lib.hid hr2
  clear hr hr2
  go_enter Try.func22, Try.ntmps22
  go_wp2_with fail
  refine (make_calls _ _ _ HR.out hn).mono ?_
  rintro e w1 ⟨v1, a, rfl, N1, hset, hal, hb1⟩
  have HS := Lib.hid hset
  have HR3 := Lib.hid (HR2.out.keep hb1)
  clear hset
  go_wp2_with fail
  refine (make_calls _ _ _ HR3.out hn2).mono ?_
  rintro e w2 ⟨v2, b, rfl, N2, hset2, hbl, hb2⟩
  have HS2 := Lib.hid hset2
  clear hset2
  go_wp2_with fail
  refine (equal_calls _ _ _ _ _ (N1.rd.keep hb2) N2.rd).mono ?_
  rintro e w3 ⟨rfl, d, rfl⟩
  go_wp2
  go_ret
  exact ⟨a, b, HS.out, HS2.out, rfl, (hb1.trans (hb2.mono hb1.size)).trans (below_drewN _ _ _)⟩
end Go.Proofs.Ytjoiijdhelmjmaa
