import Derived.Test.YtpchodnknkdlgaaInAE
namespace Go.Proofs.Ytpchodnknkdlgaa
open Go.RowKit Go.Shelf
attribute [local go_sem] World.cell?_alloc_some

/-! Which number is alone in some sum. -/
theorem cleanL_mem {M : List (List Int)} {a c n : Nat} (hn : ∀ r ∈ M, r.length = n) (ha : a < M.length) : ∀ r ∈ cleanL M a c, r.length = n := by
  intro r hr
  unfold cleanL at hr
  obtain ⟨i, hi, rfl⟩ := List.getElem_of_mem hr
  have hi2 : i < M.length := by simpa using hi
  simp only [List.getElem_mapIdx]
  have h1 := hn _ (List.getElem_mem hi2)
  unfold rowL
  split
  · exact h1
  · rw [shrinkL_len, combL_len]
    · exact h1
    · rw [h1, show M.getD a [] = M[a] by simp [List.getD, ha], hn _ (List.getElem_mem ha)]
theorem findRow_lt {M : List (List Int)} {c i j : Nat} (h : findRow M c i = some j) : i ≤ j ∧ j < M.length := by
  unfold findRow at h
  have h1 := List.mem_of_find?_eq_some h
  have h2 := List.find?_some h
  simp at h2
  exact ⟨h2.1, List.mem_range.1 h1⟩
theorem redTo_len {M : List (List Int)} {n : Nat} (hn : ∀ r ∈ M, r.length = n) (k : Nat) : (∀ r ∈ (redTo M k).1, r.length = n) ∧ (redTo M k).1.length = M.length := by
  induction k with
  | zero => exact ⟨hn, rfl⟩
  | succ k ih =>
    rw [redTo_succ]
    unfold redStep
    cases hf : findRow (redTo M k).1 k (redTo M k).2 with
    | none => exact ih
    | some j =>
      obtain ⟨h1, h2⟩ := findRow_lt hf
      refine ⟨cleanL_mem (fun r hr => ih.1 r (swapL_mem (by omega) h2 hr)) (by rw [swapL_len]; omega), ?_⟩
      show (cleanL _ _ _).length = _
      rw [cleanL_len, swapL_len, ih.2]
theorem matL_len (sets : List (List Int)) : ∀ r ∈ matL sets, r.length = (namesL sets).length := by
  intro r hr
  unfold matL at hr
  obtain ⟨s, -, rfl⟩ := List.mem_map.1 hr
  exact mrowTo_len _ _ _
theorem loneL_lt (xs : List Int) : loneL xs < xs.length ∨ loneL xs = -1 := by
  show (match nz xs xs.length with | [i] => (i : Int) | _ => -1) < _ ∨ (match nz xs xs.length with | [i] => (i : Int) | _ => -1) = -1
  have hm : ∀ i ∈ nz xs xs.length, i < xs.length := fun i hi => by unfold nz at hi; exact List.mem_range.1 (List.mem_filter.1 hi).1
  generalize nz xs xs.length = l at hm
  match l, hm with
  | [], _ => exact .inr rfl
  | [i], hm => exact .inl (by have := hm i (by simp); show (i : Int) < _; omega)
  | i :: j :: l, _ => exact .inr rfl
theorem loneL_ge (xs : List Int) : -1 ≤ loneL xs := by
  show -1 ≤ (match nz xs xs.length with | [i] => (i : Int) | _ => -1)
  split
  · exact Int.le_trans (by decide) (Int.natCast_nonneg _)
  · exact Int.le_refl _
def answerL (names : List Int) (M : List (List Int)) : Int × Bool := match M.find? fun r => decide (0 ≤ loneL r) with
  | some r => (names.getD (loneL r).toNat 0, true)
  | none => (0, false)
def exposedL (sets : List (List Int)) : Int × Bool := answerL (namesL sets) (redTo (matL sets) (namesL sets).length).1

theorem exposedF_calls (w : World) (v : Value) (xs : List Int) {χ : Col} {cl : Nat} (h : IsI cl χ w v xs) :
    Calls Try.prog 19 #[v] w fun e w' => e = .returned (.bool (!rightM 0 xs)) ∧ w' = w := by
  obtain ⟨r, hr⟩ : ∃ r, r = rightM 0 xs := ⟨_, rfl⟩
  have HR := right_calls w v xs h
  rw [← hr] at HR ⊢
  clear hr
  have HR := Lib.hid HR
  go_enter Try.func19, Try.ntmps19
  go_wp2_with fail
  refine HR.out.mono ?_
  rintro e w1 ⟨rfl, rfl⟩
  go_wp2
  go_ret
  exact ⟨rfl, rfl⟩

set_option maxHeartbeats 1000000 in
theorem index_calls (w : World) (v : Value) (sets : List (List Int)) {c d : Nat} {χ : Col} (h : IsII c d χ w v sets) (hr : ∀ s ∈ sets, rightM 0 s = true) :
    Calls Try.prog 29 #[v, .func (.func 19) #[] #[]] w fun e w' => e = .returned (.int .i64 (-1)) ∧ w' = w := by
  obtain ⟨A, cap, rfl, h1, h2, h3, -⟩ := id h
  unfold maxLen at h2
  have H := Lib.hid h
  have HR := Lib.hid hr
  clear h hr
  go_enter Try.func29, Try.ntmps29
  go_wp2
  go_loopw [8] (fun i wr => ∃ k : Nat, k ≤ sets.length ∧ i = .int .i64 k ∧ wr = w) (fun i _ => sets.length - (intOf i).toNat)
  case atStart => exact ⟨0, by omega, rfl, rfl⟩
  case round =>
    obtain ⟨k, hk, rfl, rfl⟩ := hrel
    by_cases hlt : k < sets.length
    · obtain ⟨b, o, u, rfl, hc, hu⟩ := H.out.getS k hlt
      have hrr := HR.out _ (List.getElem_mem hlt)
      have HC := exposedF_calls wr u _ hu
      rw [hrr] at HC
      have HC := Lib.hid HC
      clear hu hrr
      go_wp2_with fail
      refine HC.out.mono ?_
      rintro e w1 ⟨rfl, rfl⟩
      go_wp2
      exact ⟨⟨k + 1, hlt, by go_num, trivial⟩, by simp [intOf]; omega⟩
    · go_wp2
      go_ret
      exact ⟨rfl, rfl⟩
theorem contains_calls (w : World) (v : Value) (sets : List (List Int)) {c d : Nat} {χ : Col} (h : IsII c d χ w v sets) (hr : ∀ s ∈ sets, rightM 0 s = true) :
    Calls Try.prog 18 #[v, .func (.func 19) #[] #[]] w fun e w' => e = .returned (.bool false) ∧ w' = w := by
  have H := Lib.hid (index_calls w v sets h hr)
  go_enter Try.func18, Try.ntmps18
  go_wp2_with fail
  refine H.out.mono ?_
  rintro e w1 ⟨rfl, rfl⟩
  go_wp2
  go_ret
  exact ⟨rfl, rfl⟩
theorem answerL_at {names : List Int} {M : List (List Int)} {k : Nat} (hk : k < M.length) (h : 0 ≤ loneL M[k]) (h2 : ∀ q (hq : q < M.length), q < k → loneL M[q] < 0) : answerL names M = (names.getD (loneL M[k]).toNat 0, true) := by
  have e : M.find? (fun r => decide (0 ≤ loneL r)) = some M[k] := by
    rw [List.find?_eq_some_iff_getElem]
    exact ⟨by simpa using h, k, hk, rfl, fun j hj => by have := h2 j (by omega) hj; simp; omega⟩
  unfold answerL; rw [e]
theorem answerL_none {names : List Int} {M : List (List Int)} (h2 : ∀ q (hq : q < M.length), loneL M[q] < 0) : answerL names M = (0, false) := by
  have e : M.find? (fun r => decide (0 ≤ loneL r)) = none := by
    rw [List.find?_eq_none]
    intro r hr
    obtain ⟨i, hi, rfl⟩ := List.getElem_of_mem hr
    have := h2 i hi; simp; omega
  unfold answerL; rw [e]
set_option maxRecDepth 100000 in
set_option maxHeartbeats 4000000 in
theorem exposed_calls (W : World) (v : Value) (sets : List (List Int)) {c d : Nat} {χ : Col} (h : IsII c d χ W v sets) (hl : sets.length ≤ 8) (ht : sets.flatten.length ≤ 1000) (hr : ∀ s ∈ sets, rightM 0 s = true) (hb : ∀ k ≤ (namesL sets).length, ∀ r ∈ (redTo (matL sets) k).1, Bd 16777216 r) :
    Calls Try.prog 8 #[v] W fun e W' => e = .returned (.tuple #[.int .i64 (exposedL sets).1, .bool (exposedL sets).2]) ∧ Below W.heap.size W W' := by
  obtain ⟨A, cap, rfl, h1, h2, h3, -⟩ := id h
  unfold maxLen at h2
  have HC := Lib.hid (contains_calls W _ sets h hr)
  have HM := Lib.hid (matrix_calls W _ sets h (by omega) ht)
  have hnl := Nat.le_trans (namesL_len sets) ht
  have HB := Lib.hid hb
  have HE : Hid (exposedL sets = answerL (namesL sets) (redTo (matL sets) (namesL sets).length).1) := rfl
  obtain ⟨E, hE⟩ : ∃ E, E = exposedL sets := ⟨_, rfl⟩
  rw [← hE] at HE ⊢
  have hml : (matL sets).length = sets.length := by simp [matL]
  clear h hr hb ht hE
  go_enter Try.func8, Try.ntmps8
  go_wp2_with fail
  refine HC.out.mono ?_
  rintro e w1 ⟨rfl, rfl⟩
  go_wp2_with fail
  refine HM.out.mono ?_
  rintro e w2 ⟨rv, nv, vs, b1, rfl, O1, hb1, hb2, M1, hbl⟩
  obtain ⟨An, cn, rfl⟩ := owns_form O1
  have O1 := Lib.hid O1
  have HB1 := Lib.hid hb1
  have M1 := Lib.hid M1
  clear hb1
  go_wp2_with fail
  refine (reduce_calls w2 b1 rv vs (matL sets) (namesL sets).length M1.out (fun k => (redTo_len (matL_len sets) k).1) HB.out (fun k => (redTo_len (matL_len sets) k).2) (by omega) hnl).mono ?_
  rintro e w3 ⟨vs', rfl, M2, hb3⟩
  have hrl := redTo_len (matL_len sets) (namesL sets).length
  have hbA := hbl.trans (hb3.mono hb2)
  have O2 := Lib.hid (owns_same O1.out fun b e => hb3.block b (HB1.out b e))
  obtain ⟨names, hnames⟩ : ∃ names, names = namesL sets := ⟨_, rfl⟩
  obtain ⟨M, hM⟩ : ∃ M, M = (redTo (matL sets) (namesL sets).length).1 := ⟨_, rfl⟩
  rw [← hM] at M2 hrl HE
  rw [← hnames] at O2 HE hrl hnl ⊢
  obtain ⟨hr1, hr2⟩ := hrl
  obtain ⟨Am, cm, rfl⟩ := owns_form M2.out
  have M2 := Lib.hid M2
  have HR1 := Lib.hid hr1
  clear hr1 hM hnames hb3 hbl O1 M1 HM
  have hMl : M.length ≤ 100 := by omega
  go_wp2
  go_loopw [26] (fun i wr => ∃ k : Nat, k ≤ M.length ∧ i = .int .i64 k ∧ Hid (∀ q (hq : q < M.length), q < k → loneL M[q] < 0) ∧ wr = w3) (fun i _ => M.length - (intOf i).toNat)
  case atStart => exact ⟨0, by omega, rfl, fun q _ h => by omega, rfl⟩
  case round =>
    obtain ⟨k, hk, rfl, HZ, rfl⟩ := hrel
    by_cases hlt : k < M.length
    · obtain ⟨ob, oc2, g, capg, e, hv, hh, -, hcs, -, -⟩ := M2.out.cell k hlt
      injection e with e1 e2 e3
      subst e1 e3
      clear e2 hv
      have hrl := HR1.out _ (List.getElem_mem hlt)
      have HL := Lib.hid (lone_calls wr g _ capg M[k] hcs rfl (by omega))
      rw [hrl] at hh HL
      have hge := loneL_ge M[k]
      have hll := loneL_lt M[k]
      have HA := fun (h : 0 ≤ loneL M[k]) => answerL_at (names := names) hlt h HZ.out
      obtain ⟨x, hx⟩ : ∃ x, x = loneL M[k] := ⟨_, rfl⟩
      rw [← hx] at HL hge hll HA
      rw [hrl] at hll
      have HA := Lib.hid HA
      have HX := Lib.hid hx
      clear hx hcs
      go_wp2_with fail
      refine HL.out.mono ?_
      rintro e w4 ⟨rfl, rfl⟩
      by_cases h0 : 0 ≤ x
      · obtain ⟨n, rfl⟩ : ∃ n : Nat, x = n := ⟨x.toNat, by omega⟩
        have hnn : n < names.length := by omega
        have hO := O2.out
        obtain ⟨-, (⟨e, hz⟩ | ⟨gn, cn2, cur, e, -⟩)⟩ := id hO
        · omega
        · injection e with e1 e2 e3
          subst e1 e3
          clear e2
          have hcn := hO.cells (g := gn) rfl n (.int .i64 names[n]) (by simp [hnn, vI])
          rw [add0] at hcn
          have HF : Hid (E = (names[n], true)) := by
            show _ = _
            rw [HE.out, HA.out (by omega)]
            simp [List.getD, hnn]
          clear hO
          go_wp2
          exact bodyPost_ret (v := .tuple #[.int .i64 names[n], .bool true]) (by simp [results, Try.results8, go_sem, *]) rfl ⟨by rw [HF.out], hbA⟩
      · have HZ2 : Hid (∀ q (hq : q < M.length), q < k + 1 → loneL M[q] < 0) := fun q hq h => by
          by_cases e : q = k
          · subst e; rw [← HX.out]; omega
          · exact HZ.out q hq (by omega)
        go_wp2
        exact ⟨⟨k + 1, hlt, by go_num, HZ2, trivial⟩, by simp [intOf]; omega⟩
    · have HF : Hid (E = (0, false)) := by
        show _ = _
        rw [HE.out]; exact answerL_none fun q hq => HZ.out q hq (by omega)
      go_wp2
      exact bodyPost_ret (v := .tuple #[.int .i64 0, .bool false]) (by simp [results, Try.results8, go_sem, *]) rfl ⟨by rw [HF.out], hbA⟩
end Go.Proofs.Ytpchodnknkdlgaa
