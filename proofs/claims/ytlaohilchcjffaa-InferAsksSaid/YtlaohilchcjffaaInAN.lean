import Derived.Test.YtlaohilchcjffaaInAM
namespace Go.Proofs.Ytlaohilchcjffaa
open Go.RowKit
attribute [local go_sem] World.cell?_alloc_some frozen_alloc_some

/-! InferAsks. -/
/-- a second control, of color 3, beside one of color 1. -/
theorem ci_new2 {w W : World} {pb : Nat} {χ : Col} {k r b : Int} {l : List (List Int)} (hI : CI 1 w pb χ k r b l W) :
    ∃ χ2, CI 1 w pb χ2 k r b l (W.alloc (.cells #[.int .i64 k, .int .i64 r, .int .i64 b, .slice none 0 0] 50)) ∧ CI 3 w W.heap.size χ2 k r b [] (W.alloc (.cells #[.int .i64 k, .int .i64 r, .int .i64 b, .slice none 0 0] 50)) := by
  have hb := (Below.refl W.heap.size W).alloc (Nat.le_refl _) (.cells #[.int .i64 k, .int .i64 r, .int .i64 b, .slice none 0 0] 50)
  refine ⟨paint χ W.heap.size 3, hI.color hb fun b hb => paint_low hb, ctlAt_new W 3 _ k r b (paint_high (Nat.le_refl _)), hI.2.1.trans (hb.mono hI.2.1.size), fun b h => ?_⟩
  rw [paint_low (by have := hI.2.1.size; omega)]
  exact hI.2.2 b h
/-- Two controls with the same sets. -/
def CC (w : World) (pb pd : Nat) (χ : Col) (k r b : Int) (l : List (List Int)) (W : World) : Prop := CI 1 w pb χ k r b l W ∧ CI 3 w pd χ k r b l W
theorem CI.ask1 {w : World} {pb pd : Nat} {χ : Col} {k r b : Int} {l l2 l' : List (List Int)} {W W2 : World} (h : CI 1 w pb χ k r b l W) (h2 : CI 3 w pd χ k r b l2 W)
    (hq : ∃ χ', (∀ b, b < W.heap.size → χ' b = χ b) ∧ CtlAt 1 χ' W2 pb k r b l' ∧ Chg χ (· = 1) W W2) : ∃ χ', CI 1 w pb χ' k r b l' W2 ∧ CI 3 w pd χ' k r b l2 W2 := by
  obtain ⟨χ', x, g, I⟩ := h.ask (by omega) hq
  exact ⟨χ', I, h2.chg g x (by omega) (by omega) (by omega)⟩
theorem CI.ask3 {w : World} {pb pd : Nat} {χ : Col} {k r b : Int} {l l2 l' : List (List Int)} {W W2 : World} (h : CI 1 w pb χ k r b l W) (h2 : CI 3 w pd χ k r b l2 W)
    (hq : ∃ χ', (∀ b, b < W.heap.size → χ' b = χ b) ∧ CtlAt 3 χ' W2 pd k r b l' ∧ Chg χ (· = 3) W W2) : ∃ χ', CI 1 w pb χ' k r b l W2 ∧ CI 3 w pd χ' k r b l' W2 := by
  obtain ⟨χ', x, g, I⟩ := h2.ask (by omega) hq
  exact ⟨χ', h.chg g x (by omega) (by omega) (by omega), I⟩
set_option maxRecDepth 100000 in
set_option maxHeartbeats 4000000 in
theorem asks_no (w : World) (k r b : Int) (v : Value) (s : List (List Int)) (live : Int) (hs : IsII 0 0 (fun _ => 0) w v s)
    (hno : Hid (fewM s 30 = false ∨ (fewM s 30 = true ∧ checkM k r b = 43))) :
    Calls Try.prog 6 #[.int .i64 k, .int .i64 r, .int .i64 b, v, .int .i64 live] w fun e w' => e = .returned (.bool true) ∧ Below w.heap.size w w' := by
  obtain ⟨A, c, rfl, -, -, -, -⟩ := id hs
  have HS := Lib.hid hs
  clear hs
  go_enter Try.func6, Try.ntmps6
  go_wp2_with fail
  refine (alive_calls _).mono ?_
  rintro e w1 ⟨rfl, hbw⟩
  have HS1 := Lib.hid (HS.out.keep (Same.below' hbw))
  go_wp2_with fail
  refine (few_calls _ _ 30 _ HS1.out).mono ?_
  rintro e w2 ⟨rfl, rfl⟩
  rcases hno.out with h | ⟨h, h2⟩
  · rw [h]
    go_wp2
    go_ret
    exact ⟨rfl, hbw⟩
  · rw [h]
    have HR := Lib.hid h2
    clear hno h2
    go_wp2_with fail
    refine (check_calls _ k r b).mono ?_
    rintro e w4 ⟨rfl, rfl⟩
    rw [HR.out]
    go_wp2
    go_ret
    exact ⟨rfl, hbw⟩
theorem askM_again {k r b live : Int} {l : List (List Int)} {s : List Int} (h : askM k r b (l ++ [s]) s live = 0) : (s.length : Int) ≤ r := by
  unfold askM at h
  split at h
  · cases h
  · split at h
    · cases h
    · split at h
      · cases h
      · split at h
        · cases h
        · rename_i h1 _ _ h4
          have hr : rightM 0 s = true := by simpa using h1
          rw [mostM_snoc, sharedM_filter hr hr] at h4
          have e : s.filter (fun n => decide (n ∈ s)) = s := List.filter_eq_self.2 fun a ha => by simpa using ha
          rw [e] at h4
          omega
set_option maxRecDepth 100000 in
set_option maxHeartbeats 16000000 in
theorem asks_yes (w : World) (k r b : Int) (v : Value) (s : List (List Int)) (live : Int) (hs : IsII 0 0 (fun _ => 0) w v s) (hlr : -9223372036854775808 ≤ live ∧ live ≤ 9223372036854775807)
    (f1 : Hid (fewM s 30 = true)) (f3 : Hid (checkM k r b = 0)) :
    Calls Try.prog 6 #[.int .i64 k, .int .i64 r, .int .i64 b, v, .int .i64 live] w fun e w' => e = .returned (.bool true) ∧ Below w.heap.size w w' := by
  obtain ⟨A, c, rfl, s1, s2, s3, -⟩ := id hs
  unfold maxLen at s2
  have HS := Lib.hid hs
  have F1 := Lib.hid (fewM_iff f1.out)
  have hl30 : s.length ≤ 30 := by have := F1.out.2; omega
  have F3 := Lib.hid (checkM_ok f3.out)
  clear hs
  go_enter Try.func6, Try.ntmps6
  go_wp2_with fail
  refine (alive_calls _).mono ?_
  rintro e w1 ⟨rfl, hbw⟩
  go_wp2_with fail
  refine (few_calls _ _ 30 _ (HS.out.keep (Same.below' hbw))).mono ?_
  rintro e w2 ⟨rfl, rfl⟩
  rw [f1.out]
  go_wp2_with fail
  refine (check_calls _ k r b).mono ?_
  rintro e w3 ⟨rfl, rfl⟩
  rw [f3.out]
  go_wp2_with fail
  refine (new_yes _ k r b f3).mono ?_
  rintro e w4 ⟨rfl, rfl⟩
  obtain ⟨χ, hI⟩ := ci_new hbw k r b
  obtain ⟨W5, hW5⟩ : ∃ W5, W5 = w3.alloc (.cells #[.int .i64 k, .int .i64 r, .int .i64 b, .slice none 0 0] 50) := ⟨_, rfl⟩
  obtain ⟨pb, hpb⟩ : ∃ pb, pb = w3.heap.size := ⟨_, rfl⟩
  rw [← hW5] at hI ⊢
  rw [← hpb] at hI ⊢
  clear hW5 hpb hbw
  go_wp2_with fail
  refine (new_yes _ k r b f3).mono ?_
  rintro e w4 ⟨rfl, rfl⟩
  obtain ⟨χ2, hI2, hJ2⟩ := ci_new2 hI
  obtain ⟨W6, hW6⟩ : ∃ W6, W6 = W5.alloc (.cells #[.int .i64 k, .int .i64 r, .int .i64 b, .slice none 0 0] 50) := ⟨_, rfl⟩
  obtain ⟨pd, hpd⟩ : ∃ pd, pd = W5.heap.size := ⟨_, rfl⟩
  rw [← hW6] at hI2 hJ2 ⊢
  rw [← hpd] at hJ2 ⊢
  clear hW6 hpd hI
  go_wp2
  go_loopw [51] (fun i wr => ∃ (j : Nat) (χ : Col) (l : List (List Int)), j ≤ s.length ∧ i = .int .i64 j ∧ CI 1 w pb χ k r b l wr ∧ CI 3 w pd χ k r b l wr ∧ l.length ≤ 2 * j ∧ (l.length : Int) ≤ b ∧ Hid (∀ x ∈ l, x.length ≤ 40)) (fun i _ => s.length - (intOf i).toNat)
  case atStart => exact ⟨0, χ2, [], by omega, rfl, hI2, hJ2, by simp, by have := F3.out; simp; omega, fun x hx => by simp at hx⟩
  case round =>
    clear hI2 hJ2
    obtain ⟨j, χ, l, hj, rfl, hI, hJ, hlj, hlb, HL40⟩ := hrel
    obtain ⟨wo, rfl⟩ : ∃ wo, wo = wr := ⟨_, rfl⟩
    have F3' := F3.out
    by_cases hlt : j < s.length
    · obtain ⟨b1, o1, x, rfl, hc1, hx0⟩ := HS.out.getS j hlt
      have hc1' := below_cellA hI.2.1 hc1
      have hx40 := F1.out.1 _ (List.getElem_mem hlt)
      obtain ⟨sj, hsj⟩ : ∃ sj, sj = s[j] := ⟨_, rfl⟩
      rw [← hsj] at hx0 hx40
      obtain ⟨X, cx, rfl, -⟩ := id hx0
      have HX0 := Lib.hid hx0
      clear hc1 hsj hx0
      have hwr : IntKind.i64.wrap (b - (l.length : Int)) = b - l.length := by rw [IntKind.wrap_i64]; omega
      go_wp2_with fail
      refine (left_calls _ pb hI.1 (by omega) (by omega)).mono ?_
      rintro e w6 ⟨rfl, hd6⟩
      have I6 := hI.step (quiet_below hd6)
      have J6 := hJ.step (quiet_below hd6)
      clear hI hJ
      by_cases hno : askM k r b l sj live = 0
      · have hleft := askM_left hno
        obtain ⟨L, hL⟩ : ∃ L, L = l ++ [sj] := ⟨_, rfl⟩
        have hLl : l.length + 1 = L.length := by rw [hL]; simp
        have HL := Lib.hid hL
        have HL41 : Hid (∀ x ∈ L, x.length ≤ 40) := by
          intro x hx
          rw [hL] at hx
          rcases List.mem_append.1 hx with h | h
          · exact HL40.out x h
          · rw [List.mem_singleton.1 h]; exact hx40
        have HNO := Lib.hid hno
        have hN1 : L.length ≤ l.length + 1 := by omega
        have hN2 : l.length + 1 ≤ L.length := by omega
        clear hno hL hLl
        go_wp2_with fail
        refine (ask_yes _ pb _ sj live I6.1 (by omega) (by omega) (by omega) (I6.args HX0.out) (by omega) hlr HNO.out).mono ?_
        rintro e w7 ⟨rfl, hq⟩
        rw [← HL.out] at hq
        obtain ⟨χ7, I7, J7⟩ := CI.ask1 I6 J6 hq
        clear hq I6 J6
        go_wp2_with fail
        refine (left_calls _ pb I7.1 (by omega) (by omega)).mono ?_
        rintro e w8 ⟨rfl, hd8⟩
        have I8 := I7.step (quiet_below hd8)
        have J8 := J7.step (quiet_below hd8)
        have heq : ((b - (L.length : Int)) == b - (l.length : Int) - 1) = true := by rw [beq_iff_eq]; omega
        clear I7 J7
        have hwr2 : IntKind.i64.wrap (b - (l.length : Int) - 1) = b - l.length - 1 := by rw [IntKind.wrap_i64]; omega
        have hb2 : (L.length : Int) ≤ b := by omega
        go_wp2_with fail
        refine (ask_yes _ pd _ sj live J8.1 (by omega) (by omega) (by omega) (J8.args HX0.out) (by omega) hlr HNO.out).mono ?_
        rintro e w9 ⟨rfl, hq⟩
        rw [← HL.out] at hq
        obtain ⟨χ9, I9, J9⟩ := CI.ask3 I8 J8 hq
        clear hq I8 J8
        by_cases hno2 : askM k r b L sj live = 0
        · have hlen : (sj.length : Int) ≤ r := by rw [HL.out] at hno2; exact askM_again hno2
          have hleft2 := askM_left hno2
          obtain ⟨L2, hL2⟩ : ∃ L2, L2 = L ++ [sj] := ⟨_, rfl⟩
          have hM1 : L2.length ≤ L.length + 1 := by rw [hL2]; simp
          have hM2 : L.length + 1 ≤ L2.length := by rw [hL2]; simp
          have HL2 := Lib.hid hL2
          have HL42 : Hid (∀ x ∈ L2, x.length ≤ 40) := by
            intro x hx
            rw [hL2] at hx
            rcases List.mem_append.1 hx with h | h
            · exact HL41.out x h
            · rw [List.mem_singleton.1 h]; exact hx40
          have HNO2 := Lib.hid hno2
          clear hno2 hL2
          go_wp2_with fail
          refine (ask_yes _ pb _ sj live I9.1 (by omega) (by omega) (by omega) (I9.args HX0.out) (by omega) hlr HNO2.out).mono ?_
          rintro e w10 ⟨rfl, hq⟩
          rw [← HL2.out] at hq
          obtain ⟨χ10, I10, J10⟩ := CI.ask1 I9 J9 hq
          clear hq I9 J9
          go_wp2_with fail
          refine (ask_yes _ pd _ sj live J10.1 (by omega) (by omega) (by omega) (J10.args HX0.out) (by omega) hlr HNO2.out).mono ?_
          rintro e w11 ⟨rfl, hq⟩
          rw [← HL2.out] at hq
          obtain ⟨χ11, I11, J11⟩ := CI.ask3 I10 J10 hq
          clear hq I10 J10
          go_wp2
          exact ⟨⟨j + 1, χ11, L2, hlt, by go_num, I11, J11, by omega, by omega, HL42⟩, by simp [intOf]; omega⟩
        · have HNO2 : Hid (askM k r b L sj live ≠ 0) := hno2
          clear hno2
          go_wp2_with fail
          refine (ask_no _ pb _ sj live I9.1 (by omega) (by omega) (by omega) (I9.args HX0.out) hlr HNO2.out).mono ?_
          rintro e w10 ⟨rfl, hd10⟩
          have hq0 := HNO2.out
          obtain ⟨q, hq⟩ : ∃ q, q = askM k r b L sj live := ⟨_, rfl⟩
          rw [← hq] at hq0 ⊢
          have gq : (q == 0) = false := by simpa using hq0
          have I10 := I9.step (quiet_below hd10)
          have J10 := J9.step (quiet_below hd10)
          clear hq I9 J9
          go_wp2
          exact ⟨⟨j + 1, χ9, L, hlt, by go_num, I10, J10, by omega, by omega, HL41⟩, by simp [intOf]; omega⟩
      · have HNO : Hid (askM k r b l sj live ≠ 0) := hno
        clear hno
        go_wp2_with fail
        refine (ask_no _ pb _ sj live I6.1 (by omega) (by omega) (by omega) (I6.args HX0.out) hlr HNO.out).mono ?_
        rintro e w7 ⟨rfl, hd7⟩
        have hq0 := HNO.out
        obtain ⟨q, hq⟩ : ∃ q, q = askM k r b l sj live := ⟨_, rfl⟩
        rw [← hq] at hq0 ⊢
        have gq : (q == 0) = false := by simpa using hq0
        have gq2 : (q != 0) = true := by simpa using hq0
        have I7 := I6.step (quiet_below hd7)
        have J7 := J6.step (quiet_below hd7)
        have hwr2 : IntKind.i64.wrap (b - (l.length : Int) - 1) = b - l.length - 1 := by rw [IntKind.wrap_i64]; omega
        have heq : ((b - (l.length : Int)) == b - (l.length : Int) - 1) = false := by rw [beq_eq_false_iff_ne]; omega
        clear hq I6 J6
        go_wp2_with fail
        refine (left_calls _ pb I7.1 (by omega) (by omega)).mono ?_
        rintro e w8 ⟨rfl, hd8⟩
        have I8 := I7.step (quiet_below hd8)
        have J8 := J7.step (quiet_below hd8)
        clear I7 J7
        go_wp2_with fail
        refine (left_calls _ pb I8.1 (by omega) (by omega)).mono ?_
        rintro e w9 ⟨rfl, hd9⟩
        have I9 := I8.step (quiet_below hd9)
        have J9 := J8.step (quiet_below hd9)
        clear I8 J8
        go_wp2
        exact ⟨⟨j + 1, χ, l, hlt, by go_num, I9, J9, by omega, by omega, HL40⟩, by simp [intOf]; omega⟩
    · have hje : j = s.length := by omega
      go_wp2_with fail
      refine (told_calls _ pb 1000 (cO := 5) (cI := 100) hI.1.1 (by omega) (fun x hx => by have := HL40.out x hx; omega) (by omega)).mono ?_
      rintro e w6 ⟨v10, χ10, rfl, x10, h10, hb10⟩
      rw [List.take_of_length_le (by simp; omega)] at h10
      have I6 := hI.color hb10 x10
      have J6 := hJ.color hb10 x10
      obtain ⟨A10, c10, rfl⟩ := h10.isII
      have H10 := Lib.hid h10
      clear hb10 x10 hI hJ h10
      go_wp2_with fail
      refine (told_calls _ pd 1000 (cO := 6) (cI := 300) J6.1.1 (by omega) (fun x hx => by have := HL40.out x hx; omega) (by omega)).mono ?_
      rintro e w7 ⟨v12, χ12, rfl, x12, h12, hb12⟩
      rw [List.take_of_length_le (by simp; omega)] at h12
      have hBe := (I6.color hb12 x12).2.1
      obtain ⟨A12, c12, rfl⟩ := h12.isII
      have H12 := Lib.hid h12
      have H11 := Lib.hid (OwnII.keep (χ' := χ12) (w' := w7) H10.out (fun b hb _ => ⟨x12 b hb, hb12.block b hb⟩))
      clear hb12 x12 h12 I6 J6 H10
      go_wp2
      go_loopw [116] (fun i wr => ∃ (n : Nat) (d : Nat), n ≤ l.length ∧ i = .int .i64 n ∧ wr = w7.drewN d) (fun i _ => l.length - (intOf i).toNat)
      case atStart => exact ⟨0, 0, by omega, rfl, rfl⟩
      case round =>
        obtain ⟨n, dd, hn, rfl, rfl⟩ := hrel
        by_cases hlt : n < l.length
        · obtain ⟨v1, n1, -, n3⟩ := H11.out
          obtain ⟨v2, m1, -, m3⟩ := H12.out
          obtain ⟨s2, es2, hO⟩ := n3 n hlt
          obtain ⟨t2, et2, hP⟩ := m3 n hlt
          obtain ⟨As, cs, rfl⟩ := owns_form hO.1
          obtain ⟨Bs, ds, rfl⟩ := owns_form hP.1
          obtain ⟨-, (⟨e, h0⟩ | ⟨gn, cn2, cur, e, -⟩)⟩ := id n1
          · omega
          obtain ⟨-, (⟨e2, h0⟩ | ⟨gm, cm2, cur2, e2, -⟩)⟩ := id m1
          · omega
          cases e
          cases e2
          have hcn := n1.cells (g := gn) rfl n _ es2
          have hcm := m1.cells (g := gm) rfl n _ et2
          rw [add0] at hcn hcm
          have h40 := HL40.out _ (List.getElem_mem hlt)
          have hl1 := isI_owns hO.1 (by omega) hO.2
          have hl2 := isI_owns hP.1 (by omega) hP.2
          have HS2 : Hid (∀ nn, Calls Try.prog 16 #[.slice As l[n].length cs, .slice Bs l[n].length ds] (w7.drewN (dd + nn)) fun e w'' => e = .returned (.bool true) ∧ ∃ mm, w'' = w7.drewN (dd + mm)) := fun nn => by
            refine (sameInts_self (w7.drewN (dd + nn)) _ _ l[n] (IsI.keep hl1 (Same.below' (below_drewN _ _ _))) (IsI.keep hl2 (Same.below' (below_drewN _ _ _)))).mono ?_
            rintro e w' ⟨rfl, mm, rfl⟩
            exact ⟨rfl, nn + mm, by rw [World.drewN_drewN, Nat.add_assoc]⟩
          clear n1 n3 m1 m3 hO hP es2 et2 hl1 hl2
          go_wp2
          go_quiet ((go_at_call 16; exact HS2.out _))
          go_wp2
          exact ⟨⟨n + 1, _, hlt, by go_num, rfl⟩, by simp [intOf]; omega⟩
        · go_wp2
          go_ret
          exact ⟨rfl, hBe.trans (below_drewN _ _ _)⟩
theorem asks_law (w : World) (v : Value) (k r b : Int) (s : List (List Int)) (live : Int) (_ : (Lit.int .i64 k).wf = true) (_ : (Lit.int .i64 r).wf = true) (_ : (Lit.int .i64 b).wf = true) (hs : IsII 0 0 (fun _ => 0) w v s) (hl : (Lit.int .i64 live).wf = true) :
    Calls Try.prog 6 #[.int .i64 k, .int .i64 r, .int .i64 b, v, .int .i64 live] w fun e w' => e = .returned (.bool true) ∧ Below w.heap.size w w' := by
  by_cases f : fewM s 30 = true
  · rcases checkM_or k r b with h | h
    · exact asks_yes w k r b v s live hs (lit_i64 hl) f h
    · exact asks_no w k r b v s live hs (.inr ⟨f, h⟩)
  · exact asks_no w k r b v s live hs (.inl (by simpa using f))
end Go.Proofs.Ytlaohilchcjffaa
