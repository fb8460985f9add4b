import Derived.Test.YtpchodnknkdlgaaInLH
namespace Go.Proofs.Ytpchodnknkdlgaa
open Go.RowKit
attribute [local go_sem] World.cell?_alloc_some frozen_alloc_some

/-! InferSums. -/
set_option maxRecDepth 100000 in
set_option maxHeartbeats 4000000 in
theorem sums_no (w : World) (v u : Value) (s : List (List Int)) (more : List Int) (hs : IsII 0 0 (fun _ => 0) w v s) (hm : IsI 0 (fun _ => 0) w u more)
    (hno : Hid (fewM s 7 = false ∨ (fewM s 7 = true ∧ 20 < more.length) ∨ (fewM s 7 = true ∧ more.length ≤ 20 ∧ rightM 0 more = false))) :
    Calls Try.prog 5 #[v, u] w fun e w' => e = .returned (.bool true) ∧ Below w.heap.size w w' := by
  obtain ⟨A, c, rfl, -, -, -, -⟩ := id hs
  obtain ⟨Am, cm, rfl, -, -, -, -⟩ := id hm
  have HS := Lib.hid hs
  have HM := Lib.hid hm
  clear hs hm
  go_enter Try.func5, Try.ntmps5
  go_wp2_with fail
  refine (alive_calls _).mono ?_
  rintro e w1 ⟨rfl, hbw⟩
  have HS1 := Lib.hid (HS.out.keep (Same.below' hbw))
  have HM1 := Lib.hid (IsI.keep HM.out (Same.below' hbw))
  go_wp2_with fail
  refine (few_calls _ _ 7 _ HS1.out).mono ?_
  rintro e w2 ⟨rfl, rfl⟩
  rcases hno.out with h | ⟨h, h2⟩ | ⟨h, h2, h3⟩
  · rw [h]
    clear hno
    go_wp2
    go_ret
    exact ⟨rfl, hbw⟩
  · rw [h]
    clear hno
    go_wp2
    go_ret
    exact ⟨rfl, hbw⟩
  · rw [h]
    have HR := Lib.hid h3
    clear hno h h3
    go_wp2_with fail
    refine (right_calls _ _ _ HM1.out).mono ?_
    rintro e w4 ⟨rfl, rfl⟩
    rw [HR.out]
    go_wp2
    go_ret
    exact ⟨rfl, hbw⟩
theorem flat_len_app {l : List (List Int)} {x : List Int} : (l ++ [x]).flatten.length = l.flatten.length + x.length := by simp
theorem cell_two_new (w : World) (x y : Value) (t : TypeId) : ∀ j u, [x, y][j]? = some u → (w.alloc (.cells #[x, y] t)).cell? ((⟨w.heap.size, 0, none⟩ : Addr).add j) = some u := by
  intro j u hj
  match j, hj with
  | 0, hj => simp at hj; subst hj; rw [add0]; simp
  | 1, hj => simp at hj; subst hj; rw [add0]; simp
  | j + 2, hj => simp at hj
set_option maxRecDepth 100000 in
set_option maxHeartbeats 16000000 in
theorem sums_yes (w : World) (v u : Value) (s : List (List Int)) (more : List Int) (hs : IsII 0 0 (fun _ => 0) w v s) (hm : IsI 0 (fun _ => 0) w u more)
    (f1 : Hid (fewM s 7 = true)) (f2 : more.length ≤ 20) (f3 : Hid (rightM 0 more = true)) :
    Calls Try.prog 5 #[v, u] w fun e w' => e = .returned (.bool true) ∧ Below w.heap.size w w' := by
  obtain ⟨A, c, rfl, s1, s2, s3, -⟩ := id hs
  obtain ⟨Am, cm, rfl, m1, m2, m3, -⟩ := id hm
  unfold maxLen at s2 m2
  have HS := Lib.hid hs
  have HM := Lib.hid hm
  have F1 := Lib.hid (fewM_iff f1.out)
  have hl7 : s.length ≤ 7 := by have := F1.out.2; omega
  clear hs hm
  obtain ⟨i0, hi0, hz0, hz1, hz2⟩ := info_parts infoII
  obtain ⟨j0, hj0, hy0, hy1, hy2⟩ := info_parts infoI
  go_enter Try.func5, Try.ntmps5
  go_wp2_with fail
  refine (alive_calls _).mono ?_
  rintro e w1 ⟨rfl, hbw⟩
  go_wp2_with fail
  refine (few_calls _ _ 7 _ (HS.out.keep (Same.below' hbw))).mono ?_
  rintro e w2 ⟨rfl, rfl⟩
  rw [f1.out]
  go_wp2_with fail
  refine (right_calls _ _ _ (IsI.keep HM.out (Same.below' hbw))).mono ?_
  rintro e w3 ⟨rfl, rfl⟩
  rw [f3.out]
  obtain ⟨w4, hw4⟩ : ∃ w4, w4 = w3 := ⟨_, rfl⟩
  rw [← hw4] at hbw ⊢
  clear hw4
  go_wp2
  go_loopw [40] (fun i wr => ∃ (j : Nat), j ≤ s.length ∧ i = .int .i64 j ∧ Hid (∀ x ∈ s.take j, rightM 0 x = true ∧ x.length ≤ 20) ∧ wr = w4) (fun i _ => s.length - (intOf i).toNat)
  case atStart => exact ⟨0, by omega, rfl, fun x hx => by simp at hx, rfl⟩
  case round =>
    obtain ⟨j, hj, rfl, HL, rfl⟩ := hrel
    by_cases hlt : j < s.length
    · obtain ⟨b1, o1, x, rfl, hc1, hx0⟩ := HS.out.getS j hlt
      have hc1' := below_cellA hbw hc1
      have HT : Hid (s.take (j + 1) = s.take j ++ [s[j]]) := List.take_succ_eq_append_getElem hlt
      obtain ⟨sj, hsj⟩ : ∃ sj, sj = s[j] := ⟨_, rfl⟩
      rw [← hsj] at hx0 HT
      obtain ⟨X, cx, rfl, -⟩ := id hx0
      have HX0 := Lib.hid (IsI.keep hx0 (Same.below' hbw))
      clear hc1 hsj hx0
      by_cases hr : rightM 0 sj = true
      · have HR := Lib.hid hr
        clear hr
        go_wp2_with fail
        refine (right_calls _ _ _ HX0.out).mono ?_
        rintro e w5 ⟨rfl, rfl⟩
        rw [HR.out]
        by_cases h20 : sj.length ≤ 20
        · have HL2 : Hid (∀ x ∈ s.take (j + 1), rightM 0 x = true ∧ x.length ≤ 20) := by
            intro x hx
            rw [HT.out] at hx
            rcases List.mem_append.1 hx with h | h
            · exact HL.out x h
            · rw [List.mem_singleton.1 h]; exact ⟨HR.out, h20⟩
          go_wp2
          exact ⟨⟨j + 1, hlt, by go_num, HL2, trivial⟩, by simp [intOf]; omega⟩
        · go_wp2
          go_ret
          exact ⟨rfl, hbw⟩
      · have HR : Hid (rightM 0 sj = false) := by show _ = _; simpa using hr
        clear hr
        go_wp2_with fail
        refine (right_calls _ _ _ HX0.out).mono ?_
        rintro e w5 ⟨rfl, rfl⟩
        rw [HR.out]
        go_wp2
        go_ret
        exact ⟨rfl, hbw⟩
    · have hje : j = s.length := by omega
      subst hje
      rw [List.take_length] at HL
      have hf := flat_len (m := 20) (l := s) fun x hx => (HL.out x hx).2
      have hm7 := Nat.mul_le_mul_right 20 hl7
      have hf140 : s.flatten.length ≤ 140 := by omega
      have hmore := Lib.hid (exposed_more s more)
      have hrev := Lib.hid (exposed_rev (s ++ [more]))
      have htw := Lib.hid (exposed_twins s)
      have hR8 : Hid (∀ x ∈ s ++ [more], rightM 0 x = true) := by
        intro x hx
        rcases List.mem_append.1 hx with h | h
        · exact (HL.out x h).1
        · rw [List.mem_singleton.1 h]; exact f3.out
      have hF8 : (s ++ [more]).flatten.length ≤ 160 := by rw [flat_len_app]; omega
      clear hf hm7
      go_wp2_with fail
      refine (exp_bool_calls _ _ s (HS.out.keep (Same.below' hbw)) (by omega) (by omega) fun x hx => (HL.out x hx).1).mono ?_
      rintro e w5 ⟨n1, e1, rfl, hn1, he1, hb5⟩
      have B5 := hbw.trans (hb5.mono hbw.size)
      rw [← hn1, ← he1] at hmore
      clear hn1 he1 hb5
      obtain ⟨vs, hvl, hV, hvs⟩ := isV_of HS.out
      have HVS := Lib.hid hvs
      have HM0 := HM
      have o5 := World.ownsRow_made (base := w.heap.size) (e := 24) (size := 1) w5 #[] 0 B5.size (Nat.zero_le _) rfl
      have hV5 : IsL 1 rV 0 (fun _ => 0) (w5.alloc (.cells #[] 24)) (.slice A s.length c) vs := IsL.keep (D := fun _ => True) (by omega) (rV_on _) trivial hV (Same.below' (B5.alloc B5.size _))
      have T0 : True := trivial
      have hv7 : vs.length ≤ 7 := by omega
      have HVL := Lib.hid hvl
      clear hV hvs hvl
      go_wp2_with (first
        | (at_builtin; clear T0; refine wpList_append_L 22 24 i0 _ Try.underlying22 hi0 hz0 hz1 hz2 rfl (by omega) (by omega) (fun x => [x]) (fun _ _ _ _ h => h.1) rV_one rfl _ _ rfl w.heap.size _ 0 [] rfl o5 _ vs rfl hV5 (by omega) (by have := B5.size; simp; omega) ?_; intro v6 w6 ho6 hg6 hat6
           rw [Nat.zero_add, List.nil_append, flat_one, HVL.out] at ho6
           obtain ⟨A6, c6, rfl⟩ := owns_form ho6
           have B6 := (B5.alloc B5.size (.cells #[] 24)).trans (own_grownA o5 hg6 (N := w.heap.size) (Nat.le_refl _) (by have := B5.size; simp; omega))
           have E6 : Hid (∀ i (hi : i < s.length), ∃ x, vs[i]? = some x ∧ IsI 0 (colV (.slice A6 s.length c6)) w6 x s[i]) := fun i hi => (HVS.out i hi).imp fun x hx => ⟨hx.1, RowsAt.old ho6 (Nat.le_refl _) B6 hx.2⟩
           have X6 : Hid (IsI 0 (colV (.slice A6 s.length c6)) w6 (.slice Am more.length cm) more) := RowsAt.old ho6 (Nat.le_refl _) B6 HM.out
           have s6 := B6.size
           clear hg6 hat6 hV5 o5)
        | (at_builtin; clear HM0; refine wpList_append_own_at _ rfl _ _ 22 rfl w.heap.size 24 i0 _ 1 24 Try.underlying22 hi0 hz0 hz1 hz2 rfl (by decide) _ _ _ rfl (ho6.alloc _) ⟨_, 0, none⟩ 1 1 [.slice Am more.length cm] rfl rfl (cell_one_new _ _ _) (by simp [Value.oneCell']) (by unfold maxLen; omega) (by omega) (by simp; omega) ?_; intro v7 w7 ho7 hg7 _ hat7
           obtain ⟨R7, b7⟩ := RowsAt.push ho6 E6.out X6.out ho7 hg7 hat7 B6.size
           have B7 := B6.trans b7
           have I7 := R7.isII (by simp; omega)
           clear ho6 ho7 hg7 hat7 E6 X6 b7 R7)
        | (go_at_call 8; refine (exp_bool_calls _ _ (s ++ [more]) I7 (by simp; omega) (by omega) hR8.out).mono ?_; rintro e w8 ⟨n2, e2, rfl, hn2, he2, hb8⟩
           have B8 := B7.trans (hb8.mono B7.size)
           rw [← hn2, ← he2] at hmore
           have HN2 := Lib.hid hn2
           have HE2 := Lib.hid he2
           clear I7 hb8 B7 s6 B6 hn2 he2))
      have R9 := RowsAt.one HM.out B8
      have B9 := B8.alloc B8.size (.cells #[.slice Am more.length cm] 24)
      have hwl : IntKind.i64.wrap ((s.length : Int) - 1) = (s.length : Int) - 1 := by rw [IntKind.wrap_i64]; omega
      obtain ⟨w9, hw9⟩ : ∃ w9, w9 = w8.alloc (.cells #[.slice Am more.length cm] 24) := ⟨_, rfl⟩
      rw [← hw9] at R9
      rw [← hw9] at B9 ⊢
      clear hw9 B8
      go_loopw [11, 12] (fun a i wr => ∃ (q : Nat), q ≤ s.length ∧ i = .int .i64 ((s.length : Int) - 1 - q) ∧ Hid (RowsAt w.heap.size wr a ([more] ++ s.reverse.take q)) ∧ Below w.heap.size w wr) (fun _ i _ => (intOf i + 1).toNat)
      case atStart => exact ⟨0, by omega, by simp, R9, B9⟩
      case round =>
        obtain ⟨q, hq, rfl, HR, hb⟩ := hrel
        clear R9 B9
        obtain ⟨wo, rfl⟩ : ∃ wo, wo = wr := ⟨_, rfl⟩
        by_cases hlt : q < s.length
        · obtain ⟨p, hp⟩ : ∃ p : Nat, (s.length : Int) - 1 - q = p := ⟨s.length - 1 - q, by omega⟩
          rw [hp]
          have hpl : p < s.length := by omega
          obtain ⟨b1, o1, x, rfl, hc1, hx0⟩ := HS.out.getS p hpl
          have hc1' := below_cellA hb hc1
          have HT : Hid (s.reverse.take (q + 1) = s.reverse.take q ++ [s[p]]) := by
            show _ = _
            rw [List.take_succ_eq_append_getElem (by simpa using hlt), List.getElem_reverse]
            congr 3; omega
          obtain ⟨sj, hsj⟩ : ∃ sj, sj = s[p] := ⟨_, rfl⟩
          rw [← hsj] at hx0 HT
          obtain ⟨X, cx, rfl, -⟩ := id hx0
          obtain ⟨L, hL⟩ : ∃ L, L = [more] ++ s.reverse.take q := ⟨_, rfl⟩
          have hLl : L.length = q + 1 := by rw [hL]; simp; omega
          have HLE := Lib.hid hL
          rw [← hL] at HR
          obtain ⟨vr, r1, r2⟩ := HR.out
          obtain ⟨Ar, cr, rfl⟩ := owns_form r1
          have HX := RowsAt.old r1 (Nat.le_refl _) hb hx0
          have hws := hb.size
          have hL8 : L.length ≤ 8 := by omega
          have HLl := Lib.hid hLl
          clear hc1 hsj hx0 hL hLl
          go_wp2_with (at_builtin; refine wpList_append_own_at _ rfl _ _ 22 rfl w.heap.size 24 i0 _ 1 24 Try.underlying22 hi0 hz0 hz1 hz2 rfl (by decide) _ _ _ rfl (r1.alloc _) ⟨_, 0, none⟩ 1 1 [.slice X sj.length cx] rfl rfl (cell_one_new _ _ _) (by simp [Value.oneCell']) (by unfold maxLen; omega) (by omega) (by simp; omega) ?_; intro v7 w7 ho7 hg7 _ hat7)
          obtain ⟨R7, b7⟩ := RowsAt.push r1 r2 HX ho7 hg7 hat7 hws
          rw [HLE.out, List.append_assoc, ← HT.out] at R7
          have hwp : IntKind.i64.wrap ((p : Int) - 1) = (p : Int) - 1 := by rw [IntKind.wrap_i64]; omega
          exact ⟨⟨q + 1, hlt, by congr 1; omega, R7, hb.trans b7⟩, by simp [intOf]⟩
        · have hqe : q = s.length := by omega
          subst hqe
          rw [List.take_of_length_le (by simp)] at HR
          have hre : [more] ++ s.reverse = (s ++ [more]).reverse := by simp
          rw [hre] at HR
          have I9 := HR.out.isII (by simp; omega)
          have hRf : (s ++ [more]).reverse.flatten.length ≤ 1000 := by
            have := flat_len (m := 20) (l := (s ++ [more]).reverse) fun x hx => by
              rw [List.mem_reverse] at hx
              rcases List.mem_append.1 hx with h | h
              · exact (HL.out x h).2
              · rw [List.mem_singleton.1 h]; exact f2
            have h2 := Nat.mul_le_mul_right 20 (show (s ++ [more]).reverse.length ≤ 8 by simp; omega)
            omega
          go_wp2_with fail
          refine (exp_bool_calls _ _ _ I9 (by simp; omega) hRf fun x hx => hR8.out x (List.mem_reverse.1 hx)).mono ?_
          rintro e w10 ⟨n3, e3, rfl, hn3, he3, hb10⟩
          obtain rfl : n3 = n2 := by rw [hn3, hrev.out]; exact HN2.out.symm
          obtain rfl : e3 = e2 := by rw [he3, hrev.out]; exact HE2.out.symm
          have B10 := hb.trans (hb10.mono hb.size)
          have hmo := hmore.out
          have gn : (n3 != n3) = false := by simp
          have ge : (e3 != e3) = false := by simp
          have hcond : (e1 = false) ∨ (e1 = true ∧ e3 = true ∧ ¬ n1 < n3) := by
            cases h1 : e1
            · exact .inl rfl
            · have := hmo h1
              exact .inr ⟨rfl, this.1, by omega⟩
          clear hn3 he3 hb10 I9 hRf HR hmo
          have hwp2 : ∀ x : Int, 0 < x → x ≤ 1073741824 → IntKind.i64.wrap (2 * x) = 2 * x ∧ IntKind.i64.wrap (2 * x + 1) = 2 * x + 1 := fun x h1 h2 => ⟨by rw [IntKind.wrap_i64]; omega, by rw [IntKind.wrap_i64]; omega⟩
          have R11 := RowsAt.nil (W := w10) (base := w.heap.size) B10.size
          have B11 := B10.alloc B10.size (.cells #[] 24)
          clear B10
          rcases hcond with rfl | ⟨rfl, rfl, h3⟩
          all_goals
            go_wp2
            go_loopw [15, 112] (fun a i wr => ∃ (k : Nat), k ≤ s.length ∧ i = .int .i64 k ∧ Hid (RowsAt w.heap.size wr a ((s.take k).map twinL)) ∧ Below w.heap.size w wr) (fun _ i _ => s.length - (intOf i).toNat)
            case atStart => exact ⟨0, by omega, rfl, R11, B11⟩
            case round =>
              obtain ⟨k, hk, rfl, HR, hb⟩ := hrel
              clear R11 B11
              obtain ⟨wo, rfl⟩ : ∃ wo, wo = wr := ⟨_, rfl⟩
              by_cases hlt : k < s.length
              · obtain ⟨b1, o1, x, rfl, hc1, hx0⟩ := HS.out.getS k hlt
                have hc1' := below_cellA hb hc1
                have HK := HL.out _ (List.getElem_mem hlt)
                have HT : Hid ((s.take (k + 1)).map twinL = (s.take k).map twinL ++ [twinL s[k]]) := by
                  show _ = _
                  rw [List.take_succ_eq_append_getElem hlt, List.map_append]; rfl
                obtain ⟨sj, hsj⟩ : ∃ sj, sj = s[k] := ⟨_, rfl⟩
                rw [← hsj] at hx0 HT HK
                obtain ⟨X, cx, rfl, -⟩ := id hx0
                have HX0 := Lib.hid (IsI.keep hx0 (Same.below' hb))
                have HPos := Lib.hid (rightM_pos 0 sj HK.1)
                have hs20 := HK.2
                obtain ⟨L, hL⟩ : ∃ L, L = (s.take k).map twinL := ⟨_, rfl⟩
                have hLl : L.length = k := by rw [hL]; simp; omega
                have hL8 : L.length ≤ 7 := by omega
                have HLk := Lib.hid hLl
                rw [← hL] at HR HT
                have hbs := hb.size
                clear hc1 hx0 hsj HK hL hLl
                go_wp2
                go_loopw [18, 119] (fun a i wr => ∃ q : Nat, q ≤ sj.length ∧ i = .int .i64 q ∧ Hid (wr.ownsRow wo.heap.size 3 1 a (2 * q) ((twinL (sj.take q)).map (Value.int .i64))) ∧ Below wo.heap.size wo wr) (fun _ i _ => sj.length - (intOf i).toNat)
                case atStart => exact ⟨0, by omega, rfl, World.ownsRow_made (size := 1) wo #[] 0 (Nat.le_refl _) (Nat.zero_le _) rfl, (Below.refl _ _).alloc (Nat.le_refl _) _⟩
                case round =>
                  obtain ⟨q, hq, rfl, HO, hb2⟩ := hrel
                  have hb2s := hb2.size
                  by_cases hlq : q < sj.length
                  · obtain ⟨b2, o2, rfl, hc2⟩ := HX0.out.getI q hlq
                    have hc2' := below_cellA hb2 hc2
                    have hx := HPos.out _ (List.getElem_mem hlq)
                    have HT2 : Hid (twinL (sj.take (q + 1)) = twinL (sj.take q) ++ [2 * sj[q], 2 * sj[q] + 1]) := by
                      show _ = _
                      rw [List.take_succ_eq_append_getElem hlq, twinL_snoc]
                    obtain ⟨x, hxx⟩ : ∃ x, x = sj[q] := ⟨_, rfl⟩
                    rw [← hxx] at hc2' hx HT2
                    clear hc2 hxx
                    by_cases hbig : 1073741824 < x
                    · go_wp2
                      go_ret
                      exact ⟨rfl, hb.trans (hb2.mono hb.size)⟩
                    · obtain ⟨hw1, hw2⟩ := hwp2 x hx (by omega)
                      have o := HO.out
                      obtain ⟨A2, c2, rfl⟩ := owns_form o
                      go_wp2_with (at_builtin; refine wpList_append_own_at _ rfl _ _ 24 rfl wo.heap.size 3 j0 _ 1 8 Try.underlying24 hj0 hy0 hy1 hy2 rfl (by decide) _ _ _ rfl (o.alloc _) ⟨_, 0, none⟩ 2 2 [.int .i64 (2 * x), .int .i64 (2 * x + 1)] rfl rfl (cell_two_new _ _ _ _) (by simp [Value.oneCell']) (by unfold maxLen; omega) (by omega) (by simp; omega) ?_; intro v7 w7 ho7 hg7 _ hat7)
                      have b7 := push_base o hg7 (Nat.le_refl _) hb2s
                      exact ⟨⟨q + 1, hlq, by go_num, by show World.ownsRow _ _ _ _ _ _ _; rw [HT2.out, List.map_append]; exact ho7, hb2.trans b7⟩, by simp [intOf]; omega⟩
                  · have hqe : q = sj.length := by omega
                    subst hqe
                    rw [List.take_length] at HO
                    have o := HO.out
                    obtain ⟨A2, c2, rfl⟩ := owns_form o
                    obtain ⟨vr0, r0, -⟩ := HR.out
                    obtain ⟨vr, r1, r2⟩ := HR.out.keep hb2
                    obtain ⟨Ar, cr, rfl⟩ := owns_form r1
                    have HXI : IsI 0 (colV (.slice Ar L.length cr)) wr (.slice A2 (2 * sj.length) c2) (twinL sj) := by
                      refine isI_owns (by rw [twinL_len]; exact o) (by rw [twinL_len]; omega) fun b e => ?_
                      unfold colV
                      rw [if_neg]
                      intro e2
                      have h1 := (o.lt b e).1
                      have h2 := (r0.lt b e2).2
                      omega
                    have hb3 := hb.trans (hb2.mono hb.size)
                    have hb3s := hb3.size
                    clear hb2 hb r0
                    go_wp2_with (at_builtin; refine wpList_append_own_at _ rfl _ _ 22 rfl w.heap.size 24 i0 _ 1 24 Try.underlying22 hi0 hz0 hz1 hz2 rfl (by decide) _ _ _ rfl (r1.alloc _) ⟨_, 0, none⟩ 1 1 [.slice A2 (2 * sj.length) c2] rfl rfl (cell_one_new _ _ _) (by simp [Value.oneCell']) (by unfold maxLen; omega) (by omega) (by simp; omega) ?_; intro v7 w7 ho7 hg7 _ hat7)
                    obtain ⟨R7, b7⟩ := RowsAt.push r1 r2 HXI ho7 hg7 hat7 hb3s
                    rw [← HT.out] at R7
                    exact ⟨⟨k + 1, hlt, by go_num, R7, hb3.trans b7⟩, by simp [intOf]; omega⟩
              · have hke : k = s.length := by omega
                subst hke
                rw [List.take_length] at HR
                have I12 := HR.out.isII (by simp; omega)
                have hf12 : (s.map twinL).flatten.length ≤ 1000 := by
                  have := flat_len (m := 40) (l := s.map twinL) fun x hx => by
                    obtain ⟨y, hy, rfl⟩ := List.mem_map.1 hx
                    have := (HL.out y hy).2
                    rw [twinL_len]; omega
                  have h2 := Nat.mul_le_mul_right 40 (show (s.map twinL).length ≤ 7 by simp; omega)
                  omega
                have hr12 : ∀ x ∈ s.map twinL, rightM 0 x = true := fun x hx => by
                  obtain ⟨y, hy, rfl⟩ := List.mem_map.1 hx
                  exact twinL_right (HL.out y hy).1
                go_wp2_with fail
                refine (exp_bool_calls _ _ _ I12 (by simp; omega) hf12 hr12).mono ?_
                rintro e w12 ⟨n4, e4, rfl, -, he4, hb12⟩
                rw [htw.out] at he4
                subst he4
                have hb13 := hb.trans (hb12.mono hb.size)
                clear I12 hf12 hr12
                go_wp2
                go_ret
                exact ⟨rfl, hb13⟩
theorem sums_law (w : World) (v u : Value) (s : List (List Int)) (more : List Int) (hs : IsII 0 0 (fun _ => 0) w v s) (hm : IsI 0 (fun _ => 0) w u more) :
    Calls Try.prog 5 #[v, u] w fun e w' => e = .returned (.bool true) ∧ Below w.heap.size w w' := by
  by_cases h0 : fewM s 7 = true
  · by_cases h1 : more.length ≤ 20
    · by_cases h2 : rightM 0 more = true
      · exact sums_yes w v u s more hs hm h0 h1 h2
      · exact sums_no w v u s more hs hm (.inr (.inr ⟨h0, h1, by simpa using h2⟩))
    · exact sums_no w v u s more hs hm (.inr (.inl ⟨h0, by omega⟩))
  · exact sums_no w v u s more hs hm (.inl (by simpa using h0))
end Go.Proofs.Ytpchodnknkdlgaa
