import Derived.Test.YtpchodnknkdlgaaInLF
import Derived.Test.YtpchodnknkdlgaaInAM
namespace Go.Proofs.Ytpchodnknkdlgaa
open Go.RowKit
attribute [local go_sem] World.cell?_alloc_some frozen_alloc_some

/-! InferSafe. -/
theorem flat_len {m : Nat} : ∀ {l : List (List Int)}, (∀ x ∈ l, x.length ≤ m) → l.flatten.length ≤ l.length * m
  | [], _ => by simp
  | x :: l, h => by
    have h1 := flat_len (m := m) (l := l) fun y hy => h y (by simp [hy])
    have h2 := h x (by simp)
    rw [List.flatten_cons, List.length_append, List.length_cons, Nat.add_mul]; omega
theorem mostM_ge {a : List Int} {l : List (List Int)} : ∀ x ∈ l, sharedM a x ≤ mostM a l := by
  refine snoc_ind (P := fun l => ∀ x ∈ l, sharedM a x ≤ mostM a l) (fun x hx => by simp at hx) (fun l y ih => ?_) l
  intro x hx
  rw [mostM_snoc]
  rcases List.mem_append.1 hx with h | h
  · have := ih x h; omega
  · rw [List.mem_singleton.1 h]; omega
/-- What holds of what was told. -/
structure Safe (k r live : Int) (l : List (List Int)) : Prop where
  each : ∀ x ∈ l, rightM 0 x = true ∧ k ≤ x.length ∧ (x.length : Int) ≤ live - k ∧ x.length ≤ 40
  two : ∀ i j (hi : i < l.length) (hj : j < l.length), j < i → sharedM l[i] l[j] ≤ r
theorem Safe.push {k r b live : Int} {l : List (List Int)} {s : List Int} (h : Safe k r live l) (hs : s.length ≤ 40) (ha : askM k r b l s live = 0) : Safe k r live (l ++ [s]) := by
  unfold askM at ha
  split at ha
  · cases ha
  · split at ha
    · cases ha
    · split at ha
      · cases ha
      · split at ha
        · cases ha
        · rename_i h1 _ h3 h4
          have hr : rightM 0 s = true := by simpa using h1
          refine ⟨fun x hx => ?_, fun i j hi hj hji => ?_⟩
          · rcases List.mem_append.1 hx with h5 | h5
            · exact h.each x h5
            · rw [List.mem_singleton.1 h5]
              exact ⟨hr, by omega, by omega, hs⟩
          · have hjl : j < l.length := by simp at hi; omega
            rw [List.getElem_append_left hjl]
            by_cases hil : i < l.length
            · rw [List.getElem_append_left hil]; exact h.two i j hil hjl hji
            · have e : (l ++ [s])[i] = s := by
                have hie : i = l.length := by simp at hi; omega
                subst hie; simp
              rw [e]
              have := mostM_ge (a := s) _ (List.getElem_mem hjl)
              omega
theorem OwnII.is0 {c d : Nat} {χ : Col} {w : World} {v : Value} {xs : List (List Int)} (h : OwnII c d χ w v xs) (hl : xs.length ≤ 1000000) (hs : ∀ x ∈ xs, x.length ≤ 1000000) : IsII 0 0 (fun _ => 0) w v xs := by
  obtain ⟨vs, h1, -, h3⟩ := h
  refine IsL.of_owns (by omega) h1 (by omega) (fun _ _ => rfl) fun i hi => ?_
  obtain ⟨s, e, ho⟩ := h3 i hi
  have hii : i < vs.length := by
    rcases Nat.lt_or_ge i vs.length with h | h
    · exact h
    · rw [List.getElem?_eq_none h] at e; cases e
  refine ⟨s, ?_, isI_owns ho.1 (by have := hs _ (List.getElem_mem hi); omega) fun _ _ => rfl⟩
  rw [show i * 1 = i by omega, List.drop_eq_getElem_cons hii]
  have : vs[i] = s := by rw [List.getElem?_eq_getElem hii] at e; exact Option.some.inj e
  rw [this]; rfl
theorem exp_bool_calls (W : World) (v : Value) (sets : List (List Int)) {c d : Nat} {χ : Col} (h : IsII c d χ W v sets) (hl : sets.length ≤ 8) (ht : sets.flatten.length ≤ 1000) (hr : ∀ s ∈ sets, rightM 0 s = true) :
    Calls Try.prog 8 #[v] W fun e W' => ∃ n b, e = .returned (.tuple #[.int .i64 n, .bool b]) ∧ n = (exposedL sets).1 ∧ b = (exposedL sets).2 ∧ Below W.heap.size W W' :=
  (exposed_calls W v sets h hl ht hr (exp_bd sets hl)).mono fun _ _ ⟨h1, h2⟩ => ⟨_, _, h1, rfl, rfl, h2⟩
set_option maxRecDepth 100000 in
set_option maxHeartbeats 4000000 in
theorem safe_no (w : World) (k r b : Int) (v : Value) (s : List (List Int)) (live : Int) (hs : IsII 0 0 (fun _ => 0) w v s)
    (hno : Hid (fewM s 30 = false ∨ (fewM s 30 = true ∧ checkM k r b = 43))) :
    Calls Try.prog 4 #[.int .i64 k, .int .i64 r, .int .i64 b, v, .int .i64 live] w fun e w' => e = .returned (.bool true) ∧ Below w.heap.size w w' := by
  obtain ⟨A, c, rfl, -, -, -, -⟩ := id hs
  have HS := Lib.hid hs
  clear hs
  go_enter Try.func4, Try.ntmps4
  go_wp2_with fail
  refine (alive_calls _).mono ?_
  rintro e w1 ⟨rfl, hbw⟩
  have HS1 := Lib.hid (HS.out.keep (Same.below' hbw))
  go_wp2_with fail
  refine (few_calls _ _ 30 _ HS1.out).mono ?_
  rintro e w2 ⟨rfl, rfl⟩
  rcases hno.out with h | ⟨h, h2⟩
  · rw [h]
    go_wp2
    go_ret
    exact ⟨rfl, hbw⟩
  · rw [h]
    have HR := Lib.hid h2
    clear hno h2
    go_wp2_with fail
    refine (new_no _ k r b HR).mono ?_
    rintro e w4 ⟨rfl, rfl⟩
    go_wp2
    go_ret
    exact ⟨rfl, hbw⟩
set_option maxRecDepth 100000 in
set_option maxHeartbeats 16000000 in
theorem safe_yes (w : World) (k r b : Int) (v : Value) (s : List (List Int)) (live : Int) (hs : IsII 0 0 (fun _ => 0) w v s) (hlr : -9223372036854775808 ≤ live ∧ live ≤ 9223372036854775807)
    (f1 : Hid (fewM s 30 = true)) (f3 : Hid (checkM k r b = 0)) :
    Calls Try.prog 4 #[.int .i64 k, .int .i64 r, .int .i64 b, v, .int .i64 live] w fun e w' => e = .returned (.bool true) ∧ Below w.heap.size w w' := by
  obtain ⟨A, c, rfl, s1, s2, s3, -⟩ := id hs
  unfold maxLen at s2
  have HS := Lib.hid hs
  have F1 := Lib.hid (fewM_iff f1.out)
  have hl30 : s.length ≤ 30 := by have := F1.out.2; omega
  have F3 := Lib.hid (checkM_ok f3.out)
  clear hs
  go_enter Try.func4, Try.ntmps4
  go_wp2_with fail
  refine (alive_calls _).mono ?_
  rintro e w1 ⟨rfl, hbw⟩
  go_wp2_with fail
  refine (few_calls _ _ 30 _ (HS.out.keep (Same.below' hbw))).mono ?_
  rintro e w2 ⟨rfl, rfl⟩
  rw [f1.out]
  go_wp2_with fail
  refine (new_yes _ k r b f3).mono ?_
  rintro e w4 ⟨rfl, rfl⟩
  obtain ⟨χ, hI⟩ := ci_new hbw k r b
  obtain ⟨W5, hW5⟩ : ∃ W5, W5 = w2.alloc (.cells #[.int .i64 k, .int .i64 r, .int .i64 b, .slice none 0 0] 53) := ⟨_, rfl⟩
  obtain ⟨pb, hpb⟩ : ∃ pb, pb = w2.heap.size := ⟨_, rfl⟩
  rw [← hW5] at hI ⊢
  rw [← hpb] at hI ⊢
  clear hW5 hpb hbw
  go_wp2
  go_loopw [40] (fun i wr => ∃ (j : Nat) (χ : Col) (l : List (List Int)), j ≤ s.length ∧ i = .int .i64 j ∧ CI 1 w pb χ k r b l wr ∧ l.length ≤ j ∧ (l.length : Int) ≤ b ∧ Hid (Safe k r live l)) (fun i _ => s.length - (intOf i).toNat)
  case atStart => exact ⟨0, χ, [], by omega, rfl, hI, by simp, by have := F3.out; simp; omega, ⟨fun x hx => by simp at hx, fun i j hi => by simp at hi⟩⟩
  case round =>
    clear hI
    obtain ⟨j, χ, l, hj, rfl, hI, hlj, hlb, HL⟩ := hrel
    obtain ⟨wo, rfl⟩ : ∃ wo, wo = wr := ⟨_, rfl⟩
    have F3' := F3.out
    by_cases hlt : j < s.length
    · obtain ⟨b1, o1, x, rfl, hc1, hx0⟩ := HS.out.getS j hlt
      have hc1' := below_cellA hI.2.1 hc1
      have hx40 := F1.out.1 _ (List.getElem_mem hlt)
      obtain ⟨sj, hsj⟩ : ∃ sj, sj = s[j] := ⟨_, rfl⟩
      rw [← hsj] at hx0 hx40
      obtain ⟨X, cx, rfl, -⟩ := id hx0
      have HX0 := Lib.hid hx0
      clear hc1 hsj hx0
      by_cases hno : askM k r b l sj live = 0
      · have hleft := askM_left hno
        have HL2 : Hid (Safe k r live (l ++ [sj])) := HL.out.push hx40 hno
        have hLl : (l ++ [sj]).length = l.length + 1 := by simp
        obtain ⟨L, hL⟩ : ∃ L, L = l ++ [sj] := ⟨_, rfl⟩
        have HNO := Lib.hid hno
        rw [← hL] at HL2 hLl
        have hN1 : L.length ≤ l.length + 1 := by omega
        have hLE := Lib.hid hL
        clear hno hL hLl
        go_wp2_with fail
        refine (ask_yes _ pb _ sj live hI.1 (by omega) (by omega) (by omega) (hI.args HX0.out) (by omega) hlr HNO.out).mono ?_
        rintro e w7 ⟨rfl, hq⟩
        rw [← hLE.out] at hq
        obtain ⟨χ7, -, -, I7⟩ := hI.ask (by omega) hq
        clear hq hI
        go_wp2
        exact ⟨⟨j + 1, χ7, L, hlt, by go_num, I7, by omega, by omega, HL2⟩, by simp [intOf]; omega⟩
      · have HNO : Hid (askM k r b l sj live ≠ 0) := hno
        clear hno
        go_wp2_with fail
        refine (ask_no _ pb _ sj live hI.1 (by omega) (by omega) (by omega) (hI.args HX0.out) hlr HNO.out).mono ?_
        rintro e w7 ⟨rfl, hd7⟩
        have I7 := hI.step (quiet_below hd7)
        clear hI
        go_wp2
        exact ⟨⟨j + 1, χ, l, hlt, by go_num, I7, by omega, by omega, HL⟩, by simp [intOf]; omega⟩
    · have hje : j = s.length := by omega
      go_wp2_with fail
      refine (told_calls _ pb 1000 (cO := 5) (cI := 100) hI.1.1 (by omega) (fun x hx => by have := (HL.out.each x hx).2.2.2; omega) (by omega)).mono ?_
      rintro e w6 ⟨v10, χ10, rfl, x10, h10, hb10⟩
      rw [List.take_of_length_le (by simp; omega)] at h10
      have hBe := (hI.color hb10 x10).2.1
      have h0 := h10.is0 (by omega) (fun x hx => by have := (HL.out.each x hx).2.2.2; omega)
      obtain ⟨A10, c10, rfl, t1, t2, t3, -⟩ := id h0
      unfold maxLen at t2
      have H0 := Lib.hid h0
      clear hb10 x10 h10 hI h0
      go_wp2
      go_loopw [53] (fun i wr => ∃ (n : Nat) (d : Nat), n ≤ l.length ∧ i = .int .i64 n ∧ wr = w6.drewN d) (fun i _ => l.length - (intOf i).toNat)
      case atStart => exact ⟨0, 0, by omega, rfl, rfl⟩
      case round =>
        obtain ⟨n, dd, hn, rfl, rfl⟩ := hrel
        by_cases hlt : n < l.length
        · obtain ⟨b2, o2, x2, rfl, hc2, hx2⟩ := H0.out.getS n hlt
          obtain ⟨X2, cx2, rfl, -⟩ := id hx2
          have HE := HL.out.each _ (List.getElem_mem hlt)
          have HT := Lib.hid (fun j (hj : j < n) => HL.out.two n j hlt (by omega) hj)
          obtain ⟨sn, hsn⟩ : ∃ sn, sn = l[n] := ⟨_, rfl⟩
          rw [← hsn] at HE HT hx2 hc2
          have HX2 := Lib.hid hx2
          have hwk : IntKind.i64.wrap (live - k) = live - k := by rw [IntKind.wrap_i64]; omega
          have HE2 : k ≤ sn.length ∧ (sn.length : Int) ≤ live - k := ⟨HE.2.1, HE.2.2.1⟩
          clear hsn hx2 HE
          go_wp2
          go_loopw [74] (fun i wr => ∃ (q : Nat) (d : Nat), q ≤ n ∧ i = .int .i64 q ∧ wr = w6.drewN d) (fun i _ => n - (intOf i).toNat)
          case atStart => exact ⟨0, dd, by omega, rfl, rfl⟩
          case round =>
            obtain ⟨q, d3, hq, rfl, rfl⟩ := hrel
            by_cases hlt3 : q < n
            · obtain ⟨b4, o4, x4, e4, hc4, hx4⟩ := H0.out.getS q (by omega)
              obtain ⟨rfl, rfl⟩ : b4 = b2 ∧ o4 = o2 := by cases e4; exact ⟨rfl, rfl⟩
              obtain ⟨X4, cx4, rfl, -⟩ := id hx4
              have HQ := HT.out q hlt3
              have hbd := (sharedM_bd sn l[q]).1
              obtain ⟨lq, hlq⟩ : ∃ lq, lq = l[q] := ⟨_, rfl⟩
              rw [← hlq] at HQ hc4 hx4 hbd
              obtain ⟨z, hz⟩ : ∃ z, z = sharedM sn lq := ⟨_, rfl⟩
              have hx5 : IsI 0 (fun _ => 0) (w6.drewN d3) (.slice X4 lq.length cx4) lq := hx4
              have hx6 : IsI 0 (fun _ => 0) (w6.drewN d3) (.slice X2 sn.length cx2) sn := HX2.out
              have HC : Hid (Calls Try.prog 14 #[.slice X2 sn.length cx2, .slice X4 lq.length cx4] (w6.drewN d3) fun e w' => e = .returned (.int .i64 z) ∧ ∃ d, w' = w6.drewN d) := by
                rw [hz]
                exact (shared_calls _ _ _ _ _ hx6 hx5).mono fun e w' ⟨h1, d, h2⟩ => ⟨h1, _, h2.trans (World.drewN_drewN _ _ _)⟩
              rw [← hz] at HQ hbd
              clear hlq hx4 hx5 hx6 hz e4
              go_wp2_with (go_at_call 14; refine HC.out.mono ?_; rintro e w' ⟨rfl, d5, rfl⟩)
              exact ⟨⟨q + 1, _, hlt3, by go_num, rfl⟩, by simp [intOf]; omega⟩
            · go_wp2
              exact ⟨⟨n + 1, _, hlt, by go_num, rfl⟩, by simp [intOf]; omega⟩
        · have hEach := HL.out.each
          have HD : Hid ((exposedL l).2 = false) := exposed_safe (fun x hx => (hEach x hx).1) (fun x hx => (hEach x hx).2.1) HL.out.two hlb F3'.2.2.1 F3'.2.2.2.2.2.2
          by_cases h8 : 8 < l.length
          · go_wp2
            go_ret
            exact ⟨rfl, hBe.trans (below_drewN _ _ _)⟩
          · have hx8 : IsII 0 0 (fun _ => 0) (w6.drewN dd) (.slice A10 l.length c10) l := H0.out.keep (Same.below' (below_drewN _ _ _))
            have hB2 : Below w.heap.size w (w6.drewN dd) := hBe.trans (below_drewN _ _ _)
            have hf := flat_len (m := 40) (l := l) fun x hx => (hEach x hx).2.2.2
            have hm := Nat.mul_le_mul_right 40 (show l.length ≤ 8 by omega)
            have HX8 : Hid (Calls Try.prog 8 #[.slice A10 l.length c10] (w6.drewN dd) fun e W' => ∃ n : Int, e = .returned (.tuple #[.int .i64 n, .bool false]) ∧ Below (w6.drewN dd).heap.size (w6.drewN dd) W') :=
              (exp_bool_calls _ _ l hx8 (by omega) (by omega) fun x hx => (hEach x hx).1).mono fun e W' ⟨n, b, h1, _, h3, h4⟩ => ⟨n, by rw [h1, h3, HD.out], h4⟩
            clear hEach hx8 hf hm
            go_wp2_with fail
            refine HX8.out.mono ?_
            rintro e w9 ⟨m, rfl, hb9⟩
            have hB3 := hB2.trans (hb9.mono hB2.size)
            by_cases hk1 : k = 1
            · have gk : (k == 1) = true := by simpa using hk1
              go_wp2
              go_ret
              exact ⟨rfl, hB3⟩
            · have gk : (k == 1) = false := by simpa using hk1
              go_wp2
              go_ret
              exact ⟨rfl, hB3⟩
theorem safe_law (w : World) (v : Value) (k r b : Int) (s : List (List Int)) (live : Int) (_ : (Lit.int .i64 k).wf = true) (_ : (Lit.int .i64 r).wf = true) (_ : (Lit.int .i64 b).wf = true) (hs : IsII 0 0 (fun _ => 0) w v s) (hl : (Lit.int .i64 live).wf = true) :
    Calls Try.prog 4 #[.int .i64 k, .int .i64 r, .int .i64 b, v, .int .i64 live] w fun e w' => e = .returned (.bool true) ∧ Below w.heap.size w w' := by
  by_cases f : fewM s 30 = true
  · rcases checkM_or k r b with h | h
    · exact safe_yes w k r b v s live hs (lit_i64 hl) f h
    · exact safe_no w k r b v s live hs (.inr ⟨f, h⟩)
  · exact safe_no w k r b v s live hs (.inl (by simpa using f))
end Go.Proofs.Ytpchodnknkdlgaa
