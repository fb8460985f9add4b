import Derived.Test.YtokknppnnddihaaOvPure
import Derived.Test.YtokknppnnddihaaOvI
namespace Go.Proofs.Ytokknppnnddihaa
open Go.RowKit

/-- The sets among rows. -/
def recs (l : List (List Int)) : List (List Int) := l.filter (rightM 0)
theorem recs_take_yes {l : List (List Int)} {k : Nat} (h : k < l.length) (hr : rightM 0 l[k] = true) : recs (l.take (k + 1)) = recs (l.take k) ++ [l[k]] := by
  unfold recs; rw [List.take_succ_eq_append_getElem h, List.filter_append]; simp [hr]
theorem recs_take_no {l : List (List Int)} {k : Nat} (h : k < l.length) (hr : rightM 0 l[k] = false) : recs (l.take (k + 1)) = recs (l.take k) := by
  unfold recs; rw [List.take_succ_eq_append_getElem h, List.filter_append]; simp [hr]
theorem recs_len (l : List (List Int)) (k : Nat) : (recs (l.take k)).length ≤ l.length := by
  unfold recs; have := List.length_filter_le (rightM 0) (l.take k); simp at this; omega
theorem sharedM_self {x : List Int} (h : rightM 0 x = true) : sharedM x x = x.length := by
  rw [sharedM_filter h h, List.filter_eq_self.2 (by simp)]
theorem mostM_last (a x : List Int) (s : List (List Int)) : mostM a s ≤ mostM a (s ++ [x]) ∧ sharedM a x ≤ mostM a (s ++ [x]) := by
  rw [mostM_snoc]; omega
theorem fewM_iff (s : List (List Int)) : fewM s = true ↔ (∀ x ∈ s, x.length ≤ 60) ∧ s.length ≤ 30 := by
  unfold fewM; simp

set_option maxHeartbeats 1000000 in
/-- The head of a law of one row of sets, and of one more: few, or not. -/
theorem grows_no (w : World) (v u : Value) (s : List (List Int)) (a : List Int) (hs : IsII 0 0 (fun _ => 0) w v s) (ha : IsI 0 (fun _ => 0) w u a)
    (hno : Hid (fewM s = false ∨ (fewM s = true ∧ fewM [a] = false))) :
    Calls Try.prog 4 #[v, u] w fun e w' => e = .returned (.bool true) ∧ Below w.heap.size w w' := by
  obtain ⟨A, c, rfl, -, -, -, -⟩ := id hs
  obtain ⟨B, d, rfl, -, -, -, -⟩ := id ha
  go_enter Try.func4, Try.ntmps4
  go_wp2_with fail
  refine (alive_calls _).mono ?_
  rintro e w1 ⟨rfl, hbw⟩
  have hs := hs.keep (Same.below' hbw)
  have ha := ha.keep (Same.below' hbw)
  rcases hno.out with h | ⟨h, h2⟩
  · have H := Lib.hid h; clear h hno
    go_wp2_with fail
    refine (few_calls _ _ _ hs).mono ?_
    rw [H.out]
    rintro e w2 ⟨rfl, rfl⟩
    go_wp2
    go_ret
    exact ⟨rfl, hbw⟩
  · have H := Lib.hid h; have H2 := Lib.hid h2; clear h h2 hno
    go_wp2_with fail
    refine (few_calls _ _ _ hs).mono ?_
    rw [H.out]
    rintro e w2 ⟨rfl, rfl⟩
    go_wp2_with fail
    refine (few_calls _ _ [a] (isII_lit ha rfl)).mono ?_
    rw [H2.out]
    rintro e w3 ⟨rfl, rfl⟩
    go_wp2
    go_ret
    exact ⟨rfl, hbw.alloc hbw.size _⟩

set_option maxHeartbeats 8000000 in
theorem grows_yes (w : World) (v u : Value) (s : List (List Int)) (a : List Int) (hs : IsII 0 0 (fun _ => 0) w v s) (ha : IsI 0 (fun _ => 0) w u a)
    (f1 : Hid (fewM s = true)) (f2 : Hid (fewM [a] = true)) :
    Calls Try.prog 4 #[v, u] w fun e w' => e = .returned (.bool true) ∧ Below w.heap.size w w' := by
  obtain ⟨A, c, rfl, s1, s2, s3, -⟩ := id hs
  obtain ⟨B, d, rfl, a1, a2, a3, -⟩ := id ha
  unfold maxLen at s2 a2
  have fs := Lib.hid ((fewM_iff s).1 f1.out)
  have hl30 : s.length ≤ 30 := fs.out.2
  have HA := ha; have HS := hs
  go_enter Try.func4, Try.ntmps4
  go_wp2_with fail
  refine (alive_calls _).mono ?_
  rintro e w1 ⟨rfl, hbw⟩
  go_wp2_with fail
  refine (few_calls _ _ _ (hs.keep (Same.below' hbw))).mono ?_
  rw [f1.out]
  rintro e w2 ⟨rfl, rfl⟩
  go_wp2_with fail
  refine (few_calls _ _ [a] (isII_lit (ha.keep (Same.below' hbw)) rfl)).mono ?_
  rw [f2.out]
  rintro e w3 ⟨rfl, hw3⟩
  have hb3 : Below w.heap.size w w3 := by rw [hw3]; exact hbw.alloc hbw.size _
  clear hw3
  go_wp2
  obtain ⟨χ, hI⟩ := rinv_new hb3
  obtain ⟨pb, hpb⟩ : ∃ pb, pb = w3.heap.size := ⟨_, rfl⟩
  rw [← hpb] at hI
  rw [← hpb]
  clear hpb
  go_loopw [6, 24] (fun n i wr => ∃ (k : Nat) (χ : Col), k ≤ s.length ∧ i = .int .i64 k ∧ n = .int .i64 (mostM a (recs (s.take k))) ∧ RInv w pb χ (recs (s.take k)) wr) (fun _ i _ => s.length - (intOf i).toNat)
  case atStart => exact ⟨0, χ, by omega, rfl, rfl, hI⟩
  case round =>
    obtain ⟨k, χ, hk, rfl, rfl, hI⟩ := hrel
    have hrl := recs_len s k
    by_cases hlt : k < s.length
    · obtain ⟨gb, go, x, rfl, hcell0, hx0⟩ := HS.getS k hlt
      have hcell := below_cell hI.2.1 hcell0
      obtain ⟨X, cx, rfl, x1, x2, x3, -⟩ := id hx0
      have hlx : s[k].length ≤ 60 := fs.out.1 _ (List.getElem_mem hlt)
      have b1 := sharedM_bd a s[k]
      have b2 := sharedM_bd s[k] a
      have b3 : sharedM a s[k] ≤ sharedM s[k] a := by rw [sharedM_comm]; exact Int.le_refl _
      have b3' : sharedM s[k] a ≤ sharedM a s[k] := by rw [sharedM_comm]; exact Int.le_refl _
      have b4 := mostM_bd a (recs (s.take k))
      have hx := hI.args hx0
      by_cases hr : rightM 0 s[k] = true
      · have HR : Hid (rightM 0 s[k] = true) := hr
        have HS2 := Lib.hid (recs_take_yes hlt hr)
        have b5 := mostM_last a s[k] (recs (s.take k))
        have b6 := (mostM_last s[k] s[k] (recs (s.take k))).2
        rw [sharedM_self hr] at b6
        have b7 := mostM_bd a (recs (s.take k) ++ [s[k]])
        have b8 := mostM_bd s[k] (recs (s.take k) ++ [s[k]])
        clear hr
        go_wp2_with fail
        refine (add_yes _ _ _ _ hI.1 hx (by omega) (by omega) HR).mono ?_
        rintro e w4 ⟨rfl, hq⟩
        obtain ⟨χ2, I2⟩ := hI.add hq
        clear hq hx hI
        have hl2 : (recs (s.take k) ++ [s[k]]).length ≤ 1000000 := by simp; omega
        go_wp2_with fail
        refine (most_calls _ _ _ _ I2.1 (I2.args HA) hl2).mono ?_
        rintro e w5 ⟨rfl, hq⟩
        have I3 := I2.step (quiet_below hq)
        clear hq I2
        go_wp2_with fail
        refine (most_calls _ _ _ _ I3.1 (I3.args hx0) hl2).mono ?_
        rintro e w6 ⟨rfl, hq⟩
        have I4 := I3.step (quiet_below hq)
        clear hq I3
        go_wp2_with fail
        refine (shared_calls _ _ _ _ _ (I4.args HA) (I4.args hx0)).mono ?_
        rintro e w7 ⟨rfl, hq⟩
        have I5 := I4.step (quiet_below hq)
        clear hq I4
        go_wp2_with fail
        refine (shared_calls _ _ _ _ _ (I5.args hx0) (I5.args HA)).mono ?_
        rintro e w8 ⟨rfl, hq⟩
        have I6 := I5.step (quiet_below hq)
        clear hq I5
        go_wp2_with fail
        refine (shared_calls _ _ _ _ _ (I6.args HA) (I6.args hx0)).mono ?_
        rintro e w9 ⟨rfl, hq⟩
        have I7 := I6.step (quiet_below hq)
        clear hq I6
        by_cases hmin : a.length ≤ s[k].length
        all_goals go_wp2_with fail
        all_goals refine (shared_calls _ _ _ _ _ (I7.args HA) (I7.args hx0)).mono ?_
        all_goals rintro e w10 ⟨rfl, hq⟩
        all_goals have I8 := I7.step (quiet_below hq)
        all_goals clear hq I7
        all_goals go_wp2
        all_goals go_roundw
        all_goals first | exact ⟨k + 1, χ2, hlt, by go_num, val_int (by rw [HS2.out]), by rw [HS2.out]; exact I8⟩ | (simp [intOf]; omega)
      · have HR : Hid (rightM 0 s[k] = false) := Bool.eq_false_iff.2 hr
        have HS2 := Lib.hid (recs_take_no hlt HR)
        clear hr
        go_wp2_with fail
        refine (add_no _ _ _ _ hx HR).mono ?_
        rintro e w4 ⟨rfl, rfl⟩
        have hl2 : (recs (s.take k)).length ≤ 1000000 := by omega
        go_wp2_with fail
        refine (most_calls _ _ _ _ hI.1 (hI.args HA) hl2).mono ?_
        rintro e w5 ⟨rfl, hq⟩
        have I3 := hI.step (quiet_below hq)
        clear hq hI
        go_wp2_with fail
        refine (shared_calls _ _ _ _ _ (I3.args HA) (I3.args hx0)).mono ?_
        rintro e w7 ⟨rfl, hq⟩
        have I5 := I3.step (quiet_below hq)
        clear hq I3
        go_wp2_with fail
        refine (shared_calls _ _ _ _ _ (I5.args hx0) (I5.args HA)).mono ?_
        rintro e w8 ⟨rfl, hq⟩
        have I6 := I5.step (quiet_below hq)
        clear hq I5
        by_cases hmin : a.length ≤ s[k].length
        all_goals go_wp2_with fail
        all_goals refine (shared_calls _ _ _ _ _ (I6.args HA) (I6.args hx0)).mono ?_
        all_goals rintro e w9 ⟨rfl, hq⟩
        all_goals have I7 := I6.step (quiet_below hq)
        all_goals clear hq I6
        all_goals go_wp2
        all_goals go_roundw
        all_goals first | exact ⟨k + 1, χ, hlt, by go_num, val_int (by rw [HS2.out]), by rw [HS2.out]; exact I7⟩ | (simp [intOf]; omega)
    · have ha := hI.args HA
      cases hr : rightM 0 a with
      | false =>
        have HR := Lib.hid hr; clear hr
        go_wp2_with fail
        refine (right_calls _ _ _ ha).mono ?_
        rw [HR.out]
        rintro e w5 ⟨rfl, rfl⟩
        go_wp2
        go_ret
        exact ⟨rfl, hI.2.1⟩
      | true =>
        have e1 : sharedM a a ≤ a.length := by rw [sharedM_self hr]; exact Int.le_refl _
        have e2 : (a.length : Int) ≤ sharedM a a := by rw [sharedM_self hr]; exact Int.le_refl _
        have HR := Lib.hid hr; clear hr
        go_wp2_with fail
        refine (right_calls _ _ _ ha).mono ?_
        rw [HR.out]
        rintro e w5 ⟨rfl, rfl⟩
        go_wp2_with fail
        refine (shared_calls _ _ _ _ _ ha ha).mono ?_
        rintro e w9 ⟨rfl, hq⟩
        have I7 := hI.step (quiet_below hq)
        clear hq hI
        go_wp2
        go_ret
        exact ⟨ret_bool (beq_iff_eq.2 (by omega)), I7.2.1⟩

theorem grows_law (w : World) (v u : Value) (s : List (List Int)) (a : List Int) (hs : IsII 0 0 (fun _ => 0) w v s) (ha : IsI 0 (fun _ => 0) w u a) :
    Calls Try.prog 4 #[v, u] w fun e w' => e = .returned (.bool true) ∧ Below w.heap.size w w' := by
  cases h1 : fewM s with
  | false => exact grows_no w v u s a hs ha (.inl h1)
  | true =>
    cases h2 : fewM [a] with
    | false => exact grows_no w v u s a hs ha (.inr ⟨h1, h2⟩)
    | true => exact grows_yes w v u s a hs ha h1 h2
end Go.Proofs.Ytokknppnnddihaa
