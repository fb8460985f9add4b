import Derived.Test.YtokknppnnddihaaOvGrows
namespace Go.Proofs.Ytokknppnnddihaa
open Go.RowKit

set_option maxHeartbeats 1000000 in
theorem tests_no (w : World) (v u : Value) (s : List (List Int)) (a : List Int) (hs : IsII 0 0 (fun _ => 0) w v s) (ha : IsI 0 (fun _ => 0) w u a)
    (hno : Hid (fewM s = false ∨ (fewM s = true ∧ fewM [a] = false))) :
    Calls Try.prog 6 #[v, u] w fun e w' => e = .returned (.bool true) ∧ Below w.heap.size w w' := by
  obtain ⟨A, c, rfl, -, -, -, -⟩ := id hs
  obtain ⟨B, d, rfl, -, -, -, -⟩ := id ha
  go_enter Try.func6, Try.ntmps6
  go_wp2_with fail
  refine (alive_calls _).mono ?_
  rintro e w1 ⟨rfl, hbw⟩
  have hs := hs.keep (Same.below' hbw)
  have ha := ha.keep (Same.below' hbw)
  rcases hno.out with h | ⟨h, h2⟩
  · have H := Lib.hid h; clear h hno
    go_wp2_with fail
    refine (few_calls _ _ _ hs).mono ?_
    rw [H.out]
    rintro e w2 ⟨rfl, rfl⟩
    go_wp2
    go_ret
    exact ⟨rfl, hbw⟩
  · have H := Lib.hid h; have H2 := Lib.hid h2; clear h h2 hno
    go_wp2_with fail
    refine (few_calls _ _ _ hs).mono ?_
    rw [H.out]
    rintro e w2 ⟨rfl, rfl⟩
    go_wp2_with fail
    refine (few_calls _ _ [a] (isII_lit ha rfl)).mono ?_
    rw [H2.out]
    rintro e w3 ⟨rfl, rfl⟩
    go_wp2
    go_ret
    exact ⟨rfl, hbw.alloc hbw.size _⟩


set_option maxHeartbeats 8000000 in
theorem tests_yes (w : World) (v u : Value) (s : List (List Int)) (a : List Int) (hs : IsII 0 0 (fun _ => 0) w v s) (ha : IsI 0 (fun _ => 0) w u a)
    (f1 : Hid (fewM s = true)) (f2 : Hid (fewM [a] = true)) :
    Calls Try.prog 6 #[v, u] w fun e w' => e = .returned (.bool true) ∧ Below w.heap.size w w' := by
  obtain ⟨A, c, rfl, s1, s2, s3, -⟩ := id hs
  obtain ⟨B, d, rfl, a1, a2, a3, -⟩ := id ha
  unfold maxLen at s2 a2
  have fs := Lib.hid ((fewM_iff s).1 f1.out)
  have hl30 : s.length ≤ 30 := fs.out.2
  have HA := ha; have HS := hs
  have m0 : Hid (mostM a [] = 0) := rfl
  go_enter Try.func6, Try.ntmps6
  go_wp2_with fail
  refine (alive_calls _).mono ?_
  rintro e w1 ⟨rfl, hbw⟩
  go_wp2_with fail
  refine (few_calls _ _ _ (hs.keep (Same.below' hbw))).mono ?_
  rw [f1.out]
  rintro e w2 ⟨rfl, rfl⟩
  go_wp2_with fail
  refine (few_calls _ _ [a] (isII_lit (ha.keep (Same.below' hbw)) rfl)).mono ?_
  rw [f2.out]
  rintro e w3 ⟨rfl, hw3⟩
  have hb3 : Below w.heap.size w w3 := by rw [hw3]; exact hbw.alloc hbw.size _
  clear hw3
  go_wp2_with fail
  obtain ⟨χ, hI⟩ := rinv_new hb3
  obtain ⟨pb, hpb⟩ : ∃ pb, pb = w3.heap.size := ⟨_, rfl⟩
  rw [← hpb] at hI
  rw [← hpb]
  clear hpb
  refine (test_calls _ _ _ a 0 hI.1 (hI.args HA) (by simp)).mono ?_
  rw [m0.out]
  rintro e w4 ⟨rfl, hq⟩
  replace hI := hI.step (quiet_below hq)
  clear hq
  go_wp2_with fail
  refine (test_calls _ _ _ a (-1) hI.1 (hI.args HA) (by simp)).mono ?_
  rw [m0.out]
  rintro e w5 ⟨rfl, hq⟩
  replace hI := hI.step (quiet_below hq)
  clear hq
  go_wp2_with fail
  refine (most_calls _ _ _ a hI.1 (hI.args HA) (by simp)).mono ?_
  rw [m0.out]
  rintro e w6 ⟨rfl, hq⟩
  replace hI := hI.step (quiet_below hq)
  clear hq
  go_wp2
  go_loopw [6, 36] (fun n i wr => ∃ (k : Nat) (χ : Col), k ≤ s.length ∧ i = .int .i64 k ∧ n = .int .i64 (recs (s.take k)).length ∧ RInv w pb χ (recs (s.take k)) wr) (fun _ i _ => s.length - (intOf i).toNat)
  case atStart => exact ⟨0, χ, by omega, rfl, rfl, hI⟩
  case round =>
    obtain ⟨k, χ, hk, rfl, rfl, hI⟩ := hrel
    have hrl := recs_len s k
    by_cases hlt : k < s.length
    · obtain ⟨gb, go, x, rfl, hcell0, hx0⟩ := HS.getS k hlt
      have hcell := below_cell hI.2.1 hcell0
      obtain ⟨X, cx, rfl, x1, x2, x3, -⟩ := id hx0
      have hlx : s[k].length ≤ 60 := fs.out.1 _ (List.getElem_mem hlt)
      have hx := hI.args hx0
      by_cases hr : rightM 0 s[k] = true
      · have HR : Hid (rightM 0 s[k] = true) := hr
        have HS2 := Lib.hid (recs_take_yes hlt hr)
        clear hr
        go_wp2_with fail
        refine (add_yes _ _ _ _ hI.1 hx (by omega) (by omega) HR).mono ?_
        rintro e w4 ⟨rfl, hq⟩
        obtain ⟨χ2, I2⟩ := hI.add hq
        clear hq hx hI
        go_wp2
        go_roundw
        case rel => exact ⟨k + 1, χ2, hlt, by go_num, val_int (by rw [HS2.out]; simp), by rw [HS2.out]; exact I2⟩
        case measure => simp [intOf]; omega
      · have HR : Hid (rightM 0 s[k] = false) := Bool.eq_false_iff.2 hr
        have HS2 := Lib.hid (recs_take_no hlt HR)
        clear hr
        go_wp2_with fail
        refine (add_no _ _ _ _ hx HR).mono ?_
        rintro e w4 ⟨rfl, rfl⟩
        go_wp2
        go_roundw
        case rel => exact ⟨k + 1, χ, hlt, by go_num, val_int (by rw [HS2.out]), by rw [HS2.out]; exact hI⟩
        case measure => simp [intOf]; omega
    · have hl2 : (recs (s.take k)).length ≤ 1000000 := by omega
      have b4 := mostM_bd a (recs (s.take k))
      have r21 : Hid (rightM 0 [2, 1] = false) := rfl
      have hla := ((fewM_iff [a]).1 f2.out).1 a (by simp)
      go_wp2_with fail
      refine (most_calls _ _ _ a hI.1 (hI.args HA) hl2).mono ?_
      rintro e w5 ⟨rfl, hq⟩
      replace hI := hI.step (quiet_below hq)
      clear hq
      go_wp2_with fail
      refine (len_calls _ _ hI.1 hl2).mono ?_
      rintro e w7 ⟨rfl, rfl⟩
      go_wp2_with fail
      refine (test_calls _ _ _ a _ hI.1 (hI.args HA) hl2).mono ?_
      rw [if_neg (Int.lt_irrefl _)]
      rintro e w8 ⟨rfl, hq⟩
      replace hI := hI.step (quiet_below hq)
      clear hq
      go_wp2_with fail
      refine (test_calls _ _ _ a _ hI.1 (hI.args HA) hl2).mono ?_
      rw [if_pos (by omega)]
      rintro e w9 ⟨rfl, hq⟩
      replace hI := hI.step (quiet_below hq)
      clear hq
      go_wp2_with fail
      refine (add_no _ _ _ [2, 1] (isI_lit [2, 1] rfl rfl (by simp)) r21).mono ?_
      rintro e w10 ⟨rfl, hq⟩
      replace hI := hI.step (below_lit (same_below hq))
      clear hq
      go_wp2_with fail
      refine (len_calls _ _ hI.1 hl2).mono ?_
      rintro e w11 ⟨rfl, rfl⟩
      go_wp2
      go_ret
      exact ⟨ret_bool (by simp), hI.2.1⟩

theorem tests_law (w : World) (v u : Value) (s : List (List Int)) (a : List Int) (hs : IsII 0 0 (fun _ => 0) w v s) (ha : IsI 0 (fun _ => 0) w u a) :
    Calls Try.prog 6 #[v, u] w fun e w' => e = .returned (.bool true) ∧ Below w.heap.size w w' := by
  cases h1 : fewM s with
  | false => exact tests_no w v u s a hs ha (.inl h1)
  | true =>
    cases h2 : fewM [a] with
    | false => exact tests_no w v u s a hs ha (.inr ⟨h1, h2⟩)
    | true => exact tests_yes w v u s a hs ha h1 h2
end Go.Proofs.Ytokknppnnddihaa
