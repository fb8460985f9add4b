import Derived.Test.YtokknppnnddihaaOvPure
import Derived.Test.YtokknppnnddihaaOvI
namespace Go.Proofs.Ytokknppnnddihaa
open Go.RowKit

/-- Two rows of the call's own, apart. -/
def Two (w : World) (a : List Int) (b : List Int) (k : Nat) (v u : Value) (W : World) : Prop :=
  W.ownsRow w.heap.size 3 1 v ((a.take k).filter (fun n => decide (n ∈ b))).length (((a.take k).filter (fun n => decide (n ∈ b))).map (Value.int .i64)) ∧
  W.ownsRow w.heap.size 3 1 u ((a.take k).filter (fun n => !decide (n ∈ b))).length (((a.take k).filter (fun n => !decide (n ∈ b))).map (Value.int .i64)) ∧
  (∀ g, v.ownBlock = some g → u.ownBlock ≠ some g) ∧ Below w.heap.size w W

theorem owns_grown {w w' : World} {base e sz n : Nat} {v : Value} {xs : List Value} {row : Option Nat} {o : Obj} (h : w.ownsRow base e sz v n xs) (hg : (w.alloc o).grownBy w' row) (hne : ∀ g, v.ownBlock = some g → row ≠ some g) : w'.ownsRow base e sz v n xs :=
  owns_same h fun b e => (hg.block b (by have := (h.lt b e).2; simp; omega) (fun e2 => hne b e e2.symm)).trans (Below.heap_alloc _ _ _ (h.lt b e).2)

theorem push_below {w W w1 : World} {row : Option Nat} {o : Obj} (hb : Below w.heap.size w W) (hg : (W.alloc o).grownBy w1 row) (hr : ∀ g, row = some g → w.heap.size ≤ g) : Below w.heap.size w w1 :=
  (hb.alloc hb.size o).grown hg (by have := hb.size; simp; omega) hr

set_option maxHeartbeats 4000000 in
theorem parts_no (w : World) (v u : Value) (a b : List Int) (ha : IsI 0 (fun _ => 0) w v a) (hb : IsI 0 (fun _ => 0) w u b)
    (hno : Hid (60 < a.length ∨ (a.length ≤ 60 ∧ 60 < b.length) ∨ (a.length ≤ 60 ∧ b.length ≤ 60 ∧ (rightM 0 a = false ∨ (rightM 0 a = true ∧ rightM 0 b = false))))) :
    Calls Try.prog 5 #[v, u] w fun e w' => e = .returned (.bool true) ∧ Below w.heap.size w w' := by
  obtain ⟨A, c, rfl, a1, a2, a3, -⟩ := id ha
  obtain ⟨B, d, rfl, b1, b2, b3, -⟩ := id hb
  go_enter Try.func5, Try.ntmps5
  go_wp2_with fail
  refine (alive_calls _).mono ?_
  rintro e w1 ⟨rfl, hbw⟩
  have ha := ha.keep (Same.below' hbw)
  have hb := hb.keep (Same.below' hbw)
  rcases hno.out with h | ⟨h1, h2⟩ | ⟨h1, h2, h3⟩
  · go_wp2
    go_ret
    exact ⟨rfl, hbw⟩
  · go_wp2
    go_ret
    exact ⟨rfl, hbw⟩
  · rcases h3 with h3 | ⟨h3, h4⟩
    · have H3 := Lib.hid h3; clear h3
      go_wp2_with (go_at_call 16; refine (right_calls _ _ _ ha).mono ?_; rw [H3.out]; rintro e w2 ⟨rfl, rfl⟩)
      go_ret
      exact ⟨rfl, hbw⟩
    · have H3 := Lib.hid h3; have H4 := Lib.hid h4; clear h3 h4
      go_wp2_with fail
      refine (right_calls _ _ _ ha).mono ?_
      rw [H3.out]
      rintro e w2 ⟨rfl, rfl⟩
      go_wp2_with fail
      refine (right_calls _ _ _ hb).mono ?_
      rw [H4.out]
      rintro e w2 ⟨rfl, rfl⟩
      go_wp2
      go_ret
      exact ⟨rfl, hbw⟩

set_option maxHeartbeats 8000000 in
theorem parts_yes (w : World) (v u : Value) (a b : List Int) (ha : IsI 0 (fun _ => 0) w v a) (hb : IsI 0 (fun _ => 0) w u b) (la : a.length ≤ 60) (lb : b.length ≤ 60)
    (ra : Hid (rightM 0 a = true)) (rb : Hid (rightM 0 b = true)) :
    Calls Try.prog 5 #[v, u] w fun e w' => e = .returned (.bool true) ∧ Below w.heap.size w w' := by
  obtain ⟨A, c, rfl, a1, a2, a3, -⟩ := id ha
  obtain ⟨B, d, rfl, b1, b2, b3, -⟩ := id hb
  unfold maxLen at a2 b2
  obtain ⟨i0, hi, hz0, hz1, hz2⟩ := info_parts infoI
  go_enter Try.func5, Try.ntmps5
  go_wp2_with (go_at_call 8; refine (alive_calls _).mono ?_; rintro e w1 ⟨rfl, hbw⟩)
  have HA := ha; have HB := hb
  have ha := ha.keep (Same.below' hbw)
  have hb := hb.keep (Same.below' hbw)
  go_wp2_with fail
  refine (right_calls _ _ _ ha).mono ?_
  rw [ra.out]
  rintro e w2 ⟨rfl, rfl⟩
  go_wp2_with fail
  refine (right_calls _ _ _ hb).mono ?_
  rw [rb.out]
  rintro e w2 ⟨rfl, rfl⟩
  go_wp2
  go_loopw [5, 6, 34] (fun v u i wr => ∃ k : Nat, k ≤ a.length ∧ i = .int .i64 k ∧ Two w a b k v u wr) (fun _ _ i _ => a.length - (intOf i).toNat)
  case atStart =>
    have hsz := hbw.size
    have o1 := World.ownsRow_made (base := w.heap.size) (e := 3) (size := 1) w2 #[] 0 hsz (Nat.zero_le _) rfl
    have o2 := World.ownsRow_made (base := w.heap.size) (e := 3) (size := 1) (w2.alloc (.cells #[] 3)) #[] 0 (by simp; omega) (Nat.zero_le _) rfl
    simp only [World.size_alloc] at o2
    exact ⟨0, by omega, rfl, o1.alloc _, o2, (fun g e => by cases e; intro h; have h := Option.some.inj h; simp at h), (hbw.alloc hsz _).alloc (by simp; omega) _⟩
  case round =>
    obtain ⟨k, hk, rfl, o1, o2, hne, hbr⟩ := hrel
    by_cases hlt : k < a.length
    · have ha := HA.keep (Same.below' hbr)
      have hb := HB.keep (Same.below' hbr)
      obtain ⟨gb, go, rfl, hcell⟩ := ha.getI k hlt
      obtain ⟨x, hx⟩ : ∃ x, x = a[k] := ⟨_, rfl⟩
      rw [← hx] at hcell
      have HX := Lib.hid hx; clear hx
      have ht : Hid (a.take (k + 1) = a.take k ++ [x]) := by show _ = _; rw [List.take_succ_eq_append_getElem hlt, HX.out]
      have hl1 : ((a.take k).filter (fun n => decide (n ∈ b))).length ≤ 60 := Nat.le_trans (List.length_filter_le _ _) (by simp; omega)
      have hl2 : ((a.take k).filter (fun n => !decide (n ∈ b))).length ≤ 60 := Nat.le_trans (List.length_filter_le _ _) (by simp; omega)
      by_cases hm : decide (x ∈ b) = true
      · have f1 : (a.take (k + 1)).filter (fun n => decide (n ∈ b)) = (a.take k).filter (fun n => decide (n ∈ b)) ++ [x] := by rw [ht.out, List.filter_append]; simp only [List.filter_cons, hm]; rfl
        have f2 : (a.take (k + 1)).filter (fun n => !decide (n ∈ b)) = (a.take k).filter (fun n => !decide (n ∈ b)) := by rw [ht.out, List.filter_append]; simp only [List.filter_cons, hm]; simp
        have F1 := Lib.hid f1; have F2 := Lib.hid f2; have HM := Lib.hid hm; have HN := Lib.hid hne
        clear f1 f2 hm hne
        obtain ⟨xs, hxs⟩ : ∃ xs, xs = (a.take k).filter (fun n => decide (n ∈ b)) := ⟨_, rfl⟩
        rw [← hxs] at o1 hl1
        have HXS := Lib.hid hxs; clear hxs
        go_wp2_with (first
          | (go_at_call 21; refine (in_calls _ _ _ _ hb).mono ?_; rw [HM.out]; rintro e w3 ⟨rfl, rfl⟩)
          | (at_builtin; refine wpList_append_own_at _ rfl _ _ 23 rfl w.heap.size 3 i0 _ 1 8 Try.underlying23 hi hz0 hz1 hz2 rfl (by decide) _ _ _ rfl (o1.alloc _) ⟨_, 0, none⟩ 1 1 [.int .i64 x] rfl rfl (cell_one_new _ _ _) (by simp [Value.oneCell']) (by unfold maxLen; omega) (by omega) (by have := hbr.size; simp; omega) ?_; intro v' w3 hown' hgrow _ hat; obtain ⟨g', cap', rfl⟩ := ownsRow_succ hown'))
        go_roundw
        case rel =>
          refine ⟨k + 1, hlt, by go_num, ?_, ?_, ?_, push_below hbr hgrow fun g e => (o1.lt g e).1⟩
          · rw [F1.out, ← HXS.out]; simpa using hown'
          · rw [F2.out]; exact owns_grown o2 hgrow fun g e e2 => HN.out g e2 e
          · intro g e e2
            rcases hat with h | h
            · exact HN.out g (h.symm.trans e) e2
            · have := (o2.lt g e2).2
              have h := Option.some.inj (e.symm.trans h)
              simp at h; omega
        case measure => simp [intOf]; omega
      · have hm : decide (x ∈ b) = false := Bool.eq_false_iff.2 hm
        have f1 : (a.take (k + 1)).filter (fun n => decide (n ∈ b)) = (a.take k).filter (fun n => decide (n ∈ b)) := by rw [ht.out, List.filter_append]; simp only [List.filter_cons, hm]; simp
        have f2 : (a.take (k + 1)).filter (fun n => !decide (n ∈ b)) = (a.take k).filter (fun n => !decide (n ∈ b)) ++ [x] := by rw [ht.out, List.filter_append]; simp only [List.filter_cons, hm]; simp
        have F1 := Lib.hid f1; have F2 := Lib.hid f2; have HM := Lib.hid hm; have HN := Lib.hid hne
        clear f1 f2 hm hne
        obtain ⟨xs, hxs⟩ : ∃ xs, xs = (a.take k).filter (fun n => !decide (n ∈ b)) := ⟨_, rfl⟩
        rw [← hxs] at o2 hl2
        have HXS := Lib.hid hxs; clear hxs
        go_wp2_with (first
          | (go_at_call 21; refine (in_calls _ _ _ _ hb).mono ?_; rw [HM.out]; rintro e w3 ⟨rfl, rfl⟩)
          | (at_builtin; refine wpList_append_own_at _ rfl _ _ 23 rfl w.heap.size 3 i0 _ 1 8 Try.underlying23 hi hz0 hz1 hz2 rfl (by decide) _ _ _ rfl (o2.alloc _) ⟨_, 0, none⟩ 1 1 [.int .i64 x] rfl rfl (cell_one_new _ _ _) (by simp [Value.oneCell']) (by unfold maxLen; omega) (by omega) (by have := hbr.size; simp; omega) ?_; intro v' w3 hown' hgrow _ hat; obtain ⟨g', cap', rfl⟩ := ownsRow_succ hown'))
        go_roundw
        case rel =>
          refine ⟨k + 1, hlt, by go_num, ?_, ?_, ?_, push_below hbr hgrow fun g e => (o2.lt g e).1⟩
          · rw [F1.out]; exact owns_grown o1 hgrow fun g e e2 => HN.out g e e2
          · rw [F2.out, ← HXS.out]; simpa using hown'
          · intro g e e2
            rcases hat with h | h
            · exact HN.out g e (h.symm.trans e2)
            · have := (o1.lt g e).2
              have h := Option.some.inj (e2.symm.trans h)
              simp at h; omega
        case measure => simp [intOf]; omega
    · have hkk : a.take k = a := List.take_of_length_le (by omega)
      rw [hkk] at o1 o2
      clear hkk
      have ha := HA.keep (Same.below' hbr)
      have hb := HB.keep (Same.below' hbr)
      obtain ⟨pp1, pp2, pp3, pp4, pp5, pp6, pp7, pp8⟩ := parts_pure ra.out rb.out
      have hfl := List.length_filter_le (fun n => decide (n ∈ b)) a
      have hfl2 := List.length_filter_le (fun n => !decide (n ∈ b)) a
      obtain ⟨xs, hxs⟩ : ∃ xs, xs = a.filter (fun n => decide (n ∈ b)) := ⟨_, rfl⟩
      obtain ⟨ys, hys⟩ : ∃ ys, ys = a.filter (fun n => !decide (n ∈ b)) := ⟨_, rfl⟩
      rw [← hxs] at o1 pp1 pp2 pp3 pp5 pp7 hfl
      rw [← hys] at o2 pp4 pp5 pp6 pp8 hfl2
      clear hxs hys
      obtain ⟨Ax, cx, rfl⟩ := owns_form o1
      obtain ⟨Ay, cy, rfl⟩ := owns_form o2
      have hX := isI_owns (χ := fun _ => 0) (c := 0) o1 (by omega) (fun _ _ => rfl)
      have hY := isI_owns (χ := fun _ => 0) (c := 0) o2 (by omega) (fun _ _ => rfl)
      obtain ⟨n, hn⟩ : ∃ n, n = sharedM a b := ⟨_, rfl⟩
      rw [← hn] at pp1 pp2 pp3 pp6
      have P0 := Lib.hid hn.symm; have P1 := Lib.hid pp1; have P2 := Lib.hid pp2; have P3 := Lib.hid pp3; have P4 := Lib.hid pp4; have P5 := Lib.hid pp5; have P6 := Lib.hid pp6; have P7 := Lib.hid pp7; have P8 := Lib.hid pp8
      clear hn pp1 pp2 pp3 pp4 pp5 pp6 pp7 pp8 o1 o2 hne
      go_wp2_with fail
      refine (shared_calls _ _ _ a b (by exact ha) (by exact hb)).mono ?_
      rintro e w3 ⟨rfl, d3, rfl⟩
      rw [P0.out]
      go_wp2_with fail
      refine (shared_calls _ _ _ a xs (by exact ha) (by exact hX)).mono ?_
      rintro e w4 ⟨rfl, d4, rfl⟩
      rw [P2.out]
      go_wp2_with fail
      refine (shared_calls _ _ _ b xs (by exact hb) (by exact hX)).mono ?_
      rintro e w5 ⟨rfl, d5, rfl⟩
      rw [P3.out]
      go_wp2_with fail
      refine (shared_calls _ _ _ ys b (by exact hY) (by exact hb)).mono ?_
      rintro e w6 ⟨rfl, d6, rfl⟩
      rw [P4.out]
      go_wp2_with fail
      refine (shared_calls _ _ _ ys xs (by exact hY) (by exact hX)).mono ?_
      rintro e w7 ⟨rfl, d7, rfl⟩
      rw [P5.out]
      go_wp2_with fail
      refine (shared_calls _ _ _ a ys (by exact ha) (by exact hY)).mono ?_
      rintro e w8 ⟨rfl, d8, rfl⟩
      obtain ⟨m, hm⟩ : ∃ m, m = sharedM a ys := ⟨_, rfl⟩
      have P6' : m + n = a.length := by rw [hm]; exact P6.out
      rw [← hm]
      clear hm
      have q1 : 0 ≤ n := by rw [← P0.out]; exact (sharedM_bd a b).1
      have q2 : m + n ≤ a.length := by omega
      have q3 : (a.length : Int) ≤ m + n := by omega
      clear P6'
      go_wp2_with fail
      refine (right_calls _ _ xs (by exact hX)).mono ?_
      rintro e z0 ⟨rfl, rfl⟩
      rw [P7.out]
      go_wp2_with fail
      refine (right_calls _ _ ys (by exact hY)).mono ?_
      rintro e z1 ⟨rfl, rfl⟩
      rw [P8.out]
      go_wp2
      go_ret
      exact ⟨rfl, hbr.trans (below_drewN _ _ _)⟩

theorem parts_law (w : World) (v u : Value) (a b : List Int) (ha : IsI 0 (fun _ => 0) w v a) (hb : IsI 0 (fun _ => 0) w u b) :
    Calls Try.prog 5 #[v, u] w fun e w' => e = .returned (.bool true) ∧ Below w.heap.size w w' := by
  by_cases la : a.length ≤ 60
  · by_cases lb : b.length ≤ 60
    · cases ra : rightM 0 a with
      | false => exact parts_no w v u a b ha hb (.inr (.inr ⟨la, lb, .inl ra⟩))
      | true =>
        cases rb : rightM 0 b with
        | false => exact parts_no w v u a b ha hb (.inr (.inr ⟨la, lb, .inr ⟨ra, rb⟩⟩))
        | true => exact parts_yes w v u a b ha hb la lb ra rb
    · exact parts_no w v u a b ha hb (.inr (.inl ⟨la, by omega⟩))
  · exact parts_no w v u a b ha hb (.inl (by omega))
end Go.Proofs.Ytokknppnnddihaa
