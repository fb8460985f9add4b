import Derived.Test.YtlaohilchcjffaaInAL
namespace Go.Proofs.Ytlaohilchcjffaa
open Go.RowKit
attribute [local go_sem] World.cell?_alloc_some frozen_alloc_some

/-- values, as they lie. -/
def rV : Rp Value := fun _ _ cs x => cs = [x] ∧ x.oneCell' = true
theorem rV_one : rV.One := by rintro χ w cs x ⟨rfl, h⟩ u hu; simp at hu; subst hu; exact h
theorem rV_on (D : Nat → Prop) : rV.On D := fun _ _ _ _ _ _ h _ => h
theorem isV_own {base c : Nat} {χ : Col} {w : World} {v : Value} {n : Nat} {vs : List Value} (h : w.ownsRow base 23 1 v n vs) (hl : n ≤ 1000000) (hc : ∀ b, v.ownBlock = some b → χ b = c) (h1 : ∀ x ∈ vs, x.oneCell' = true) : IsL 1 rV c χ w v vs := by
  have hn : n = vs.length := by have := h.1; omega
  subst hn
  exact IsL.of_owns (by omega) h (by omega) hc fun i hi => by
    rw [Nat.mul_one, List.drop_eq_getElem_cons hi]
    exact ⟨rfl, h1 _ (List.getElem_mem hi)⟩
/-- The document's list of what was told: an own row, from base on, of rows that are read in w0. -/
def Tol (base : Nat) (w0 W : World) (v : Value) (l : List (List Int)) : Prop :=
  ∃ vs, W.ownsRow base 23 1 v l.length vs ∧ ∀ i (hi : i < l.length), ∃ x, vs[i]? = some x ∧ IsI 0 (fun _ => 0) w0 x l[i]
theorem Tol.one {base : Nat} {w0 W : World} {l : List (List Int)} {vs : List Value} {v : Value} (h : W.ownsRow base 23 1 v l.length vs) (h2 : ∀ i (hi : i < l.length), ∃ x, vs[i]? = some x ∧ IsI 0 (fun _ => 0) w0 x l[i]) : ∀ x ∈ vs, x.oneCell' = true := by
  intro x hx
  obtain ⟨i, hi, rfl⟩ := List.getElem_of_mem hx
  have hl : vs.length = l.length := by have := h.1; omega
  obtain ⟨y, e, A, cap, e2, -⟩ := h2 i (by omega)
  rw [List.getElem?_eq_getElem hi] at e
  cases e
  rw [e2]; rfl
theorem below_set4 {B g : Nat} {a w : World} {v0 v1 v2 v3 : Value} (h : Below B a w) (hg : B ≤ g := by first | exact Nat.le_refl _ | omega) : Below B a ((((w.setCell ⟨g, 0, none⟩ v0).setCell ⟨g, 1, none⟩ v1).setCell ⟨g, 2, none⟩ v2).setCell ⟨g, 3, none⟩ v3) :=
  (((h.setCell hg _).setCell hg _).setCell hg _).setCell hg _
theorem infoC33 : (Try.prog.info? 33).map (fun i => (i.zero, i.size)) = some (some (.agg #[.int .i64 0, .int .i64 0, .int .i64 0, .slice none 0 0]), 4) := by kernel_rfl
theorem flat_one (vs : List Value) : vs.flatMap (fun x => [x]) = vs := by induction vs with
  | nil => rfl
  | cons x xs ih => rw [List.flatMap_cons, ih]; rfl
theorem tol_cells {base : Nat} {w0 w W : World} {At : Option Addr} {ct : Nat} {l : List (List Int)} {vs : List Value} (h1 : w.ownsRow base 23 1 (.slice At l.length ct) l.length vs) (h2 : ∀ i (hi : i < l.length), ∃ x, vs[i]? = some x ∧ IsI 0 (fun _ => 0) w0 x l[i]) (hb : Below w.heap.size w W) (hb0 : Below w0.heap.size w0 w) :
    ∀ i (hi : i < l.length), ∃ g o x, At = some ⟨g, o, none⟩ ∧ W.cell? ⟨g, o + i, none⟩ = some x ∧ IsI 0 (fun _ => 0) W x l[i] := by
  intro i hi
  obtain ⟨x, e, hx⟩ := h2 i hi
  obtain ⟨-, (⟨e2, h0⟩ | ⟨g, cap', cur, e2, -⟩)⟩ := id h1
  · omega
  · cases e2
    have := h1.cells (g := g) rfl i x e
    rw [add0] at this
    exact ⟨g, 0, x, rfl, by rw [Nat.zero_add]; exact below_cellA hb this, IsI.keep hx (Same.below' (hb0.trans (hb.mono hb0.size)))⟩
set_option maxRecDepth 100000 in
set_option maxHeartbeats 4000000 in
theorem refAsk_no (w0 w : World) (base : Nat) (K R B live : Int) (tv v : Value) (l : List (List Int)) (s : List Int) {cl : Nat} {χa : Col} (ht : Tol base w0 w tv l) (hb0 : Below w0.heap.size w0 w) (hn : l.length ≤ 1000) (hlb : (l.length : Int) ≤ B) (hk : 1 ≤ K ∧ K ≤ 4096) (hs : IsI cl χa w v s) (hlv : -9223372036854775808 ≤ live ∧ live ≤ 9223372036854775807)
    (hno : askM K R B l s live ≠ 0) :
    Calls Try.prog 12 #[.agg #[.int .i64 K, .int .i64 R, .int .i64 B, tv], v, .int .i64 live] w fun e w' => e = .returned (.tuple #[.agg #[.int .i64 K, .int .i64 R, .int .i64 B, tv], .int .i64 (askM K R B l s live)]) ∧ Below w.heap.size w w' := by
  obtain ⟨A, cap, rfl, a1, a2, a3, -⟩ := id hs
  obtain ⟨q, hq⟩ : ∃ q, q = askM K R B l s live := ⟨_, rfl⟩
  rw [← hq] at hno ⊢
  unfold askM at hq
  obtain ⟨vs, t1, t2⟩ := ht
  obtain ⟨At, ct, rfl⟩ := owns_form t1
  have HS := Lib.hid hs
  have T1 := Lib.hid t1
  have T2 := Lib.hid t2
  have hb1 : Below w.heap.size w (w.alloc (.cells #[.int .i64 K, .int .i64 R, .int .i64 B, .slice At l.length ct] 33)) := (Below.refl _ _).alloc (Nat.le_refl _) _
  have hb2 := hb1.alloc hb1.size (.cells #[.int .i64 0, .int .i64 0, .int .i64 0, .slice none 0 0] 33)
  clear hs t1 t2
  unfold maxLen at a2
  go_enter Try.func12, Try.ntmps12
  by_cases hr : rightM 0 s = false
  · rw [if_pos hr] at hq
    subst hq
    have HR := Lib.hid hr
    clear hr
    go_wp2_with fail
    refine (refRight_calls _ _ _ (IsI.keep HS.out (Same.below' hb2))).mono ?_
    rintro e w1 ⟨rfl, d, rfl⟩
    rw [HR.out]
    go_wp2
    exact bodyPost_ret (v := .tuple #[.agg #[.int .i64 K, .int .i64 R, .int .i64 B, .slice At l.length ct], .int .i64 21]) (by simp [results, Try.results12, go_sem, *]) rfl ⟨rfl, below_set4 (hb2.trans (below_drewN _ _ _))⟩
  · rw [if_neg hr] at hq
    have HR : Hid (rightM 0 s = true) := by show _ = _; simpa using hr
    clear hr
    go_wp2_with fail
    refine (refRight_calls _ _ _ (IsI.keep HS.out (Same.below' hb2))).mono ?_
    rintro e w1 ⟨rfl, d, rfl⟩
    rw [HR.out]
    by_cases h3 : B - l.length = 0
    · rw [if_pos h3] at hq
      subst hq
      go_wp2
      exact bodyPost_ret (v := .tuple #[.agg #[.int .i64 K, .int .i64 R, .int .i64 B, .slice At l.length ct], .int .i64 33]) (by simp [results, Try.results12, go_sem, *]) rfl ⟨rfl, below_set4 (hb2.trans (below_drewN _ _ _))⟩
    · rw [if_neg h3] at hq
      have h3' : ¬ B ≤ l.length := by omega
      by_cases h4 : (s.length : Int) < K
      · rw [if_pos (.inl h4)] at hq
        subst hq
        go_wp2
        exact bodyPost_ret (v := .tuple #[.agg #[.int .i64 K, .int .i64 R, .int .i64 B, .slice At l.length ct], .int .i64 34]) (by simp [results, Try.results12, go_sem, *]) rfl ⟨rfl, below_set4 (hb2.trans (below_drewN _ _ _))⟩
      by_cases h5 : live < s.length
      · rw [if_pos (by omega)] at hq
        subst hq
        go_wp2
        exact bodyPost_ret (v := .tuple #[.agg #[.int .i64 K, .int .i64 R, .int .i64 B, .slice At l.length ct], .int .i64 34]) (by simp [results, Try.results12, go_sem, *]) rfl ⟨rfl, below_set4 (hb2.trans (below_drewN _ _ _))⟩
      by_cases h6 : live - s.length < K
      · rw [if_pos (by omega)] at hq
        subst hq
        go_wp2
        exact bodyPost_ret (v := .tuple #[.agg #[.int .i64 K, .int .i64 R, .int .i64 B, .slice At l.length ct], .int .i64 34]) (by simp [results, Try.results12, go_sem, *]) rfl ⟨rfl, below_set4 (hb2.trans (below_drewN _ _ _))⟩
      rw [if_neg (by omega)] at hq
      by_cases h7 : R < mostM s l
      · rw [if_pos h7] at hq
        subst hq
        have HT : Hid (∀ n, Calls Try.prog 20 #[.slice At l.length ct, .slice A s.length cap] (((w.alloc (.cells #[.int .i64 K, .int .i64 R, .int .i64 B, .slice At l.length ct] 33)).alloc (.cells #[.int .i64 0, .int .i64 0, .int .i64 0, .slice none 0 0] 33)).drewN (d + n)) fun e w'' => e = .returned (.int .i64 (mostM s l)) ∧ ∃ m, w'' = ((w.alloc (.cells #[.int .i64 K, .int .i64 R, .int .i64 B, .slice At l.length ct] 33)).alloc (.cells #[.int .i64 0, .int .i64 0, .int .i64 0, .slice none 0 0] 33)).drewN (d + m)) := fun n => by
          have hbn := hb2.trans (below_drewN _ _ (d + n))
          refine (refMostA_calls _ At ct _ l s (by omega) (tol_cells T1.out T2.out (hbn.trans (Below.refl _ _)) hb0) (IsI.keep HS.out (Same.below' hbn))).mono ?_
          rintro e w' ⟨rfl, m, rfl⟩
          exact ⟨rfl, n + m, by rw [World.drewN_drewN, Nat.add_assoc]⟩
        obtain ⟨q, hq⟩ : ∃ q, q = mostM s l := ⟨_, rfl⟩
        rw [← hq] at HT h7
        clear hq
        go_wp2
        go_quiet ((go_at_call 20; exact HT.out _))
        go_wp2
        exact bodyPost_ret (v := .tuple #[.agg #[.int .i64 K, .int .i64 R, .int .i64 B, .slice At l.length ct], .int .i64 35]) (by simp [results, Try.results12, go_sem, *]) rfl ⟨rfl, below_set4 (hb2.trans (below_drewN _ _ _))⟩
      · rw [if_neg h7] at hq
        exact absurd hq hno
set_option maxRecDepth 100000 in
set_option maxHeartbeats 4000000 in
theorem refAsk_yes (w0 w : World) (base : Nat) (K R B live : Int) (tv v : Value) (l : List (List Int)) (s : List Int) (ht : Tol base w0 w tv l) (hb0 : Below w0.heap.size w0 w) (hn : l.length ≤ 1000) (hlb : (l.length : Int) ≤ B) (hk : 1 ≤ K ∧ K ≤ 4096) (hs0 : IsI 0 (fun _ => 0) w0 v s) (hlv : -9223372036854775808 ≤ live ∧ live ≤ 9223372036854775807)
    (hyes : askM K R B l s live = 0) :
    Calls Try.prog 12 #[.agg #[.int .i64 K, .int .i64 R, .int .i64 B, tv], v, .int .i64 live] w fun e w' => ∃ tv', e = .returned (.tuple #[.agg #[.int .i64 K, .int .i64 R, .int .i64 B, tv'], .int .i64 0]) ∧ Tol w.heap.size w0 w' tv' (l ++ [s]) ∧ Below w.heap.size w w' := by
  have hs := IsI.keep hs0 (Same.below' hb0)
  obtain ⟨A, cap, rfl, a1, a2, a3, -⟩ := id hs
  unfold askM at hyes
  obtain ⟨vs, t1, t2⟩ := ht
  have hvl : vs.length = l.length := by have := t1.1; omega
  have H1 := Lib.hid (Tol.one t1 t2)
  obtain ⟨At, ct, rfl⟩ := owns_form t1
  have HS := Lib.hid hs
  have HS0 := Lib.hid hs0
  have T1 := Lib.hid t1
  have T2 := Lib.hid t2
  have hb1 : Below w.heap.size w (w.alloc (.cells #[.int .i64 K, .int .i64 R, .int .i64 B, .slice At l.length ct] 33)) := (Below.refl _ _).alloc (Nat.le_refl _) _
  have hb2 := hb1.alloc hb1.size (.cells #[.int .i64 0, .int .i64 0, .int .i64 0, .slice none 0 0] 33)
  clear hs t1 t2 hs0
  unfold maxLen at a2
  by_cases hr : rightM 0 s = false
  · rw [if_pos hr] at hyes; cases hyes
  rw [if_neg hr] at hyes
  by_cases h3 : B - l.length = 0
  · rw [if_pos h3] at hyes; cases hyes
  rw [if_neg h3] at hyes
  by_cases h4 : (s.length : Int) < K ∨ live < K ∨ live - K < s.length
  · rw [if_pos h4] at hyes; cases hyes
  rw [if_neg h4] at hyes
  by_cases h7 : R < mostM s l
  · rw [if_pos h7] at hyes; cases hyes
  have HR : Hid (rightM 0 s = true) := by show _ = _; simpa using hr
  have g3 : ¬ B ≤ l.length := by omega
  have g4 : ¬ (s.length : Int) < K := by omega
  have g5 : ¬ live < s.length := by omega
  have g6 : ¬ live - s.length < K := by omega
  clear hr h4 hyes h3
  obtain ⟨i0, hi0, hz0, hz1, hz2⟩ := info_parts infoII
  go_enter Try.func12, Try.ntmps12
  go_wp2_with fail
  refine (refRight_calls _ _ _ (IsI.keep HS.out (Same.below' hb2))).mono ?_
  rintro e w1 ⟨rfl, d, rfl⟩
  rw [HR.out]
  have HT : Hid (∀ n, Calls Try.prog 20 #[.slice At l.length ct, .slice A s.length cap] (((w.alloc (.cells #[.int .i64 K, .int .i64 R, .int .i64 B, .slice At l.length ct] 33)).alloc (.cells #[.int .i64 0, .int .i64 0, .int .i64 0, .slice none 0 0] 33)).drewN (d + n)) fun e w'' => e = .returned (.int .i64 (mostM s l)) ∧ ∃ m, w'' = ((w.alloc (.cells #[.int .i64 K, .int .i64 R, .int .i64 B, .slice At l.length ct] 33)).alloc (.cells #[.int .i64 0, .int .i64 0, .int .i64 0, .slice none 0 0] 33)).drewN (d + m)) := fun n => by
    have hbn := hb2.trans (below_drewN _ _ (d + n))
    refine (refMostA_calls _ At ct _ l s (by omega) (tol_cells T1.out T2.out (hbn.trans (Below.refl _ _)) hb0) (IsI.keep HS.out (Same.below' hbn))).mono ?_
    rintro e w' ⟨rfl, m, rfl⟩
    exact ⟨rfl, n + m, by rw [World.drewN_drewN, Nat.add_assoc]⟩
  obtain ⟨q, hq⟩ : ∃ q, q = mostM s l := ⟨_, rfl⟩
  rw [← hq] at HT h7
  clear hq
  go_wp2
  go_quiet ((go_at_call 20; exact HT.out _))
  obtain ⟨W4, hW4⟩ : ∃ W4, W4 = (((w.alloc (.cells #[.int .i64 K, .int .i64 R, .int .i64 B, .slice At l.length ct] 33)).alloc (.cells #[.int .i64 0, .int .i64 0, .int .i64 0, .slice none 0 0] 33)).drewN d).drewN nq := ⟨_, rfl⟩
  have hb4 : Below w.heap.size w W4 := by rw [hW4]; exact (hb2.trans (below_drewN _ _ d)).trans (below_drewN _ _ nq)
  have hs4 : w.heap.size + 2 ≤ W4.heap.size := by rw [hW4]; simp
  have kB : W4.heap[w.heap.size]? = some (.cells #[.int .i64 K, .int .i64 R, .int .i64 B, .slice At l.length ct] 33) := by
    rw [hW4]; exact ((Below.heap_alloc (w.alloc _) _ _ (by simp)).trans (heap_alloc_at _ _) : ((w.alloc _).alloc _).heap[_]? = _)
  have kC : W4.heap[w.heap.size + 1]? = some (.cells #[.int .i64 0, .int .i64 0, .int .i64 0, .slice none 0 0] 33) := by
    rw [hW4]; have := heap_alloc_at (w.alloc (.cells #[.int .i64 K, .int .i64 R, .int .i64 B, .slice At l.length ct] 33)) (.cells #[.int .i64 0, .int .i64 0, .int .i64 0, .slice none 0 0] 33); simpa using this
  rw [← hW4]
  clear hW4 HT hb2 hb1
  obtain ⟨⟨b0, b1, b2, b3⟩, fb0, fb1, fb2, fb3⟩ := cells4 kB
  have o5 := World.ownsRow_made (base := w.heap.size + 2) (e := 23) (size := 1) W4 #[] 0 (by omega) (Nat.zero_le _) rfl
  have hV := isV_own (c := 0) (χ := fun _ => 0) (owns_same T1.out fun b e => ((Below.refl _ W4).alloc (Nat.le_refl _) (.cells #[] 23)).block b (by have := (T1.out.lt b e).2; omega) |>.trans (hb4.block b (T1.out.lt b e).2)) (by omega) (fun _ _ => rfl) H1.out
  have T0 : True := trivial
  have hvl2 : vs.length ≤ 1000 := by omega
  have HVL := Lib.hid hvl
  clear hvl
  go_wp2_with (first
    | (at_builtin; clear T0; refine wpList_append_L 22 23 i0 _ Try.underlying22 hi0 hz0 hz1 hz2 rfl (by omega) (by omega) (fun x => [x]) (fun _ _ _ _ h => h.1) rV_one rfl _ _ rfl (w.heap.size + 2) _ 0 [] rfl o5 _ vs rfl hV (by omega) (by simp; omega) ?_; intro v5 w5 ho5 hg5 hat5
       rw [Nat.zero_add, List.nil_append, flat_one] at ho5
       obtain ⟨A5, c5, rfl⟩ := owns_form ho5
       have k5 : ∀ b, b < w.heap.size + 2 → w5.heap[b]? = W4.heap[b]? := fun b hb => (hg5.block b (by simp; omega) (by intro e; have e2 : b = W4.heap.size := Option.some.inj e; omega)).trans (Below.heap_alloc _ _ _ (by omega))
       have s5 : W4.heap.size + 1 ≤ w5.heap.size := by have := hg5.size; simpa using this
       have l5 := ho5.lt)
    | (at_builtin; refine wpList_append_own_at _ rfl _ _ 22 rfl (w.heap.size + 2) 23 i0 _ 1 24 Try.underlying22 hi0 hz0 hz1 hz2 rfl (by decide) _ _ _ rfl (ho5.alloc _) ⟨_, 0, none⟩ 1 1 [.slice A s.length cap] rfl rfl (cell_one_new _ _ _) (by simp [Value.oneCell']) (by unfold maxLen; omega) (by omega) (by simp; omega) ?_; intro v6 w6 ho6 hg6 _ hat6
       obtain ⟨A6, c6, rfl⟩ := owns_form ho6
       have k6 : ∀ b, b < w.heap.size + 2 → w6.heap[b]? = W4.heap[b]? := fun b hb => (hg6.block b (by simp; omega) (by intro e; have := (l5 b e.symm).1; omega)).trans ((Below.heap_alloc _ _ _ (by omega)).trans (k5 b hb))
       have kB6 := (k6 w.heap.size (by omega)).trans kB
       have kC6 := (k6 (w.heap.size + 1) (by omega)).trans kC
       have s6 : w5.heap.size + 1 ≤ w6.heap.size := by have := hg6.size; simpa using this
       have hb6 : Below w.heap.size w w6 := ⟨hg6.os.trans (hg5.os.trans hb4.os), hg6.tape.trans (hg5.tape.trans hb4.tape), hg6.output.trans (hg5.output.trans hb4.output), by omega, fun b hb => (k6 b (by omega)).trans (hb4.block b hb)⟩
       clear b0 b1 b2 b3 fb0 fb1 fb2 fb3 hg5 hg6 hat5 hat6 hV o5 kB kC
       obtain ⟨⟨b0, b1, b2, b3⟩, fb0, fb1, fb2, fb3⟩ := cells4 kB6
       obtain ⟨⟨d0, d1, d2, d3⟩, fd0, fd1, fd2, fd3⟩ := cells4 kC6))
  have hT : Tol w.heap.size w0 (((((w6.setCell ⟨w.heap.size, 3, none⟩ (.slice A6 (vs.length + 1) c6)).setCell ⟨w.heap.size + 1, 0, none⟩ (.int .i64 K)).setCell ⟨w.heap.size + 1, 1, none⟩ (.int .i64 R)).setCell ⟨w.heap.size + 1, 2, none⟩ (.int .i64 B)).setCell ⟨w.heap.size + 1, 3, none⟩ (.slice A6 (vs.length + 1) c6)) (.slice A6 (vs.length + 1) c6) (l ++ [s]) := by
    refine ⟨vs ++ [.slice A s.length cap], ?_, fun i hi => ?_⟩
    · rw [List.length_append, ← HVL.out]
      refine owns_same (ho6.mono_base (by omega)) fun b e => ?_
      have hb := (ho6.lt b e).1
      have n1 : b ≠ w.heap.size := by omega
      have n2 : b ≠ w.heap.size + 1 := by omega
      rw [Below.heap_setCell _ _ _ _ n2, Below.heap_setCell _ _ _ _ n2, Below.heap_setCell _ _ _ _ n2, Below.heap_setCell _ _ _ _ n2, Below.heap_setCell _ _ _ _ n1]
    · rw [List.length_append] at hi
      by_cases hil : i < l.length
      · obtain ⟨x, e, hx⟩ := T2.out i hil
        exact ⟨x, by rw [List.getElem?_append_left (by rw [HVL.out]; exact hil)]; exact e, by rw [List.getElem_append_left hil]; exact hx⟩
      · have hie : i = l.length := by simp at hi; omega
        subst hie
        exact ⟨.slice A s.length cap, by rw [← HVL.out]; simp, by simpa using HS0.out⟩
  have hB := below_set4 (g := w.heap.size + 1) (v0 := .int .i64 K) (v1 := .int .i64 R) (v2 := .int .i64 B) (v3 := .slice A6 (vs.length + 1) c6) (Below.setCell (p := ⟨w.heap.size, 3, none⟩) hb6 (Nat.le_refl _) (.slice A6 (vs.length + 1) c6)) (by omega)
  exact bodyPost_ret (v := .tuple #[.agg #[.int .i64 K, .int .i64 R, .int .i64 B, .slice A6 (vs.length + 1) c6], .int .i64 0]) (by simp [results, Try.results12, go_sem, *]) rfl ⟨_, rfl, hT, hB⟩
end Go.Proofs.Ytlaohilchcjffaa
