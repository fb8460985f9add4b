import Derived.Test.YtjlkkbjolfhobaaDoorArU
import Derived.Test.YtjlkkbjolfhobaaDoorArR
namespace Go.Proofs.YtjlkkbjolfhobaaDoor
open Go.RowKit
attribute [local go_sem] World.cell?_alloc_some frozen_alloc_some

/-- label by label what two areas come to. -/
def bldA (a b : Ar) (kind : Int) (n : Nat) : Ar := (List.range n).map fun i => buildL (atA a i) (atA b i) kind
theorem bldA_len (a b : Ar) (kind : Int) (n : Nat) : (bldA a b kind n).length = n := by simp [bldA]
theorem bldA_succ (a b : Ar) (kind : Int) (n : Nat) : bldA a b kind (n + 1) = bldA a b kind n ++ [buildL (atA a n) (atA b n) kind] := by simp [bldA, List.range_succ]
theorem own_empty (w : World) (χ : Col) (h : χ w.heap.size = 1) : OwnA w.heap.size χ (w.alloc (.cells #[] 32)) (.slice (some ⟨w.heap.size, 0, none⟩) 0 0) [] :=
  ⟨[], ⟨rfl, .inr ⟨_, 0, #[], rfl, Nat.le_refl _, heap_alloc_at _ _, Nat.le_refl _, Nat.zero_le _, rfl, rfl⟩⟩, fun b e => by cases e; exact h, fun i hi => by simp at hi⟩

set_option maxRecDepth 100000 in
set_option maxHeartbeats 4000000 in
theorem refbuild_calls (w : World) (v u : Value) (a b : Ar) (kind : Int) (ha : RdA w v a) (hb : RdA w u b) (la : a.length ≤ 100) (lb : b.length ≤ 100) (sa : Sm 1000 a) (sb : Sm 1000 b) (hkind : kind = 0 ∨ kind = 1 ∨ kind = 2 ∨ kind = 3) :
    Calls Tryd.prog 10 #[v, u, .int .i64 kind] w fun e w' => ∃ v', e = .returned v' ∧ RdA w' v' (bldA a b kind (max a.length b.length)) ∧ Below w.heap.size w w' := by
  obtain ⟨A, cap, rfl, a1, a2, a3, -⟩ := id ha
  obtain ⟨B, bcap, rfl, b1, b2, b3, -⟩ := id hb
  clear a1 a2 a3 b1 b2 b3
  have HA := Lib.hid ha
  have HB := Lib.hid hb
  have SA := Lib.hid sa
  have SB := Lib.hid sb
  have HK := Lib.hid hkind
  clear ha hb sa sb hkind
  obtain ⟨N, hN⟩ : ∃ N, N = max a.length b.length := ⟨_, rfl⟩
  have hN1 : N ≤ 100 := by omega
  have hNa : a.length ≤ N := by omega
  have hNb : b.length ≤ N := by omega
  have HN : Hid (∀ k, k < N → k < a.length ∨ k < b.length) := fun k hk => by omega
  rw [← hN]
  clear hN
  have hb0 := (Below.refl w.heap.size w).alloc (Nat.le_refl _) (.cells #[] 32)
  obtain ⟨i0, hi0, hz0, hz1, hz2⟩ := info_parts infoSl
  go_enter Tryd.func10, Tryd.ntmps10
  go_wp2
  go_loopw [7, 8] (fun o i wr => ∃ (k : Nat) (χ : Col), k ≤ N ∧ i = .int .i64 k ∧ OwnA w.heap.size χ wr o (bldA a b kind k) ∧ Below w.heap.size w wr) (fun _ i _ => N - (intOf i).toNat)
  case atStart => exact ⟨0, fun _ => 1, by omega, rfl, own_empty w _ rfl, hb0⟩
  case round =>
    obtain ⟨k, χ, hk, rfl, O, hbr⟩ := hrel
    have HBS := Lib.hid (bldA_succ a b kind k)
    have HBL := Lib.hid (bldA_len a b kind k)
    by_cases hlt : k < N
    · have HAr := Lib.hid (HA.out.keep hbr)
      have HBr := Lib.hid (HB.out.keep hbr)
      have HO := Lib.hid O
      have hal := SA.out.at k
      have hbl := SB.out.at k
      obtain ⟨vs0, o0, -⟩ := id O
      obtain ⟨A0, c0, rfl⟩ := owns_form o0
      rw [HBL.out] at HO ⊢
      clear O o0
      have hab := HN.out k hlt
      by_cases hka : k < a.length
      all_goals
        first | (have hkb : k < b.length := hab.resolve_left hka) | skip
        clear hab
        go_wp2_with fail
        refine (refatN_calls _ _ _ k HAr.out).mono ?_
        rintro e w1 ⟨u1, A1, c1, rfl, rfl, R1, rfl⟩
        have HR1 := Lib.hid R1
        clear R1
        go_wp2_with fail
        refine (refatN_calls _ _ _ k HBr.out).mono ?_
        rintro e w1 ⟨u2, A2, c2, rfl, rfl, R2, rfl⟩
        have HR2 := Lib.hid R2
        clear R2
        go_wp2_with fail
        refine (build_calls _ _ _ _ _ kind HR1.out HR2.out (by omega) (by omega) HK.out).mono ?_
        rintro e w5 ⟨v5, rfl, N5, hb5⟩
        obtain ⟨A5, c5, rfl⟩ := N5.form
        have hl5 := N5.2.2
        obtain ⟨l5, hl5e⟩ : ∃ l5, l5 = buildL (atA a k) (atA b k) kind := ⟨_, rfl⟩
        rw [← hl5e] at N5 HBS hl5 ⊢
        have O5 := HO.out.keep (χ' := paint χ wr.heap.size 2) (Same.below 2 hb5)
        have I5 := N5.col (c := 2) (χ := paint χ wr.heap.size 2) (fun b hb => paint_high hb)
        obtain ⟨vs, o1, o2, o3⟩ := O5
        rw [HBL.out] at o1
        have hz5 := hb5.size
        have hz0' := hbr.size
        have hbw := hbr.trans (hb5.mono hbr.size)
        clear N5 HO hb5 hl5e
        go_wp2_with (at_builtin; refine wpList_append_own_at _ rfl _ _ 22 rfl w.heap.size 32 i0 _ 1 24 Tryd.underlying22 hi0 hz0 hz1 hz2 rfl (by decide) _ _ _ rfl (o1.alloc _) ⟨w5.heap.size, 0, none⟩ 1 1 [.slice A5 l5.length c5] rfl rfl (World.news_of_block (heap_alloc_new w5 _)) (by simp [Value.oneCell']) (by unfold maxLen; omega) (by omega) (by simp; omega) ?_; intro v' w6 hown' hgrow _ hat)
        have hb6 := hbw.trans (push_base o1 hgrow (N := w.heap.size) (Nat.le_refl _) (by omega))
        have O6 := OwnA.push (by rw [HBL.out]; exact o1) o2 o3 I5 (by rw [HBL.out]; exact hown') hgrow hat
        rw [← HBS.out] at O6
        refine ⟨⟨k + 1, _, hlt, by go_num, O6, hb6⟩, by simp [intOf]; omega⟩
    · have hkN : k = N := by omega
      subst hkN
      have hR : Hid (RdA wr _ _) := O.rd (by rw [HBL.out]; omega)
      obtain ⟨vs0, o0, -⟩ := id O
      obtain ⟨A0, c0, rfl⟩ := owns_form o0
      have hka : ¬ k < a.length := by omega
      have hkb : ¬ k < b.length := by omega
      clear O o0
      go_wp2
      go_ret
      exact ⟨_, rfl, hR.out, hbr⟩

theorem ofL_succ (k : Nat) (pre : List Nat) (m : List Sp) : ofL (k + 1) pre m = ofL k pre m ++ [if k ∈ pre then m else []] := by
  unfold ofL; rw [List.range_succ, List.map_append]; rfl
theorem isl_empty (c : Nat) (χ : Col) (w : World) (g : Nat) : IsL 2 rSpan c χ w (.slice (some ⟨g, 0, none⟩) 0 0) [] := ⟨_, 0, rfl, Nat.le_refl _, Nat.zero_le _, ⟨Nat.zero_le _, fun h => by cases h⟩, fun i hi => by simp at hi⟩
set_option maxRecDepth 100000 in
set_option maxHeartbeats 4000000 in
theorem refof_calls (w : World) (n : Int) (mask : Nat) (v : Value) (l : List Sp) (hr : RdS w v l) (hl : l.length ≤ 10000) (hm : mask < 4294967296) :
    Calls Tryd.prog 17 #[.int .i64 n, .int .u32 mask, v] w fun e w' => ∃ v', e = .returned v' ∧ RdA w' v' (ofL (min (max n 0) 16).toNat (bitsN mask) (nf l)) ∧ Below w.heap.size w w' := by
  obtain ⟨A, cap, rfl, -⟩ := id hr
  have HR := Lib.hid hr
  clear hr
  obtain ⟨N, hN⟩ : ∃ N : Nat, (N : Int) = min (max n 0) 16 := ⟨(min (max n 0) 16).toNat, by omega⟩
  have hN16 : N ≤ 16 := by omega
  have HH : Hid (∀ w : World, Calls Tryd.prog 37 #[.int .i64 n, .int .i64 0, .int .i64 16] w fun e w' => e = .returned (.int .i64 N) ∧ w' = w) := fun w => by
    rw [hN]; exact held_calls w n
  rw [← hN, Int.toNat_natCast]
  clear hN
  have hb0 := (Below.refl w.heap.size w).alloc (Nat.le_refl _) (.cells #[] 32)
  obtain ⟨i0, hi0, hz0, hz1, hz2⟩ := info_parts infoSl
  go_enter Tryd.func17, Tryd.ntmps17
  go_wp2
  go_loopw [7, 8] (fun o i wr => ∃ (k : Nat) (χ : Col), k ≤ N ∧ i = .int .i64 k ∧ OwnA w.heap.size χ wr o (ofL k (bitsN mask) (nf l)) ∧ Below w.heap.size w wr) (fun _ i _ => N - (intOf i).toNat)
  case atStart => exact ⟨0, fun _ => 1, by omega, rfl, own_empty w _ rfl, hb0⟩
  case round =>
    obtain ⟨k, χ, hk, rfl, O, hbr⟩ := hrel
    have HBS := Lib.hid (ofL_succ k (bitsN mask) (nf l))
    have HBL := Lib.hid (ofL_len k (bitsN mask) (nf l))
    by_cases hlt : k < N
    · have hzr := hbr.size
      have hbA := (Below.refl wr.heap.size wr).alloc (Nat.le_refl _) (.cells #[] 37)
      have HRr := Lib.hid ((HR.out.keep hbr).keep hbA)
      have HO := Lib.hid O
      obtain ⟨vs0, o0, -⟩ := id O
      obtain ⟨A0, c0, rfl⟩ := owns_form o0
      rw [HBL.out] at HO ⊢
      clear O o0
      have HBA := Lib.hid hbA
      clear hbA
      go_wp2_with fail
      refine (HH.out _).mono ?_
      rintro e wr ⟨rfl, rfl⟩
      cases qb : mask.testBit k with
      | true =>
        have HP : Hid ((if k ∈ bitsN mask then nf l else []) = nf l) := if_pos (bitsN_mem.2 ⟨by omega, qb⟩)
        go_wp2_with fail
        refine (refbit_calls _ mask k hm (by omega)).mono ?_
        rw [qb]
        rintro e wr ⟨rfl, rfl⟩
        clear qb
        go_wp2_with fail
        refine (refMake_calls _ _ _ HRr.out hl).mono ?_
        rintro e w5 ⟨v5, rfl, N5, hb5⟩
        obtain ⟨A5, c5, rfl⟩ := N5.form
        have hl5 := N5.2.2
        have hb5 := HBA.out.trans (hb5.mono HBA.out.size)
        rw [HP.out] at HBS
        have N5 : NewS _ w5 (.slice A5 (nf l).length c5) (nf l) := N5
        have hl5 : (nf l).length ≤ 1000000 := hl5
        have O5 := HO.out.keep (χ' := paint χ wr.heap.size 2) (Same.below 2 hb5)
        have I5 := N5.col (c := 2) (χ := paint χ wr.heap.size 2) (fun b hb => paint_high (by have := HBA.out.size; omega))
        obtain ⟨vs, o1, o2, o3⟩ := O5
        rw [HBL.out] at o1
        have hz5 := hb5.size
        have hbw := hbr.trans (hb5.mono hbr.size)
        clear N5 HO hb5 HRr
        go_wp2_with (at_builtin; refine wpList_append_own_at _ rfl _ _ 22 rfl w.heap.size 32 i0 _ 1 24 Tryd.underlying22 hi0 hz0 hz1 hz2 rfl (by decide) _ _ _ rfl (o1.alloc _) ⟨w5.heap.size, 0, none⟩ 1 1 [.slice A5 (nf l).length c5] rfl rfl (World.news_of_block (heap_alloc_new w5 _)) (by simp [Value.oneCell']) (by unfold maxLen; omega) (by omega) (by simp; omega) ?_; intro v' w6 hown' hgrow _ hat)
        have hb6 := hbw.trans (push_base o1 hgrow (N := w.heap.size) (Nat.le_refl _) (by omega))
        have O6 := OwnA.push (by rw [HBL.out]; exact o1) o2 o3 I5 (by rw [HBL.out]; exact hown') hgrow hat
        rw [← HBS.out] at O6
        refine ⟨⟨k + 1, _, hlt, by go_num, O6, hb6⟩, by simp [intOf]; omega⟩
      | false =>
        have HP : Hid ((if k ∈ bitsN mask then nf l else []) = []) := if_neg fun h => by have := (bitsN_mem.1 h).2; rw [qb] at this; simp at this
        go_wp2_with fail
        refine (refbit_calls _ mask k hm (by omega)).mono ?_
        rw [qb]
        rintro e wr ⟨rfl, rfl⟩
        clear qb
        rw [HP.out] at HBS
        have O5 := HO.out.keep (χ' := paint χ wr.heap.size 2) (Same.below 2 HBA.out)
        obtain ⟨vs, o1, o2, o3⟩ := O5
        rw [HBL.out] at o1
        have hbw := hbr.trans (HBA.out.mono hbr.size)
        have hzA := HBA.out.size
        obtain ⟨w5, hw5⟩ : ∃ w5, w5 = wr.alloc (.cells #[] 37) := ⟨_, rfl⟩
        rw [← hw5] at o1 o3 hbw hzA ⊢
        have I5 := isl_empty 2 (paint χ wr.heap.size 2) w5 wr.heap.size
        clear HO HRr HBA hw5
        go_wp2_with (at_builtin; refine wpList_append_own_at _ rfl _ _ 22 rfl w.heap.size 32 i0 _ 1 24 Tryd.underlying22 hi0 hz0 hz1 hz2 rfl (by decide) _ _ _ rfl (o1.alloc _) ⟨w5.heap.size, 0, none⟩ 1 1 [.slice (some ⟨wr.heap.size, 0, none⟩) 0 0] rfl rfl (World.news_of_block (heap_alloc_new w5 _)) (by simp [Value.oneCell']) (by unfold maxLen; omega) (by omega) (by simp; omega) ?_; intro v' w6 hown' hgrow _ hat)
        have hb6 := hbw.trans (push_base o1 hgrow (N := w.heap.size) (Nat.le_refl _) (by omega))
        have O6 := OwnA.push (by rw [HBL.out]; exact o1) o2 o3 I5 (by rw [HBL.out]; exact hown') hgrow hat
        rw [← HBS.out] at O6
        refine ⟨⟨k + 1, _, hlt, by go_num, O6, hb6⟩, by simp [intOf]; omega⟩
    · have hkN : k = N := by omega
      subst hkN
      have hR : Hid (RdA wr _ _) := O.rd (by rw [HBL.out]; omega)
      obtain ⟨vs0, o0, -⟩ := id O
      obtain ⟨A0, c0, rfl⟩ := owns_form o0
      clear O o0
      go_wp2_with fail
      refine (HH.out _).mono ?_
      rintro e wr ⟨rfl, rfl⟩
      go_wp2
      go_ret
      exact ⟨_, rfl, hR.out, hbr⟩

theorem bldA_at {a b : Ar} {kind : Int} {n : Nat} (i : Nat) (h : i < n) : atA (bldA a b kind n) i = buildL (atA a i) (atA b i) kind := by
  rw [atA_lt (by rw [bldA_len]; exact h)]; simp [bldA]
theorem atA_wf {a : Ar} (h : ∀ l ∈ a, WfS l) (i : Nat) : WfS (atA a i) := by
  by_cases c : i < a.length
  · rw [atA_lt c]; exact h _ (List.getElem_mem c)
  · rw [atA_ge (by omega)]; exact WfS.nil
theorem empty_bld {a b : Ar} (wa : ∀ l ∈ a, WfS l) (wb : ∀ l ∈ b, WfS l) : emptyB (bldA a b 2 (max a.length b.length)) = subB a b := eq_of_iff (by
  rw [emptyB_iff, subB_iff]
  constructor
  · intro h i k hk
    by_cases c : i < max a.length b.length
    · have h1 := h i k
      rw [bldA_at i c, (build2_spec (atA_wf wa i) (atA_wf wb i)).iff] at h1
      exact Classical.byContradiction fun h2 => h1 ⟨hk, h2⟩
    · rw [atA_ge (by omega)] at hk; exact (mem_nil hk).elim
  · intro h i k hk
    by_cases c : i < max a.length b.length
    · rw [bldA_at i c, (build2_spec (atA_wf wa i) (atA_wf wb i)).iff] at hk
      exact hk.2 (h i k hk.1)
    · rw [atA_ge (by rw [bldA_len]; omega)] at hk; exact (mem_nil hk).elim)
theorem cutsL_len (l : List Sp) : (cutsL l).length ≤ 2 * l.length + 2 := by
  refine snoc_ind (P := fun l => (cutsL l).length ≤ 2 * l.length + 2) (by simp [cutsL]) (fun l x ih => ?_) l
  rw [cutsL_snoc, List.length_append, List.length_singleton]
  unfold cutStep
  split
  · have h1 := insC_len x.1 (cutsL l)
    have h2 := insC_len (x.2 + 1) (insC x.1 (cutsL l))
    omega
  · omega
theorem sm_bld {a b : Ar} (sa : Sm 400 a) (sb : Sm 400 b) : Sm 10000 (bldA a b 2 (max a.length b.length)) := fun l hl => by
  simp only [bldA, List.mem_map] at hl
  obtain ⟨i, -, rfl⟩ := hl
  have h1 := sa.at i
  have h2 := sb.at i
  refine Nat.le_trans (buildN_len _ _ _) ?_
  have h3 := cutsL_len (atA a i ++ atA b i)
  rw [List.length_append] at h3
  omega
theorem refsame_calls (w : World) (v u : Value) (a b : Ar) (ha : RdA w v a) (hb : RdA w u b) (la : a.length ≤ 100) (lb : b.length ≤ 100) (sa : Sm 400 a) (sb : Sm 400 b) :
    Calls Tryd.prog 25 #[v, u] w fun e w' => e = .returned (.bool (subB a b && subB b a)) ∧ Below w.heap.size w w' := by
  obtain ⟨A, cap, rfl, -⟩ := id ha
  obtain ⟨B, bcap, rfl, -⟩ := id hb
  have wa := rdA_wf ha
  have wb := rdA_wf hb
  have HL := Lib.hid ((RdAA.nil.cons ha).cons hb)
  have SA : Hid (Sm 1000 a) := sa.mono (by omega)
  have SB : Hid (Sm 1000 b) := sb.mono (by omega)
  have E1 := Lib.hid (empty_bld wa wb)
  have E2 := Lib.hid (empty_bld wb wa)
  have M1 := Lib.hid (sm_bld sa sb)
  have M2 := Lib.hid (sm_bld sb sa)
  clear ha hb sa sb wa wb
  rw [Nat.max_comm b.length] at E2 M2
  go_enter Tryd.func25, Tryd.ntmps25
  go_wp2_with fail
  refine (refbuild_calls _ _ _ a b 2 (HL.out.at_ 1 rfl) (HL.out.at_ 0 rfl) la lb SA.out SB.out (by omega)).mono ?_
  rintro e w1 ⟨v1, rfl, R1, hb1⟩
  obtain ⟨A1, c1, rfl, -⟩ := id R1
  have HR1 := Lib.hid R1
  have HL := Lib.hid (HL.out.keep hb1)
  clear R1
  go_wp2_with fail
  refine (refempty_calls _ _ _ HR1.out M1.out).mono ?_
  rw [E1.out]
  rintro e w2 ⟨rfl, hb2⟩
  have HL := Lib.hid (HL.out.keep hb2)
  have hbw := hb1.trans (hb2.mono hb1.size)
  obtain ⟨q, hq⟩ : ∃ q, q = subB a b := ⟨_, rfl⟩
  rw [← hq]
  have HQ := Lib.hid hq
  clear hq hb1 hb2
  cases q with
  | false =>
    go_wp2
    go_ret
    exact ⟨ret_bool (by rw [← HQ.out]; rfl), hbw⟩
  | true =>
    go_wp2_with fail
    refine (refbuild_calls _ _ _ b a 2 (HL.out.at_ 0 rfl) (HL.out.at_ 1 rfl) lb la SB.out SA.out (by omega)).mono ?_
    rw [Nat.max_comm b.length]
    rintro e w3 ⟨v3, rfl, R3, hb3⟩
    obtain ⟨A3, c3, rfl, -⟩ := id R3
    have HR3 := Lib.hid R3
    have hbw := hbw.trans (hb3.mono hbw.size)
    clear R3 hb3
    go_wp2_with fail
    refine (refempty_calls _ _ _ HR3.out M2.out).mono ?_
    rw [E2.out]
    rintro e w4 ⟨rfl, hb4⟩
    have hbw := hbw.trans (hb4.mono hbw.size)
    clear hb4
    go_wp2
    go_ret
    exact ⟨ret_bool (by rw [← HQ.out]; rfl), hbw⟩
/-- is a cell in an area, as the document has it? -/
def inI (a : Ar) (lab : Int) (key : Nat) : Bool := memB key (atI a lab)
theorem inI_eq (a : Ar) (lab : Int) (key : Nat) : inI a lab key = inA a lab key := by
  unfold inI inA atI
  by_cases h : lab < 0
  · rw [if_pos h, decide_eq_false (by omega), Bool.false_and]
    exact Bool.eq_false_iff.2 fun g => mem_nil (memB_iff.1 g)
  · rw [if_neg h, decide_eq_true (by omega), Bool.true_and]
set_option maxHeartbeats 1000000 in
theorem refat_q (w : World) (v : Value) (a : Ar) (i : Int) (hr : RdA w v a) :
    ∃ u A c, u = .slice A (atI a i).length c ∧ RdS w u (atI a i) ∧ ∀ n, Calls Tryd.prog 16 #[v, .int .i64 i] (w.drewN n) fun e w' => e = .returned u ∧ w' = w.drewN n := by
  obtain ⟨A, cap, rfl, a1, a2, a3, -⟩ := id hr
  unfold maxLen at a2
  have HR := Lib.hid hr
  clear hr
  by_cases h0 : i < 0
  · have HA : Hid (atI a i = []) := by unfold atI; rw [if_pos h0]; rfl
    refine ⟨.slice none 0 0, none, 0, by rw [HA.out]; rfl, by rw [HA.out]; exact RdS.nil, fun n => ?_⟩
    go_enter Tryd.func16, Tryd.ntmps16
    go_wp2
    go_ret
    exact ⟨rfl, rfl⟩
  · obtain ⟨i, rfl⟩ : ∃ n : Nat, i = n := ⟨i.toNat, by omega⟩
    rw [atI_nat]
    by_cases hlt : i < a.length
    · obtain ⟨b, o, u, rfl, hc, hu⟩ := HR.out.get i hlt
      have HU := Lib.hid hu
      obtain ⟨A', c', rfl, -⟩ := id hu
      have HA := Lib.hid (atA_lt hlt)
      clear hu
      refine ⟨.slice A' a[i].length c', A', c', by rw [HA.out], by rw [HA.out]; exact HU.out, fun n => ?_⟩
      go_enter Tryd.func16, Tryd.ntmps16
      go_wp2
      go_ret
      exact ⟨rfl, rfl⟩
    · have HA := Lib.hid (atA_ge (a := a) (i := i) (by omega))
      refine ⟨.slice none 0 0, none, 0, by rw [HA.out]; rfl, by rw [HA.out]; exact RdS.nil, fun n => ?_⟩
      go_enter Tryd.func16, Tryd.ntmps16
      go_wp2
      go_ret
      exact ⟨rfl, rfl⟩
set_option maxRecDepth 100000 in
set_option maxHeartbeats 4000000 in
theorem refhas_calls (w : World) (v : Value) (a : Ar) (lab : Int) (key : Nat) (hr : RdA w v a) (hk : key < 4294967296) :
    Calls Tryd.prog 21 #[v, .agg #[.int .i64 lab, .int .u32 key]] w fun e w' => e = .returned (.bool (inA a lab key)) ∧ Below w.heap.size w w' := by
  obtain ⟨A, cap, rfl, -⟩ := id hr
  have hb0 := (Below.refl w.heap.size w).alloc (Nat.le_refl _) (.cells #[.int .i64 lab, .int .u32 key] 25)
  have HR := Lib.hid (hr.keep hb0)
  rw [← inI_eq]
  have hcell := cells2 (heap_alloc_at w (.cells #[.int .i64 lab, .int .u32 key] 25))
  obtain ⟨⟨x0, x1⟩, -⟩ := hcell
  obtain ⟨W0, hW0⟩ : ∃ W0, W0 = w.alloc (.cells #[.int .i64 lab, .int .u32 key] 25) := ⟨_, rfl⟩
  rw [← hW0] at HR hb0 x0 x1
  have HW0 := Lib.hid hW0
  clear hr hW0
  go_enter Tryd.func21, Tryd.ntmps21
  go_wp2
  rw [← HW0.out]
  clear HW0
  obtain ⟨q, hq⟩ : ∃ q, q = inI a lab key := ⟨_, rfl⟩
  obtain ⟨u, gA, gc, rfl, hgr, hat⟩ := refat_q W0 _ a lab HR.out
  have HAT := Lib.hid hat
  have HHS : Hid (∀ n, Calls Tryd.prog 41 #[.slice gA (atI a lab).length gc, .int .i64 key] (W0.drewN n) fun e w' => e = .returned (.bool q) ∧ w' = W0.drewN n) := fun n => by
    rw [hq]; exact refHas_calls _ _ _ key (hgr.drewN n)
  have HQ := Lib.hid hq
  clear hat hgr hq HR
  go_quiet (first | (go_at_call 16; exact Calls.quiet_of_same (HAT.out _)) | (go_at_call 41; exact Calls.quiet_of_same (HHS.out _)))
  go_wp2
  go_ret
  exact ⟨ret_bool HQ.out, hb0.trans (below_drewN _ _ _)⟩
end Go.Proofs.YtjlkkbjolfhobaaDoor
