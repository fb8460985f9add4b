import Derived.Test.YtjlkkbjolfhobaaDoorArP
namespace Go.Proofs.YtjlkkbjolfhobaaDoor
open Go.RowKit
attribute [local go_sem] World.cell?_alloc_some frozen_alloc_some

set_option maxRecDepth 100000 in
set_option maxHeartbeats 40000000 in
theorem algebra_lawA (w : World) (va vb : Value) (a b : Ar) (lab : Int) (key : Nat) (ha : RdA w va a) (hbr : RdA w vb b) (hT : Tab w) :
    Calls Tryd.prog 4 #[va, vb, .agg #[.int .i64 lab, .int .u32 key]] w fun e w' => e = .returned (.bool true) ∧ Below w.heap.size w w' := by
  obtain ⟨Aa, ca, rfl, -⟩ := id ha
  obtain ⟨Ab, cb, rfl, -⟩ := id hbr
  have hb := (Below.refl w.heap.size w).alloc (Nat.le_refl _) (.cells #[.int .i64 lab, .int .u32 key] 25)
  have HL := Lib.hid (((RdAA.nil.cons ha).cons hbr).keep hb)
  have HT := Lib.hid (hT.keep hb)
  have HC : Hid (CellC w.heap.size lab key (w.alloc (.cells #[.int .i64 lab, .int .u32 key] 25))) := (cells2 (heap_alloc_at w (.cells #[.int .i64 lab, .int .u32 key] 25))).1
  have hbw := hb
  clear ha hbr hT hb
  go_enter Tryd.func4, Tryd.ntmps4
  go_wp2_with fail
  refine (alive_calls _ HT.out).mono ?_
  rintro e W0 ⟨rfl, hb⟩
  have HL := Lib.hid (HL.out.keep hb)
  have HC := Lib.hid (HC.out.keep hb)
  have hbw := hbw.trans (hb.mono hbw.size)
  clear hb HT
  cases fa : fewB a with
  | false =>
    go_wp2_with fail
    refine (few_calls _ _ a (HL.out.at_ 1 rfl)).mono ?_
    rw [fa]
    rintro e W0 ⟨rfl, rfl⟩
    go_wp2
    go_ret
    exact ⟨rfl, hbw⟩
  | true =>
  go_wp2_with fail
  refine (few_calls _ _ a (HL.out.at_ 1 rfl)).mono ?_
  rw [fa]
  rintro e W0 ⟨rfl, rfl⟩
  cases fb : fewB b with
  | false =>
    go_wp2_with fail
    refine (few_calls _ _ b (HL.out.at_ 0 rfl)).mono ?_
    rw [fb]
    rintro e W0 ⟨rfl, rfl⟩
    go_wp2
    go_ret
    exact ⟨rfl, hbw⟩
  | true =>
  go_wp2_with fail
  refine (few_calls _ _ b (HL.out.at_ 0 rfl)).mono ?_
  rw [fb]
  rintro e W0 ⟨rfl, rfl⟩
  have S_a : Hid (Sm 20 a) := (fewB_iff.1 fa).1
  have S_b : Hid (Sm 20 b) := (fewB_iff.1 fb).1
  have K_a : Hid (a.length ≤ 20) := (fewB_iff.1 fa).2
  have L_a : Hid (a.length ≤ 100) := Nat.le_trans (fewB_iff.1 fa).2 (by omega)
  have L_b : Hid (b.length ≤ 100) := Nat.le_trans (fewB_iff.1 fb).2 (by omega)
  have W_a := Lib.hid (rdA_wf (HL.out.at_ 1 rfl : RdA W0 _ a))
  have W_b := Lib.hid (rdA_wf (HL.out.at_ 0 rfl : RdA W0 _ b))
  clear fa fb
  go_wp2_with fail
  refine (area_union _ _ _ a b 20 20 (HL.out.at_ 1 rfl) (HL.out.at_ 0 rfl) L_a.out L_b.out S_a.out S_b.out (by omega) (by omega)).mono ?_
  rintro e W1 ⟨v_u, u, rfl, R_u, l_u, h_u, s_u, hb⟩
  obtain ⟨A_u, c_u, rfl, -⟩ := id R_u
  have L_u : Hid (u.length ≤ 100) := by show _ ≤ _; have := L_a.out; have := L_b.out; omega
  have S_u := Lib.hid s_u
  have W_u := Lib.hid (rdA_wf R_u)
  have H_u : Hid (IsU a b u) := h_u
  have HL := Lib.hid ((HL.out.keep hb).cons R_u)
  have HC := Lib.hid (HC.out.keep hb)
  have hbw := hbw.trans (hb.mono hbw.size)
  clear R_u l_u h_u s_u hb
  go_wp2_with fail
  refine (area_meet _ _ _ a b 20 20 (HL.out.at_ 2 rfl) (HL.out.at_ 1 rfl) L_a.out L_b.out S_a.out S_b.out (by omega) (by omega)).mono ?_
  rintro e W2 ⟨v_m, m, rfl, R_m, l_m, h_m, s_m, hb⟩
  obtain ⟨A_m, c_m, rfl, -⟩ := id R_m
  have L_m : Hid (m.length ≤ 100) := by show _ ≤ _; have := L_a.out; have := L_b.out; omega
  have S_m := Lib.hid s_m
  have W_m := Lib.hid (rdA_wf R_m)
  have H_m : Hid (IsM a b m) := h_m
  have HL := Lib.hid ((HL.out.keep hb).cons R_m)
  have HC := Lib.hid (HC.out.keep hb)
  have hbw := hbw.trans (hb.mono hbw.size)
  clear R_m l_m h_m s_m hb
  go_wp2_with fail
  refine (area_minus _ _ _ a b 20 20 (HL.out.at_ 3 rfl) (HL.out.at_ 2 rfl) L_a.out L_b.out S_a.out S_b.out (by omega) (by omega)).mono ?_
  rintro e W3 ⟨v_d, d, rfl, R_d, l_d, h_d, s_d, hb⟩
  obtain ⟨A_d, c_d, rfl, -⟩ := id R_d
  have L_d : Hid (d.length ≤ 100) := by show _ ≤ _; have := L_a.out; have := L_b.out; omega
  have S_d := Lib.hid s_d
  have W_d := Lib.hid (rdA_wf R_d)
  have H_d : Hid (IsD a b d) := h_d
  have HL := Lib.hid ((HL.out.keep hb).cons R_d)
  have HC := Lib.hid (HC.out.keep hb)
  have hbw := hbw.trans (hb.mono hbw.size)
  clear R_d l_d h_d s_d hb
  obtain ⟨WM, hWM⟩ : ∃ WM, WM = W3 := ⟨_, rfl⟩
  clear hWM
  obtain ⟨i0, hi0, hz0, hz1, hz2⟩ := info_parts infoSl
  go_wp2
  cases Qx : inA a lab key with
  | false =>
    cases Qy : inA b lab key with
    | false =>
      have cS : ∀ W2, (∃ d, W2 = W3.drewN d) → W2.cell? ⟨w.heap.size, 0, none⟩ = some (.int .i64 lab) ∧ W2.cell? ⟨w.heap.size, 1, none⟩ = some (.int .u32 key) := by
        rintro W2 ⟨d, rfl⟩; exact HC.out
      go_region_held3 (fun W2 => W2.cell? ⟨w.heap.size, 0, none⟩ = some (.int .i64 lab) ∧ W2.cell? ⟨w.heap.size, 1, none⟩ = some (.int .u32 key))
        (first | with_reducible exact c5 | with_reducible exact c4 | exact cS _ (by first | exact ⟨_, rfl⟩ | exact drewN_ex _ _ _ | exact drew_ex _ _))
        (first
          | (go_at_call 20; have hS := c4; refine (has_b _ _ b lab key _ (HL4.out.at_ 3 rfl) Qy).mono ?_; rintro e W5 ⟨rfl, hb5⟩; have c5 : W5.cell? ⟨w.heap.size, 0, none⟩ = some (.int .i64 lab) ∧ W5.cell? ⟨w.heap.size, 1, none⟩ = some (.int .u32 key) := CellC.keep c4 hb5)
          | (go_at_call 20; refine (has_b _ _ a lab key _ ((HL.out.keep (below_drewN _ _ _)).at_ 4 rfl) Qx).mono ?_; rintro e W4 ⟨rfl, hb4⟩; have c4 : W4.cell? ⟨w.heap.size, 0, none⟩ = some (.int .i64 lab) ∧ W4.cell? ⟨w.heap.size, 1, none⟩ = some (.int .u32 key) := CellC.keep (cS _ ⟨1, rfl⟩) hb4; have HL4 := Lib.hid ((HL.out.keep (below_drewN _ _ 1)).keep hb4)))
      have HL := Lib.hid (HL4.out.keep hb5)
      have HC : Hid (CellC w.heap.size lab key W5) := c5
      have hbw := hbw.trans (below_drewN _ _ 1)
      have hbw := hbw.trans (hb4.mono hbw.size)
      have hbw := hbw.trans (hb5.mono hbw.size)
      clear cS c4 c5 hb4 hb5 HL4
      obtain ⟨y0, y1⟩ := HC.out
      go_wp2_with fail
      clear y0 y1
      refine (has_b _ _ u lab key _ (HL.out.at_ 2 rfl) ((in_union H_u.out _ _).trans (by rw [Qx, Qy]; rfl) : _ = false)).mono ?_
      rintro e W11 ⟨rfl, hb⟩
      have HL := Lib.hid ((HL.out.keep hb))
      have HC := Lib.hid (HC.out.keep hb)
      have hbw := hbw.trans (hb.mono hbw.size)
      clear hb
      obtain ⟨y0, y1⟩ := HC.out
      go_wp2_with fail
      clear y0 y1
      refine (has_b _ _ m lab key _ (HL.out.at_ 1 rfl) ((in_meet H_m.out _ _).trans (by rw [Qx, Qy]; rfl) : _ = false)).mono ?_
      rintro e W12 ⟨rfl, hb⟩
      have HL := Lib.hid ((HL.out.keep hb))
      have HC := Lib.hid (HC.out.keep hb)
      have hbw := hbw.trans (hb.mono hbw.size)
      clear hb
      obtain ⟨y0, y1⟩ := HC.out
      go_wp2_with fail
      clear y0 y1
      refine (has_b _ _ d lab key _ (HL.out.at_ 0 rfl) ((in_minus H_d.out _ _).trans (by rw [Qx, Qy]; rfl) : _ = false)).mono ?_
      rintro e W13 ⟨rfl, hb⟩
      have HL := Lib.hid ((HL.out.keep hb))
      have HC := Lib.hid (HC.out.keep hb)
      have hbw := hbw.trans (hb.mono hbw.size)
      clear hb
      clear Qx Qy HC
      obtain ⟨WD, hWD⟩ : ∃ WD, WD = W13 := ⟨_, rfl⟩
      have hbE := (Below.refl W13.heap.size W13).alloc (Nat.le_refl _) (.cells #[] 32)
      have hra := Lib.hid (HL.out.at_ 4 rfl : RdA W13 _ a)
      have hoe : Hid ((W13.alloc (.cells #[] 32)).ownsRow W13.heap.size 32 1 (.slice (some ⟨W13.heap.size, 0, none⟩) 0 0) 0 []) := ⟨rfl, .inr ⟨_, 0, #[], rfl, Nat.le_refl _, heap_alloc_at _ _, Nat.le_refl _, Nat.zero_le _, rfl, rfl⟩⟩
      have hbE := Lib.hid hbE
      clear hWD
      have hla20 := K_a.out
      go_wp2_with (first | (at_builtin; refine push_ar (W0 := W13) rfl _ _ rfl W13.heap.size 0 [] _ rfl hoe.out (by omega) (by simp only [World.size_alloc]; omega) _ _ _ a rfl rfl hra.out hbE.out (by omega) ?_; intro v9 WA ys hown hyl hys hgrow; rw [Nat.zero_add, List.nil_append] at hown; obtain ⟨A9, c9, rfl⟩ := owns_form hown; have hblk := alloc2_at WA (.cells #[.int .u32 2, .int .u32 1] 37) (.cells #[.slice none 0 0, .slice (some ⟨WA.heap.size, 0, none⟩) 1 1] 32)) | (at_builtin; refine wpList_append_own_at _ rfl _ _ 22 rfl W13.heap.size 32 i0 _ 1 24 Tryd.underlying22 hi0 hz0 hz1 hz2 rfl (by decide) _ _ _ rfl ((hown.alloc _).alloc _) ⟨WA.heap.size + 1, 0, none⟩ 2 2 [.slice none 0 0, .slice (some ⟨WA.heap.size, 0, none⟩) 1 1] rfl rfl (World.news_of_block hblk) (by simp [Value.oneCell']) (by unfold maxLen; omega) (by omega) (by have := hgrow.size; simp only [World.size_alloc] at this ⊢; omega) ?_; intro v10 WB hown2 hgrow2 _ _; have hmore := more_step hown hgrow hyl hys hown2 hgrow2 (by omega); obtain ⟨A10, c10, rfl⟩ := owns_form hown2))
      clear hra hoe hbE hla20 hown hyl hys hgrow hblk hown2 hgrow2
      have hb := hmore.2
      have R_more := hmore.1
      have L_more : Hid ((a ++ [[], [(2, 1)]]).length ≤ 100) := by show _ ≤ _; have := K_a.out; simp; omega
      have S_more : Hid (Sm 20 (a ++ [[], [(2, 1)]])) := sm_more S_a.out
      clear hmore
      obtain ⟨more, hmo⟩ : ∃ m, m = a ++ [[], [(2, 1)]] := ⟨_, rfl⟩
      rw [← hmo] at R_more L_more S_more
      have QM := Lib.hid (same_more a)
      rw [← hmo] at QM
      clear hmo
      have HL := Lib.hid ((HL.out.keep hb).cons R_more)
      have hbw := hbw.trans (hb.mono hbw.size)
      clear hb R_more
      go_wp2_with fail
      refine (same_b _ _ _ more a (HL.out.at_ 0 rfl) (HL.out.at_ 5 rfl) L_more.out L_a.out (S_more.out.mono (by omega)) (S_a.out.mono (by omega))).mono ?_
      rw [QM.out.1, QM.out.2, Bool.and_self]
      rintro e W14 ⟨rfl, hb⟩
      have HL := Lib.hid ((HL.out.keep hb))
      have hbw := hbw.trans (hb.mono hbw.size)
      clear hb
      go_wp2_with fail
      refine (area_union _ _ _ d m 41 41 (HL.out.at_ 1 rfl) (HL.out.at_ 2 rfl) L_d.out L_m.out S_d.out S_m.out (by omega) (by omega)).mono ?_
      rintro e W15 ⟨v_r, r, rfl, R_r, l_r, h_r, s_r, hb⟩
      obtain ⟨A_r, c_r, rfl, -⟩ := id R_r
      have L_r : Hid (r.length ≤ 100) := by show _ ≤ _; have := L_d.out; have := L_m.out; omega
      have S_r := Lib.hid s_r
      have W_r := Lib.hid (rdA_wf R_r)
      have H_r : Hid (IsU d m r) := h_r
      have HL := Lib.hid ((HL.out.keep hb).cons R_r)
      have hbw := hbw.trans (hb.mono hbw.size)
      clear R_r l_r h_r s_r hb
      go_wp2_with fail
      refine (same_b _ _ _ r a (HL.out.at_ 0 rfl) (HL.out.at_ 6 rfl) L_r.out L_a.out (S_r.out.mono (by omega)) (S_a.out.mono (by omega))).mono ?_
      rw [(same_dm H_d.out H_m.out H_r.out).1, (same_dm H_d.out H_m.out H_r.out).2, Bool.and_self]
      rintro e W16 ⟨rfl, hb⟩
      have HL := Lib.hid ((HL.out.keep hb))
      have hbw := hbw.trans (hb.mono hbw.size)
      clear hb
      go_wp2_with fail
      refine (area_meet _ _ _ d b 41 20 (HL.out.at_ 2 rfl) (HL.out.at_ 5 rfl) L_d.out L_b.out S_d.out S_b.out (by omega) (by omega)).mono ?_
      rintro e W17 ⟨v_e2, e2, rfl, R_e2, l_e2, h_e2, s_e2, hb⟩
      obtain ⟨A_e2, c_e2, rfl, -⟩ := id R_e2
      have L_e2 : Hid (e2.length ≤ 100) := by show _ ≤ _; have := L_d.out; have := L_b.out; omega
      have S_e2 := Lib.hid s_e2
      have W_e2 := Lib.hid (rdA_wf R_e2)
      have H_e2 : Hid (IsM d b e2) := h_e2
      have HL := Lib.hid ((HL.out.keep hb).cons R_e2)
      have hbw := hbw.trans (hb.mono hbw.size)
      clear R_e2 l_e2 h_e2 s_e2 hb
      go_wp2_with fail
      refine (emptyb_calls _ _ e2 true (HL.out.at_ 0 rfl) (S_e2.out.mono (by omega)) (empty_db H_d.out H_e2.out)).mono ?_
      rintro e W18 ⟨rfl, hb⟩
      have HL := Lib.hid ((HL.out.keep hb))
      have hbw := hbw.trans (hb.mono hbw.size)
      clear hb
      obtain ⟨q, hq⟩ : ∃ q, q = subB a b := ⟨_, rfl⟩
      have Q1 := Lib.hid hq
      have Q2 : Hid ((subB u b && subB b u) = q) := (within_same H_u.out).symm.trans hq.symm
      clear hq
      go_wp2_with fail
      refine (within_b _ _ _ a b (HL.out.at_ 7 rfl) (HL.out.at_ 6 rfl) L_a.out L_b.out (S_a.out.mono (by omega)) (S_b.out.mono (by omega))).mono ?_
      rw [← Q1.out]
      rintro e W19 ⟨rfl, hb⟩
      have HL := Lib.hid ((HL.out.keep hb))
      have hbw := hbw.trans (hb.mono hbw.size)
      clear hb
      go_wp2_with fail
      refine (same_b _ _ _ u b (HL.out.at_ 5 rfl) (HL.out.at_ 6 rfl) L_u.out L_b.out (S_u.out.mono (by omega)) (S_b.out.mono (by omega))).mono ?_
      rw [Q2.out]
      rintro e W20 ⟨rfl, hb⟩
      have HL := Lib.hid ((HL.out.keep hb))
      have hbw := hbw.trans (hb.mono hbw.size)
      clear hb
      have hm_u : maskA u = maskA a ||| maskA b := mask_union W_a.out W_b.out W_u.out H_u.out
      have hmm := fun i => mask_meet W_a.out W_m.out H_m.out i
      obtain ⟨mu, hmu⟩ : ∃ x, x = maskA u := ⟨_, rfl⟩
      obtain ⟨ma, hma⟩ : ∃ x, x = maskA a := ⟨_, rfl⟩
      obtain ⟨mb, hmb⟩ : ∃ x, x = maskA b := ⟨_, rfl⟩
      obtain ⟨mm, hmm2⟩ : ∃ x, x = maskA m := ⟨_, rfl⟩
      rw [← hmu, ← hma, ← hmb] at hm_u
      simp only [← hmm2, ← hma] at hmm
      have hor : bits .or .u32 (ma : Int) (mb : Int) = (mu : Int) := by rw [or_u32_nat _ _ (by rw [hma]; exact maskA_lt _) (by rw [hmb]; exact maskA_lt _), hm_u]
      have han : bits .andNot .u32 (mm : Int) (ma : Int) = 0 := andnot_zero _ _ hmm
      clear hm_u hmm
      have hm_u := Lib.hid hmu.symm
      have hm_a := Lib.hid hma.symm
      have hm_b := Lib.hid hmb.symm
      have hm_m := Lib.hid hmm2.symm
      clear hmu hma hmb hmm2
      go_wp2_with fail
      refine (maska_calls _ _ u (HL.out.at_ 5 rfl) (S_u.out.mono (by omega)) L_u.out).mono ?_
      rw [hm_u.out]
      rintro e W21 ⟨rfl, hb⟩
      have HL := Lib.hid ((HL.out.keep hb))
      have hbw := hbw.trans (hb.mono hbw.size)
      clear hb
      go_wp2_with fail
      refine (maska_calls _ _ a (HL.out.at_ 7 rfl) (S_a.out.mono (by omega)) L_a.out).mono ?_
      rw [hm_a.out]
      rintro e W22 ⟨rfl, hb⟩
      have HL := Lib.hid ((HL.out.keep hb))
      have hbw := hbw.trans (hb.mono hbw.size)
      clear hb
      go_wp2_with fail
      refine (maska_calls _ _ b (HL.out.at_ 6 rfl) (S_b.out.mono (by omega)) L_b.out).mono ?_
      rw [hm_b.out]
      rintro e W23 ⟨rfl, hb⟩
      have HL := Lib.hid ((HL.out.keep hb))
      have hbw := hbw.trans (hb.mono hbw.size)
      clear hb
      go_wp2_with fail
      refine (maska_calls _ _ m (HL.out.at_ 4 rfl) (S_m.out.mono (by omega)) L_m.out).mono ?_
      rw [hm_m.out]
      rintro e W24 ⟨rfl, hb⟩
      have HL := Lib.hid ((HL.out.keep hb))
      have hbw := hbw.trans (hb.mono hbw.size)
      clear hb
      go_wp2_with fail
      refine (maska_calls _ _ a (HL.out.at_ 7 rfl) (S_a.out.mono (by omega)) L_a.out).mono ?_
      rw [hm_a.out]
      rintro e W25 ⟨rfl, hb⟩
      have HL := Lib.hid ((HL.out.keep hb))
      have hbw := hbw.trans (hb.mono hbw.size)
      clear hb
      cases q <;> (go_wp2; go_ret; exact ⟨rfl, hbw⟩)
    | true =>
      have cS : ∀ W2, (∃ d, W2 = W3.drewN d) → W2.cell? ⟨w.heap.size, 0, none⟩ = some (.int .i64 lab) ∧ W2.cell? ⟨w.heap.size, 1, none⟩ = some (.int .u32 key) := by
        rintro W2 ⟨d, rfl⟩; exact HC.out
      go_region_held3 (fun W2 => W2.cell? ⟨w.heap.size, 0, none⟩ = some (.int .i64 lab) ∧ W2.cell? ⟨w.heap.size, 1, none⟩ = some (.int .u32 key))
        (first | with_reducible exact c5 | with_reducible exact c4 | exact cS _ (by first | exact ⟨_, rfl⟩ | exact drewN_ex _ _ _ | exact drew_ex _ _))
        (first
          | (go_at_call 20; have hS := c4; refine (has_b _ _ b lab key _ (HL4.out.at_ 3 rfl) Qy).mono ?_; rintro e W5 ⟨rfl, hb5⟩; have c5 : W5.cell? ⟨w.heap.size, 0, none⟩ = some (.int .i64 lab) ∧ W5.cell? ⟨w.heap.size, 1, none⟩ = some (.int .u32 key) := CellC.keep c4 hb5)
          | (go_at_call 20; refine (has_b _ _ a lab key _ ((HL.out.keep (below_drewN _ _ _)).at_ 4 rfl) Qx).mono ?_; rintro e W4 ⟨rfl, hb4⟩; have c4 : W4.cell? ⟨w.heap.size, 0, none⟩ = some (.int .i64 lab) ∧ W4.cell? ⟨w.heap.size, 1, none⟩ = some (.int .u32 key) := CellC.keep (cS _ ⟨1, rfl⟩) hb4; have HL4 := Lib.hid ((HL.out.keep (below_drewN _ _ 1)).keep hb4)))
      have HL := Lib.hid (HL4.out.keep hb5)
      have HC : Hid (CellC w.heap.size lab key W5) := c5
      have hbw := hbw.trans (below_drewN _ _ 1)
      have hbw := hbw.trans (hb4.mono hbw.size)
      have hbw := hbw.trans (hb5.mono hbw.size)
      clear cS c4 c5 hb4 hb5 HL4
      obtain ⟨y0, y1⟩ := HC.out
      go_wp2_with fail
      clear y0 y1
      refine (has_b _ _ u lab key _ (HL.out.at_ 2 rfl) ((in_union H_u.out _ _).trans (by rw [Qx, Qy]; rfl) : _ = true)).mono ?_
      rintro e W11 ⟨rfl, hb⟩
      have HL := Lib.hid ((HL.out.keep hb))
      have HC := Lib.hid (HC.out.keep hb)
      have hbw := hbw.trans (hb.mono hbw.size)
      clear hb
      obtain ⟨y0, y1⟩ := HC.out
      go_wp2_with fail
      clear y0 y1
      refine (has_b _ _ m lab key _ (HL.out.at_ 1 rfl) ((in_meet H_m.out _ _).trans (by rw [Qx, Qy]; rfl) : _ = false)).mono ?_
      rintro e W12 ⟨rfl, hb⟩
      have HL := Lib.hid ((HL.out.keep hb))
      have HC := Lib.hid (HC.out.keep hb)
      have hbw := hbw.trans (hb.mono hbw.size)
      clear hb
      obtain ⟨y0, y1⟩ := HC.out
      go_wp2_with fail
      clear y0 y1
      refine (has_b _ _ d lab key _ (HL.out.at_ 0 rfl) ((in_minus H_d.out _ _).trans (by rw [Qx, Qy]; rfl) : _ = false)).mono ?_
      rintro e W13 ⟨rfl, hb⟩
      have HL := Lib.hid ((HL.out.keep hb))
      have HC := Lib.hid (HC.out.keep hb)
      have hbw := hbw.trans (hb.mono hbw.size)
      clear hb
      clear Qx Qy HC
      obtain ⟨WD, hWD⟩ : ∃ WD, WD = W13 := ⟨_, rfl⟩
      have hbE := (Below.refl W13.heap.size W13).alloc (Nat.le_refl _) (.cells #[] 32)
      have hra := Lib.hid (HL.out.at_ 4 rfl : RdA W13 _ a)
      have hoe : Hid ((W13.alloc (.cells #[] 32)).ownsRow W13.heap.size 32 1 (.slice (some ⟨W13.heap.size, 0, none⟩) 0 0) 0 []) := ⟨rfl, .inr ⟨_, 0, #[], rfl, Nat.le_refl _, heap_alloc_at _ _, Nat.le_refl _, Nat.zero_le _, rfl, rfl⟩⟩
      have hbE := Lib.hid hbE
      clear hWD
      have hla20 := K_a.out
      go_wp2_with (first | (at_builtin; refine push_ar (W0 := W13) rfl _ _ rfl W13.heap.size 0 [] _ rfl hoe.out (by omega) (by simp only [World.size_alloc]; omega) _ _ _ a rfl rfl hra.out hbE.out (by omega) ?_; intro v9 WA ys hown hyl hys hgrow; rw [Nat.zero_add, List.nil_append] at hown; obtain ⟨A9, c9, rfl⟩ := owns_form hown; have hblk := alloc2_at WA (.cells #[.int .u32 2, .int .u32 1] 37) (.cells #[.slice none 0 0, .slice (some ⟨WA.heap.size, 0, none⟩) 1 1] 32)) | (at_builtin; refine wpList_append_own_at _ rfl _ _ 22 rfl W13.heap.size 32 i0 _ 1 24 Tryd.underlying22 hi0 hz0 hz1 hz2 rfl (by decide) _ _ _ rfl ((hown.alloc _).alloc _) ⟨WA.heap.size + 1, 0, none⟩ 2 2 [.slice none 0 0, .slice (some ⟨WA.heap.size, 0, none⟩) 1 1] rfl rfl (World.news_of_block hblk) (by simp [Value.oneCell']) (by unfold maxLen; omega) (by omega) (by have := hgrow.size; simp only [World.size_alloc] at this ⊢; omega) ?_; intro v10 WB hown2 hgrow2 _ _; have hmore := more_step hown hgrow hyl hys hown2 hgrow2 (by omega); obtain ⟨A10, c10, rfl⟩ := owns_form hown2))
      clear hra hoe hbE hla20 hown hyl hys hgrow hblk hown2 hgrow2
      have hb := hmore.2
      have R_more := hmore.1
      have L_more : Hid ((a ++ [[], [(2, 1)]]).length ≤ 100) := by show _ ≤ _; have := K_a.out; simp; omega
      have S_more : Hid (Sm 20 (a ++ [[], [(2, 1)]])) := sm_more S_a.out
      clear hmore
      obtain ⟨more, hmo⟩ : ∃ m, m = a ++ [[], [(2, 1)]] := ⟨_, rfl⟩
      rw [← hmo] at R_more L_more S_more
      have QM := Lib.hid (same_more a)
      rw [← hmo] at QM
      clear hmo
      have HL := Lib.hid ((HL.out.keep hb).cons R_more)
      have hbw := hbw.trans (hb.mono hbw.size)
      clear hb R_more
      go_wp2_with fail
      refine (same_b _ _ _ more a (HL.out.at_ 0 rfl) (HL.out.at_ 5 rfl) L_more.out L_a.out (S_more.out.mono (by omega)) (S_a.out.mono (by omega))).mono ?_
      rw [QM.out.1, QM.out.2, Bool.and_self]
      rintro e W14 ⟨rfl, hb⟩
      have HL := Lib.hid ((HL.out.keep hb))
      have hbw := hbw.trans (hb.mono hbw.size)
      clear hb
      go_wp2_with fail
      refine (area_union _ _ _ d m 41 41 (HL.out.at_ 1 rfl) (HL.out.at_ 2 rfl) L_d.out L_m.out S_d.out S_m.out (by omega) (by omega)).mono ?_
      rintro e W15 ⟨v_r, r, rfl, R_r, l_r, h_r, s_r, hb⟩
      obtain ⟨A_r, c_r, rfl, -⟩ := id R_r
      have L_r : Hid (r.length ≤ 100) := by show _ ≤ _; have := L_d.out; have := L_m.out; omega
      have S_r := Lib.hid s_r
      have W_r := Lib.hid (rdA_wf R_r)
      have H_r : Hid (IsU d m r) := h_r
      have HL := Lib.hid ((HL.out.keep hb).cons R_r)
      have hbw := hbw.trans (hb.mono hbw.size)
      clear R_r l_r h_r s_r hb
      go_wp2_with fail
      refine (same_b _ _ _ r a (HL.out.at_ 0 rfl) (HL.out.at_ 6 rfl) L_r.out L_a.out (S_r.out.mono (by omega)) (S_a.out.mono (by omega))).mono ?_
      rw [(same_dm H_d.out H_m.out H_r.out).1, (same_dm H_d.out H_m.out H_r.out).2, Bool.and_self]
      rintro e W16 ⟨rfl, hb⟩
      have HL := Lib.hid ((HL.out.keep hb))
      have hbw := hbw.trans (hb.mono hbw.size)
      clear hb
      go_wp2_with fail
      refine (area_meet _ _ _ d b 41 20 (HL.out.at_ 2 rfl) (HL.out.at_ 5 rfl) L_d.out L_b.out S_d.out S_b.out (by omega) (by omega)).mono ?_
      rintro e W17 ⟨v_e2, e2, rfl, R_e2, l_e2, h_e2, s_e2, hb⟩
      obtain ⟨A_e2, c_e2, rfl, -⟩ := id R_e2
      have L_e2 : Hid (e2.length ≤ 100) := by show _ ≤ _; have := L_d.out; have := L_b.out; omega
      have S_e2 := Lib.hid s_e2
      have W_e2 := Lib.hid (rdA_wf R_e2)
      have H_e2 : Hid (IsM d b e2) := h_e2
      have HL := Lib.hid ((HL.out.keep hb).cons R_e2)
      have hbw := hbw.trans (hb.mono hbw.size)
      clear R_e2 l_e2 h_e2 s_e2 hb
      go_wp2_with fail
      refine (emptyb_calls _ _ e2 true (HL.out.at_ 0 rfl) (S_e2.out.mono (by omega)) (empty_db H_d.out H_e2.out)).mono ?_
      rintro e W18 ⟨rfl, hb⟩
      have HL := Lib.hid ((HL.out.keep hb))
      have hbw := hbw.trans (hb.mono hbw.size)
      clear hb
      obtain ⟨q, hq⟩ : ∃ q, q = subB a b := ⟨_, rfl⟩
      have Q1 := Lib.hid hq
      have Q2 : Hid ((subB u b && subB b u) = q) := (within_same H_u.out).symm.trans hq.symm
      clear hq
      go_wp2_with fail
      refine (within_b _ _ _ a b (HL.out.at_ 7 rfl) (HL.out.at_ 6 rfl) L_a.out L_b.out (S_a.out.mono (by omega)) (S_b.out.mono (by omega))).mono ?_
      rw [← Q1.out]
      rintro e W19 ⟨rfl, hb⟩
      have HL := Lib.hid ((HL.out.keep hb))
      have hbw := hbw.trans (hb.mono hbw.size)
      clear hb
      go_wp2_with fail
      refine (same_b _ _ _ u b (HL.out.at_ 5 rfl) (HL.out.at_ 6 rfl) L_u.out L_b.out (S_u.out.mono (by omega)) (S_b.out.mono (by omega))).mono ?_
      rw [Q2.out]
      rintro e W20 ⟨rfl, hb⟩
      have HL := Lib.hid ((HL.out.keep hb))
      have hbw := hbw.trans (hb.mono hbw.size)
      clear hb
      have hm_u : maskA u = maskA a ||| maskA b := mask_union W_a.out W_b.out W_u.out H_u.out
      have hmm := fun i => mask_meet W_a.out W_m.out H_m.out i
      obtain ⟨mu, hmu⟩ : ∃ x, x = maskA u := ⟨_, rfl⟩
      obtain ⟨ma, hma⟩ : ∃ x, x = maskA a := ⟨_, rfl⟩
      obtain ⟨mb, hmb⟩ : ∃ x, x = maskA b := ⟨_, rfl⟩
      obtain ⟨mm, hmm2⟩ : ∃ x, x = maskA m := ⟨_, rfl⟩
      rw [← hmu, ← hma, ← hmb] at hm_u
      simp only [← hmm2, ← hma] at hmm
      have hor : bits .or .u32 (ma : Int) (mb : Int) = (mu : Int) := by rw [or_u32_nat _ _ (by rw [hma]; exact maskA_lt _) (by rw [hmb]; exact maskA_lt _), hm_u]
      have han : bits .andNot .u32 (mm : Int) (ma : Int) = 0 := andnot_zero _ _ hmm
      clear hm_u hmm
      have hm_u := Lib.hid hmu.symm
      have hm_a := Lib.hid hma.symm
      have hm_b := Lib.hid hmb.symm
      have hm_m := Lib.hid hmm2.symm
      clear hmu hma hmb hmm2
      go_wp2_with fail
      refine (maska_calls _ _ u (HL.out.at_ 5 rfl) (S_u.out.mono (by omega)) L_u.out).mono ?_
      rw [hm_u.out]
      rintro e W21 ⟨rfl, hb⟩
      have HL := Lib.hid ((HL.out.keep hb))
      have hbw := hbw.trans (hb.mono hbw.size)
      clear hb
      go_wp2_with fail
      refine (maska_calls _ _ a (HL.out.at_ 7 rfl) (S_a.out.mono (by omega)) L_a.out).mono ?_
      rw [hm_a.out]
      rintro e W22 ⟨rfl, hb⟩
      have HL := Lib.hid ((HL.out.keep hb))
      have hbw := hbw.trans (hb.mono hbw.size)
      clear hb
      go_wp2_with fail
      refine (maska_calls _ _ b (HL.out.at_ 6 rfl) (S_b.out.mono (by omega)) L_b.out).mono ?_
      rw [hm_b.out]
      rintro e W23 ⟨rfl, hb⟩
      have HL := Lib.hid ((HL.out.keep hb))
      have hbw := hbw.trans (hb.mono hbw.size)
      clear hb
      go_wp2_with fail
      refine (maska_calls _ _ m (HL.out.at_ 4 rfl) (S_m.out.mono (by omega)) L_m.out).mono ?_
      rw [hm_m.out]
      rintro e W24 ⟨rfl, hb⟩
      have HL := Lib.hid ((HL.out.keep hb))
      have hbw := hbw.trans (hb.mono hbw.size)
      clear hb
      go_wp2_with fail
      refine (maska_calls _ _ a (HL.out.at_ 7 rfl) (S_a.out.mono (by omega)) L_a.out).mono ?_
      rw [hm_a.out]
      rintro e W25 ⟨rfl, hb⟩
      have HL := Lib.hid ((HL.out.keep hb))
      have hbw := hbw.trans (hb.mono hbw.size)
      clear hb
      cases q <;> (go_wp2; go_ret; exact ⟨rfl, hbw⟩)
  | true =>
    cases Qy : inA b lab key with
    | false =>
      have cS : ∀ W2, (∃ d, W2 = W3.drewN d) → W2.cell? ⟨w.heap.size, 0, none⟩ = some (.int .i64 lab) ∧ W2.cell? ⟨w.heap.size, 1, none⟩ = some (.int .u32 key) := by
        rintro W2 ⟨d, rfl⟩; exact HC.out
      go_region_held3 (fun W2 => W2.cell? ⟨w.heap.size, 0, none⟩ = some (.int .i64 lab) ∧ W2.cell? ⟨w.heap.size, 1, none⟩ = some (.int .u32 key))
        (first | with_reducible exact c5 | with_reducible exact c4 | exact cS _ (by first | exact ⟨_, rfl⟩ | exact drewN_ex _ _ _ | exact drew_ex _ _))
        (first
          | (go_at_call 20; have hS := c4; refine (has_b _ _ b lab key _ (HL4.out.at_ 3 rfl) Qy).mono ?_; rintro e W5 ⟨rfl, hb5⟩; have c5 : W5.cell? ⟨w.heap.size, 0, none⟩ = some (.int .i64 lab) ∧ W5.cell? ⟨w.heap.size, 1, none⟩ = some (.int .u32 key) := CellC.keep c4 hb5)
          | (go_at_call 20; refine (has_b _ _ a lab key _ ((HL.out.keep (below_drewN _ _ _)).at_ 4 rfl) Qx).mono ?_; rintro e W4 ⟨rfl, hb4⟩; have c4 : W4.cell? ⟨w.heap.size, 0, none⟩ = some (.int .i64 lab) ∧ W4.cell? ⟨w.heap.size, 1, none⟩ = some (.int .u32 key) := CellC.keep (cS _ ⟨1, rfl⟩) hb4; have HL4 := Lib.hid ((HL.out.keep (below_drewN _ _ 1)).keep hb4)))
      have HL := Lib.hid (HL4.out.keep hb5)
      have HC : Hid (CellC w.heap.size lab key W5) := c5
      have hbw := hbw.trans (below_drewN _ _ 1)
      have hbw := hbw.trans (hb4.mono hbw.size)
      have hbw := hbw.trans (hb5.mono hbw.size)
      clear cS c4 c5 hb4 hb5 HL4
      obtain ⟨y0, y1⟩ := HC.out
      go_wp2_with fail
      clear y0 y1
      refine (has_b _ _ u lab key _ (HL.out.at_ 2 rfl) ((in_union H_u.out _ _).trans (by rw [Qx, Qy]; rfl) : _ = true)).mono ?_
      rintro e W11 ⟨rfl, hb⟩
      have HL := Lib.hid ((HL.out.keep hb))
      have HC := Lib.hid (HC.out.keep hb)
      have hbw := hbw.trans (hb.mono hbw.size)
      clear hb
      obtain ⟨y0, y1⟩ := HC.out
      go_wp2_with fail
      clear y0 y1
      refine (has_b _ _ m lab key _ (HL.out.at_ 1 rfl) ((in_meet H_m.out _ _).trans (by rw [Qx, Qy]; rfl) : _ = false)).mono ?_
      rintro e W12 ⟨rfl, hb⟩
      have HL := Lib.hid ((HL.out.keep hb))
      have HC := Lib.hid (HC.out.keep hb)
      have hbw := hbw.trans (hb.mono hbw.size)
      clear hb
      obtain ⟨y0, y1⟩ := HC.out
      go_wp2_with fail
      clear y0 y1
      refine (has_b _ _ d lab key _ (HL.out.at_ 0 rfl) ((in_minus H_d.out _ _).trans (by rw [Qx, Qy]; rfl) : _ = true)).mono ?_
      rintro e W13 ⟨rfl, hb⟩
      have HL := Lib.hid ((HL.out.keep hb))
      have HC := Lib.hid (HC.out.keep hb)
      have hbw := hbw.trans (hb.mono hbw.size)
      clear hb
      clear Qx Qy HC
      obtain ⟨WD, hWD⟩ : ∃ WD, WD = W13 := ⟨_, rfl⟩
      have hbE := (Below.refl W13.heap.size W13).alloc (Nat.le_refl _) (.cells #[] 32)
      have hra := Lib.hid (HL.out.at_ 4 rfl : RdA W13 _ a)
      have hoe : Hid ((W13.alloc (.cells #[] 32)).ownsRow W13.heap.size 32 1 (.slice (some ⟨W13.heap.size, 0, none⟩) 0 0) 0 []) := ⟨rfl, .inr ⟨_, 0, #[], rfl, Nat.le_refl _, heap_alloc_at _ _, Nat.le_refl _, Nat.zero_le _, rfl, rfl⟩⟩
      have hbE := Lib.hid hbE
      clear hWD
      have hla20 := K_a.out
      go_wp2_with (first | (at_builtin; refine push_ar (W0 := W13) rfl _ _ rfl W13.heap.size 0 [] _ rfl hoe.out (by omega) (by simp only [World.size_alloc]; omega) _ _ _ a rfl rfl hra.out hbE.out (by omega) ?_; intro v9 WA ys hown hyl hys hgrow; rw [Nat.zero_add, List.nil_append] at hown; obtain ⟨A9, c9, rfl⟩ := owns_form hown; have hblk := alloc2_at WA (.cells #[.int .u32 2, .int .u32 1] 37) (.cells #[.slice none 0 0, .slice (some ⟨WA.heap.size, 0, none⟩) 1 1] 32)) | (at_builtin; refine wpList_append_own_at _ rfl _ _ 22 rfl W13.heap.size 32 i0 _ 1 24 Tryd.underlying22 hi0 hz0 hz1 hz2 rfl (by decide) _ _ _ rfl ((hown.alloc _).alloc _) ⟨WA.heap.size + 1, 0, none⟩ 2 2 [.slice none 0 0, .slice (some ⟨WA.heap.size, 0, none⟩) 1 1] rfl rfl (World.news_of_block hblk) (by simp [Value.oneCell']) (by unfold maxLen; omega) (by omega) (by have := hgrow.size; simp only [World.size_alloc] at this ⊢; omega) ?_; intro v10 WB hown2 hgrow2 _ _; have hmore := more_step hown hgrow hyl hys hown2 hgrow2 (by omega); obtain ⟨A10, c10, rfl⟩ := owns_form hown2))
      clear hra hoe hbE hla20 hown hyl hys hgrow hblk hown2 hgrow2
      have hb := hmore.2
      have R_more := hmore.1
      have L_more : Hid ((a ++ [[], [(2, 1)]]).length ≤ 100) := by show _ ≤ _; have := K_a.out; simp; omega
      have S_more : Hid (Sm 20 (a ++ [[], [(2, 1)]])) := sm_more S_a.out
      clear hmore
      obtain ⟨more, hmo⟩ : ∃ m, m = a ++ [[], [(2, 1)]] := ⟨_, rfl⟩
      rw [← hmo] at R_more L_more S_more
      have QM := Lib.hid (same_more a)
      rw [← hmo] at QM
      clear hmo
      have HL := Lib.hid ((HL.out.keep hb).cons R_more)
      have hbw := hbw.trans (hb.mono hbw.size)
      clear hb R_more
      go_wp2_with fail
      refine (same_b _ _ _ more a (HL.out.at_ 0 rfl) (HL.out.at_ 5 rfl) L_more.out L_a.out (S_more.out.mono (by omega)) (S_a.out.mono (by omega))).mono ?_
      rw [QM.out.1, QM.out.2, Bool.and_self]
      rintro e W14 ⟨rfl, hb⟩
      have HL := Lib.hid ((HL.out.keep hb))
      have hbw := hbw.trans (hb.mono hbw.size)
      clear hb
      go_wp2_with fail
      refine (area_union _ _ _ d m 41 41 (HL.out.at_ 1 rfl) (HL.out.at_ 2 rfl) L_d.out L_m.out S_d.out S_m.out (by omega) (by omega)).mono ?_
      rintro e W15 ⟨v_r, r, rfl, R_r, l_r, h_r, s_r, hb⟩
      obtain ⟨A_r, c_r, rfl, -⟩ := id R_r
      have L_r : Hid (r.length ≤ 100) := by show _ ≤ _; have := L_d.out; have := L_m.out; omega
      have S_r := Lib.hid s_r
      have W_r := Lib.hid (rdA_wf R_r)
      have H_r : Hid (IsU d m r) := h_r
      have HL := Lib.hid ((HL.out.keep hb).cons R_r)
      have hbw := hbw.trans (hb.mono hbw.size)
      clear R_r l_r h_r s_r hb
      go_wp2_with fail
      refine (same_b _ _ _ r a (HL.out.at_ 0 rfl) (HL.out.at_ 6 rfl) L_r.out L_a.out (S_r.out.mono (by omega)) (S_a.out.mono (by omega))).mono ?_
      rw [(same_dm H_d.out H_m.out H_r.out).1, (same_dm H_d.out H_m.out H_r.out).2, Bool.and_self]
      rintro e W16 ⟨rfl, hb⟩
      have HL := Lib.hid ((HL.out.keep hb))
      have hbw := hbw.trans (hb.mono hbw.size)
      clear hb
      go_wp2_with fail
      refine (area_meet _ _ _ d b 41 20 (HL.out.at_ 2 rfl) (HL.out.at_ 5 rfl) L_d.out L_b.out S_d.out S_b.out (by omega) (by omega)).mono ?_
      rintro e W17 ⟨v_e2, e2, rfl, R_e2, l_e2, h_e2, s_e2, hb⟩
      obtain ⟨A_e2, c_e2, rfl, -⟩ := id R_e2
      have L_e2 : Hid (e2.length ≤ 100) := by show _ ≤ _; have := L_d.out; have := L_b.out; omega
      have S_e2 := Lib.hid s_e2
      have W_e2 := Lib.hid (rdA_wf R_e2)
      have H_e2 : Hid (IsM d b e2) := h_e2
      have HL := Lib.hid ((HL.out.keep hb).cons R_e2)
      have hbw := hbw.trans (hb.mono hbw.size)
      clear R_e2 l_e2 h_e2 s_e2 hb
      go_wp2_with fail
      refine (emptyb_calls _ _ e2 true (HL.out.at_ 0 rfl) (S_e2.out.mono (by omega)) (empty_db H_d.out H_e2.out)).mono ?_
      rintro e W18 ⟨rfl, hb⟩
      have HL := Lib.hid ((HL.out.keep hb))
      have hbw := hbw.trans (hb.mono hbw.size)
      clear hb
      obtain ⟨q, hq⟩ : ∃ q, q = subB a b := ⟨_, rfl⟩
      have Q1 := Lib.hid hq
      have Q2 : Hid ((subB u b && subB b u) = q) := (within_same H_u.out).symm.trans hq.symm
      clear hq
      go_wp2_with fail
      refine (within_b _ _ _ a b (HL.out.at_ 7 rfl) (HL.out.at_ 6 rfl) L_a.out L_b.out (S_a.out.mono (by omega)) (S_b.out.mono (by omega))).mono ?_
      rw [← Q1.out]
      rintro e W19 ⟨rfl, hb⟩
      have HL := Lib.hid ((HL.out.keep hb))
      have hbw := hbw.trans (hb.mono hbw.size)
      clear hb
      go_wp2_with fail
      refine (same_b _ _ _ u b (HL.out.at_ 5 rfl) (HL.out.at_ 6 rfl) L_u.out L_b.out (S_u.out.mono (by omega)) (S_b.out.mono (by omega))).mono ?_
      rw [Q2.out]
      rintro e W20 ⟨rfl, hb⟩
      have HL := Lib.hid ((HL.out.keep hb))
      have hbw := hbw.trans (hb.mono hbw.size)
      clear hb
      have hm_u : maskA u = maskA a ||| maskA b := mask_union W_a.out W_b.out W_u.out H_u.out
      have hmm := fun i => mask_meet W_a.out W_m.out H_m.out i
      obtain ⟨mu, hmu⟩ : ∃ x, x = maskA u := ⟨_, rfl⟩
      obtain ⟨ma, hma⟩ : ∃ x, x = maskA a := ⟨_, rfl⟩
      obtain ⟨mb, hmb⟩ : ∃ x, x = maskA b := ⟨_, rfl⟩
      obtain ⟨mm, hmm2⟩ : ∃ x, x = maskA m := ⟨_, rfl⟩
      rw [← hmu, ← hma, ← hmb] at hm_u
      simp only [← hmm2, ← hma] at hmm
      have hor : bits .or .u32 (ma : Int) (mb : Int) = (mu : Int) := by rw [or_u32_nat _ _ (by rw [hma]; exact maskA_lt _) (by rw [hmb]; exact maskA_lt _), hm_u]
      have han : bits .andNot .u32 (mm : Int) (ma : Int) = 0 := andnot_zero _ _ hmm
      clear hm_u hmm
      have hm_u := Lib.hid hmu.symm
      have hm_a := Lib.hid hma.symm
      have hm_b := Lib.hid hmb.symm
      have hm_m := Lib.hid hmm2.symm
      clear hmu hma hmb hmm2
      go_wp2_with fail
      refine (maska_calls _ _ u (HL.out.at_ 5 rfl) (S_u.out.mono (by omega)) L_u.out).mono ?_
      rw [hm_u.out]
      rintro e W21 ⟨rfl, hb⟩
      have HL := Lib.hid ((HL.out.keep hb))
      have hbw := hbw.trans (hb.mono hbw.size)
      clear hb
      go_wp2_with fail
      refine (maska_calls _ _ a (HL.out.at_ 7 rfl) (S_a.out.mono (by omega)) L_a.out).mono ?_
      rw [hm_a.out]
      rintro e W22 ⟨rfl, hb⟩
      have HL := Lib.hid ((HL.out.keep hb))
      have hbw := hbw.trans (hb.mono hbw.size)
      clear hb
      go_wp2_with fail
      refine (maska_calls _ _ b (HL.out.at_ 6 rfl) (S_b.out.mono (by omega)) L_b.out).mono ?_
      rw [hm_b.out]
      rintro e W23 ⟨rfl, hb⟩
      have HL := Lib.hid ((HL.out.keep hb))
      have hbw := hbw.trans (hb.mono hbw.size)
      clear hb
      go_wp2_with fail
      refine (maska_calls _ _ m (HL.out.at_ 4 rfl) (S_m.out.mono (by omega)) L_m.out).mono ?_
      rw [hm_m.out]
      rintro e W24 ⟨rfl, hb⟩
      have HL := Lib.hid ((HL.out.keep hb))
      have hbw := hbw.trans (hb.mono hbw.size)
      clear hb
      go_wp2_with fail
      refine (maska_calls _ _ a (HL.out.at_ 7 rfl) (S_a.out.mono (by omega)) L_a.out).mono ?_
      rw [hm_a.out]
      rintro e W25 ⟨rfl, hb⟩
      have HL := Lib.hid ((HL.out.keep hb))
      have hbw := hbw.trans (hb.mono hbw.size)
      clear hb
      cases q <;> (go_wp2; go_ret; exact ⟨rfl, hbw⟩)
    | true =>
      have cS : ∀ W2, (∃ d, W2 = W3.drewN d) → W2.cell? ⟨w.heap.size, 0, none⟩ = some (.int .i64 lab) ∧ W2.cell? ⟨w.heap.size, 1, none⟩ = some (.int .u32 key) := by
        rintro W2 ⟨d, rfl⟩; exact HC.out
      go_region_held3 (fun W2 => W2.cell? ⟨w.heap.size, 0, none⟩ = some (.int .i64 lab) ∧ W2.cell? ⟨w.heap.size, 1, none⟩ = some (.int .u32 key))
        (first | with_reducible exact c5 | with_reducible exact c4 | exact cS _ (by first | exact ⟨_, rfl⟩ | exact drewN_ex _ _ _ | exact drew_ex _ _))
        (first
          | (go_at_call 20; have hS := c4; refine (has_b _ _ b lab key _ (HL4.out.at_ 3 rfl) Qy).mono ?_; rintro e W5 ⟨rfl, hb5⟩; have c5 : W5.cell? ⟨w.heap.size, 0, none⟩ = some (.int .i64 lab) ∧ W5.cell? ⟨w.heap.size, 1, none⟩ = some (.int .u32 key) := CellC.keep c4 hb5)
          | (go_at_call 20; refine (has_b _ _ a lab key _ ((HL.out.keep (below_drewN _ _ _)).at_ 4 rfl) Qx).mono ?_; rintro e W4 ⟨rfl, hb4⟩; have c4 : W4.cell? ⟨w.heap.size, 0, none⟩ = some (.int .i64 lab) ∧ W4.cell? ⟨w.heap.size, 1, none⟩ = some (.int .u32 key) := CellC.keep (cS _ ⟨1, rfl⟩) hb4; have HL4 := Lib.hid ((HL.out.keep (below_drewN _ _ 1)).keep hb4)))
      have HL := Lib.hid (HL4.out.keep hb5)
      have HC : Hid (CellC w.heap.size lab key W5) := c5
      have hbw := hbw.trans (below_drewN _ _ 1)
      have hbw := hbw.trans (hb4.mono hbw.size)
      have hbw := hbw.trans (hb5.mono hbw.size)
      clear cS c4 c5 hb4 hb5 HL4
      obtain ⟨y0, y1⟩ := HC.out
      go_wp2_with fail
      clear y0 y1
      refine (has_b _ _ u lab key _ (HL.out.at_ 2 rfl) ((in_union H_u.out _ _).trans (by rw [Qx, Qy]; rfl) : _ = true)).mono ?_
      rintro e W11 ⟨rfl, hb⟩
      have HL := Lib.hid ((HL.out.keep hb))
      have HC := Lib.hid (HC.out.keep hb)
      have hbw := hbw.trans (hb.mono hbw.size)
      clear hb
      obtain ⟨y0, y1⟩ := HC.out
      go_wp2_with fail
      clear y0 y1
      refine (has_b _ _ m lab key _ (HL.out.at_ 1 rfl) ((in_meet H_m.out _ _).trans (by rw [Qx, Qy]; rfl) : _ = true)).mono ?_
      rintro e W12 ⟨rfl, hb⟩
      have HL := Lib.hid ((HL.out.keep hb))
      have HC := Lib.hid (HC.out.keep hb)
      have hbw := hbw.trans (hb.mono hbw.size)
      clear hb
      obtain ⟨y0, y1⟩ := HC.out
      go_wp2_with fail
      clear y0 y1
      refine (has_b _ _ d lab key _ (HL.out.at_ 0 rfl) ((in_minus H_d.out _ _).trans (by rw [Qx, Qy]; rfl) : _ = false)).mono ?_
      rintro e W13 ⟨rfl, hb⟩
      have HL := Lib.hid ((HL.out.keep hb))
      have HC := Lib.hid (HC.out.keep hb)
      have hbw := hbw.trans (hb.mono hbw.size)
      clear hb
      clear Qx Qy HC
      obtain ⟨WD, hWD⟩ : ∃ WD, WD = W13 := ⟨_, rfl⟩
      have hbE := (Below.refl W13.heap.size W13).alloc (Nat.le_refl _) (.cells #[] 32)
      have hra := Lib.hid (HL.out.at_ 4 rfl : RdA W13 _ a)
      have hoe : Hid ((W13.alloc (.cells #[] 32)).ownsRow W13.heap.size 32 1 (.slice (some ⟨W13.heap.size, 0, none⟩) 0 0) 0 []) := ⟨rfl, .inr ⟨_, 0, #[], rfl, Nat.le_refl _, heap_alloc_at _ _, Nat.le_refl _, Nat.zero_le _, rfl, rfl⟩⟩
      have hbE := Lib.hid hbE
      clear hWD
      have hla20 := K_a.out
      go_wp2_with (first | (at_builtin; refine push_ar (W0 := W13) rfl _ _ rfl W13.heap.size 0 [] _ rfl hoe.out (by omega) (by simp only [World.size_alloc]; omega) _ _ _ a rfl rfl hra.out hbE.out (by omega) ?_; intro v9 WA ys hown hyl hys hgrow; rw [Nat.zero_add, List.nil_append] at hown; obtain ⟨A9, c9, rfl⟩ := owns_form hown; have hblk := alloc2_at WA (.cells #[.int .u32 2, .int .u32 1] 37) (.cells #[.slice none 0 0, .slice (some ⟨WA.heap.size, 0, none⟩) 1 1] 32)) | (at_builtin; refine wpList_append_own_at _ rfl _ _ 22 rfl W13.heap.size 32 i0 _ 1 24 Tryd.underlying22 hi0 hz0 hz1 hz2 rfl (by decide) _ _ _ rfl ((hown.alloc _).alloc _) ⟨WA.heap.size + 1, 0, none⟩ 2 2 [.slice none 0 0, .slice (some ⟨WA.heap.size, 0, none⟩) 1 1] rfl rfl (World.news_of_block hblk) (by simp [Value.oneCell']) (by unfold maxLen; omega) (by omega) (by have := hgrow.size; simp only [World.size_alloc] at this ⊢; omega) ?_; intro v10 WB hown2 hgrow2 _ _; have hmore := more_step hown hgrow hyl hys hown2 hgrow2 (by omega); obtain ⟨A10, c10, rfl⟩ := owns_form hown2))
      clear hra hoe hbE hla20 hown hyl hys hgrow hblk hown2 hgrow2
      have hb := hmore.2
      have R_more := hmore.1
      have L_more : Hid ((a ++ [[], [(2, 1)]]).length ≤ 100) := by show _ ≤ _; have := K_a.out; simp; omega
      have S_more : Hid (Sm 20 (a ++ [[], [(2, 1)]])) := sm_more S_a.out
      clear hmore
      obtain ⟨more, hmo⟩ : ∃ m, m = a ++ [[], [(2, 1)]] := ⟨_, rfl⟩
      rw [← hmo] at R_more L_more S_more
      have QM := Lib.hid (same_more a)
      rw [← hmo] at QM
      clear hmo
      have HL := Lib.hid ((HL.out.keep hb).cons R_more)
      have hbw := hbw.trans (hb.mono hbw.size)
      clear hb R_more
      go_wp2_with fail
      refine (same_b _ _ _ more a (HL.out.at_ 0 rfl) (HL.out.at_ 5 rfl) L_more.out L_a.out (S_more.out.mono (by omega)) (S_a.out.mono (by omega))).mono ?_
      rw [QM.out.1, QM.out.2, Bool.and_self]
      rintro e W14 ⟨rfl, hb⟩
      have HL := Lib.hid ((HL.out.keep hb))
      have hbw := hbw.trans (hb.mono hbw.size)
      clear hb
      go_wp2_with fail
      refine (area_union _ _ _ d m 41 41 (HL.out.at_ 1 rfl) (HL.out.at_ 2 rfl) L_d.out L_m.out S_d.out S_m.out (by omega) (by omega)).mono ?_
      rintro e W15 ⟨v_r, r, rfl, R_r, l_r, h_r, s_r, hb⟩
      obtain ⟨A_r, c_r, rfl, -⟩ := id R_r
      have L_r : Hid (r.length ≤ 100) := by show _ ≤ _; have := L_d.out; have := L_m.out; omega
      have S_r := Lib.hid s_r
      have W_r := Lib.hid (rdA_wf R_r)
      have H_r : Hid (IsU d m r) := h_r
      have HL := Lib.hid ((HL.out.keep hb).cons R_r)
      have hbw := hbw.trans (hb.mono hbw.size)
      clear R_r l_r h_r s_r hb
      go_wp2_with fail
      refine (same_b _ _ _ r a (HL.out.at_ 0 rfl) (HL.out.at_ 6 rfl) L_r.out L_a.out (S_r.out.mono (by omega)) (S_a.out.mono (by omega))).mono ?_
      rw [(same_dm H_d.out H_m.out H_r.out).1, (same_dm H_d.out H_m.out H_r.out).2, Bool.and_self]
      rintro e W16 ⟨rfl, hb⟩
      have HL := Lib.hid ((HL.out.keep hb))
      have hbw := hbw.trans (hb.mono hbw.size)
      clear hb
      go_wp2_with fail
      refine (area_meet _ _ _ d b 41 20 (HL.out.at_ 2 rfl) (HL.out.at_ 5 rfl) L_d.out L_b.out S_d.out S_b.out (by omega) (by omega)).mono ?_
      rintro e W17 ⟨v_e2, e2, rfl, R_e2, l_e2, h_e2, s_e2, hb⟩
      obtain ⟨A_e2, c_e2, rfl, -⟩ := id R_e2
      have L_e2 : Hid (e2.length ≤ 100) := by show _ ≤ _; have := L_d.out; have := L_b.out; omega
      have S_e2 := Lib.hid s_e2
      have W_e2 := Lib.hid (rdA_wf R_e2)
      have H_e2 : Hid (IsM d b e2) := h_e2
      have HL := Lib.hid ((HL.out.keep hb).cons R_e2)
      have hbw := hbw.trans (hb.mono hbw.size)
      clear R_e2 l_e2 h_e2 s_e2 hb
      go_wp2_with fail
      refine (emptyb_calls _ _ e2 true (HL.out.at_ 0 rfl) (S_e2.out.mono (by omega)) (empty_db H_d.out H_e2.out)).mono ?_
      rintro e W18 ⟨rfl, hb⟩
      have HL := Lib.hid ((HL.out.keep hb))
      have hbw := hbw.trans (hb.mono hbw.size)
      clear hb
      obtain ⟨q, hq⟩ : ∃ q, q = subB a b := ⟨_, rfl⟩
      have Q1 := Lib.hid hq
      have Q2 : Hid ((subB u b && subB b u) = q) := (within_same H_u.out).symm.trans hq.symm
      clear hq
      go_wp2_with fail
      refine (within_b _ _ _ a b (HL.out.at_ 7 rfl) (HL.out.at_ 6 rfl) L_a.out L_b.out (S_a.out.mono (by omega)) (S_b.out.mono (by omega))).mono ?_
      rw [← Q1.out]
      rintro e W19 ⟨rfl, hb⟩
      have HL := Lib.hid ((HL.out.keep hb))
      have hbw := hbw.trans (hb.mono hbw.size)
      clear hb
      go_wp2_with fail
      refine (same_b _ _ _ u b (HL.out.at_ 5 rfl) (HL.out.at_ 6 rfl) L_u.out L_b.out (S_u.out.mono (by omega)) (S_b.out.mono (by omega))).mono ?_
      rw [Q2.out]
      rintro e W20 ⟨rfl, hb⟩
      have HL := Lib.hid ((HL.out.keep hb))
      have hbw := hbw.trans (hb.mono hbw.size)
      clear hb
      have hm_u : maskA u = maskA a ||| maskA b := mask_union W_a.out W_b.out W_u.out H_u.out
      have hmm := fun i => mask_meet W_a.out W_m.out H_m.out i
      obtain ⟨mu, hmu⟩ : ∃ x, x = maskA u := ⟨_, rfl⟩
      obtain ⟨ma, hma⟩ : ∃ x, x = maskA a := ⟨_, rfl⟩
      obtain ⟨mb, hmb⟩ : ∃ x, x = maskA b := ⟨_, rfl⟩
      obtain ⟨mm, hmm2⟩ : ∃ x, x = maskA m := ⟨_, rfl⟩
      rw [← hmu, ← hma, ← hmb] at hm_u
      simp only [← hmm2, ← hma] at hmm
      have hor : bits .or .u32 (ma : Int) (mb : Int) = (mu : Int) := by rw [or_u32_nat _ _ (by rw [hma]; exact maskA_lt _) (by rw [hmb]; exact maskA_lt _), hm_u]
      have han : bits .andNot .u32 (mm : Int) (ma : Int) = 0 := andnot_zero _ _ hmm
      clear hm_u hmm
      have hm_u := Lib.hid hmu.symm
      have hm_a := Lib.hid hma.symm
      have hm_b := Lib.hid hmb.symm
      have hm_m := Lib.hid hmm2.symm
      clear hmu hma hmb hmm2
      go_wp2_with fail
      refine (maska_calls _ _ u (HL.out.at_ 5 rfl) (S_u.out.mono (by omega)) L_u.out).mono ?_
      rw [hm_u.out]
      rintro e W21 ⟨rfl, hb⟩
      have HL := Lib.hid ((HL.out.keep hb))
      have hbw := hbw.trans (hb.mono hbw.size)
      clear hb
      go_wp2_with fail
      refine (maska_calls _ _ a (HL.out.at_ 7 rfl) (S_a.out.mono (by omega)) L_a.out).mono ?_
      rw [hm_a.out]
      rintro e W22 ⟨rfl, hb⟩
      have HL := Lib.hid ((HL.out.keep hb))
      have hbw := hbw.trans (hb.mono hbw.size)
      clear hb
      go_wp2_with fail
      refine (maska_calls _ _ b (HL.out.at_ 6 rfl) (S_b.out.mono (by omega)) L_b.out).mono ?_
      rw [hm_b.out]
      rintro e W23 ⟨rfl, hb⟩
      have HL := Lib.hid ((HL.out.keep hb))
      have hbw := hbw.trans (hb.mono hbw.size)
      clear hb
      go_wp2_with fail
      refine (maska_calls _ _ m (HL.out.at_ 4 rfl) (S_m.out.mono (by omega)) L_m.out).mono ?_
      rw [hm_m.out]
      rintro e W24 ⟨rfl, hb⟩
      have HL := Lib.hid ((HL.out.keep hb))
      have hbw := hbw.trans (hb.mono hbw.size)
      clear hb
      go_wp2_with fail
      refine (maska_calls _ _ a (HL.out.at_ 7 rfl) (S_a.out.mono (by omega)) L_a.out).mono ?_
      rw [hm_a.out]
      rintro e W25 ⟨rfl, hb⟩
      have HL := Lib.hid ((HL.out.keep hb))
      have hbw := hbw.trans (hb.mono hbw.size)
      clear hb
      cases q <;> (go_wp2; go_ret; exact ⟨rfl, hbw⟩)
theorem algebra_lawC (w : World) (va vb : Value) (a b : Ar) (lab : Int) (key : Nat) (ha : RdA w va a) (hbr : RdA w vb b) (_ : wrap64 lab = lab ∧ key < 4294967296) (hT : Tab w) :
    Calls Tryd.prog 4 #[va, vb, .agg #[.int .i64 lab, .int .u32 key]] w fun e w' => e = .returned (.bool true) ∧ Below w.heap.size w w' := algebra_lawA w va vb a b lab key ha hbr hT
end Go.Proofs.YtjlkkbjolfhobaaDoor
