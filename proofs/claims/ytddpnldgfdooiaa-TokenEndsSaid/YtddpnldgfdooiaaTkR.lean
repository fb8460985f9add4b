import Derived.Test.YtddpnldgfdooiaaTkOpn
namespace Go.Proofs.Ytddpnldgfdooiaa
open Go.RowKit Go.Maps
attribute [local go_sem] World.cell?_alloc_some frozen_alloc_some

/-! TokenEnds. -/
theorem zeroL (w : World) : (zeroValue 2).run Try.prog w = .ok (erI.val 0) w := by show _ = Result.ok (Value.int .i64 0) w; kernel_rfl
/-- The law's maps tell what the table has, and maybe more. -/
def Tell (F : Int → Option Ses) (Bg Pn : Int → Option Int) (now : Int) : Prop := ∀ x s, F x = some s → Bg x = some s.2.1 ∧ Pn x = some s.1 ∧ s.2.1 ≤ now ∧ s.2.2 ≤ now
theorem Tell.later {F : Int → Option Ses} {Bg Pn : Int → Option Int} {now n2 : Int} (h : Tell F Bg Pn now) (hn : now ≤ n2) : Tell F Bg Pn n2 := fun x s e => let ⟨a, b, c, d⟩ := h x s e; ⟨a, b, by omega, by omega⟩
theorem Tell.sw {F : Int → Option Ses} {Bg Pn : Int → Option Int} {now : Int} (h : Tell F Bg Pn now) (i a n : Int) : Tell (swF F i a n) Bg Pn now := fun x s e => h x s (swF_some e).1
theorem Tell.open {F : Int → Option Ses} {Bg Pn : Int → Option Int} {now : Int} (h : Tell F Bg Pn now) (x p : Int) : Tell (upd F x (p, now, now)) (upd Bg x now) (upd Pn x p) now := fun y s e => by
  by_cases hy : y = x
  · subst hy
    rw [upd_at] at e
    cases e
    exact ⟨if_pos rfl, if_pos rfl, Int.le_refl _, Int.le_refl _⟩
  · rw [upd_ne _ hy] at e
    have := h y s e
    unfold upd
    rw [if_neg hy, if_neg hy]; exact this
theorem Tell.era {F : Int → Option Ses} {Bg Pn : Int → Option Int} {now : Int} (h : Tell F Bg Pn now) (x : Int) : Tell (era F x) (era Bg x) Pn now := fun y s e => by
  unfold Go.Proofs.Ytddpnldgfdooiaa.era at e ⊢
  by_cases hy : y = x
  · rw [if_pos hy] at e; cases e
  · rw [if_neg hy] at e ⊢; exact h y s e
theorem Tell.use {F : Int → Option Ses} {Bg Pn : Int → Option Int} {now p b l : Int} (h : Tell F Bg Pn now) (x : Int) (hx : F x = some (p, b, l)) : Tell (upd F x (p, b, now)) Bg Pn now := fun y s e => by
  by_cases hy : y = x
  · subst hy
    rw [upd_at] at e
    cases e
    have := h _ _ hx
    exact ⟨this.1, this.2.1, this.2.2.1, Int.le_refl _⟩
  · rw [upd_ne _ hy] at e; exact h y s e
theorem Card.sw {F : Int → Option Ses} {c : Nat} (h : Card F c) (i a n : Int) : ∃ c', c' ≤ c ∧ Card (swF F i a n) c' := by
  obtain ⟨ks, h1, h2, h3⟩ := h
  refine ⟨(ks.filter fun x => (swF F i a n x).isSome).length, by rw [← h3]; exact List.length_filter_le _ _, _, h1.filter _, fun x => ?_, rfl⟩
  rw [List.mem_filter, h2 x]
  constructor
  · exact fun h => h.2
  · intro h
    obtain ⟨s, hs⟩ := Option.isSome_iff_exists.1 h
    exact ⟨by rw [(swF_some hs).1]; rfl, h⟩
theorem sweep_end (W : World) {tb mb n : Nat} {mo i a now : Int} {F : Int → Option Ses} (h : TabAt W tb mb n mo i a F) (hn : n ≤ 100) (hnow : I64 now) (hall : ∀ x s, F x = some s → endM i a s now = true) {c : Nat} (hc : Card F c) :
    Calls Try.prog 14 #[.pointer (some ⟨tb, 0, none⟩), .int .i64 now] W fun e w' => e = .returned (.int .i64 c) ∧ TabAt w' tb mb n mo i a nilF ∧ W.grownBy w' (some mb) := by
  have hG : swF F i a now = nilF := by
    funext x
    cases hx : swF F i a now x with
    | none => rfl
    | some s => have := swF_some hx; rw [hall x s this.1] at this; exact absurd this.2 (by simp)
  refine (sweep_calls W h (by omega) now hnow).mono fun e w' ⟨p, q, h1, h2, h3, h4, h5⟩ => ?_
  rw [hG] at h2 h4
  have e1 : p = c := h1.uniq hc fun _ => rfl
  have e2 : q = 0 := h2.uniq card_nil fun _ => rfl
  rw [h3, e1, e2]
  exact ⟨by simp, h4, h5⟩
theorem right_yes (w : World) (m i a : Int) (h : newOk m i a) : Calls Try.prog 8 #[.int .i64 m, .int .i64 i, .int .i64 a] w fun e w' => e = .returned (.bool true) ∧ w' = w := by
  obtain ⟨⟨h1, h2⟩, ⟨h3, h4⟩, h5, h6⟩ := h
  have g : decide (a ≤ 1125899906842624) = true := by simpa using h6
  go_enter Try.func8, Try.ntmps8
  go_wp2
  go_ret
  exact ⟨rfl, rfl⟩
theorem right_no (w : World) (m i a : Int) (h : ¬ newOk m i a) : Calls Try.prog 8 #[.int .i64 m, .int .i64 i, .int .i64 a] w fun e w' => e = .returned (.bool false) ∧ w' = w := by
  unfold newOk at h
  go_enter Try.func8, Try.ntmps8
  by_cases h1 : 1 ≤ m
  · by_cases h2 : m ≤ 64
    · by_cases h3 : 1 ≤ i
      · by_cases h4 : i ≤ 1125899906842624
        · by_cases h5 : 1 ≤ a
          · have g : decide (a ≤ 1125899906842624) = false := by simp; omega
            clear h
            go_wp2
            go_ret
            exact ⟨rfl, rfl⟩
          · clear h; go_wp2; go_ret; exact ⟨rfl, rfl⟩
        · clear h; go_wp2; go_ret; exact ⟨rfl, rfl⟩
      · clear h; go_wp2; go_ret; exact ⟨rfl, rfl⟩
    · clear h; go_wp2; go_ret; exact ⟨rfl, rfl⟩
  · clear h; go_wp2; go_ret; exact ⟨rfl, rfl⟩
theorem ends_no (w : World) (v : Value) (mo i a : Int) (ops : List OpT) (hs : IsL 4 rOp 0 (fun _ => 0) w v ops) (hno : Hid (60 < ops.length ∨ (ops.length ≤ 60 ∧ ¬ newOk mo i a))) :
    Calls Try.prog 3 #[.int .i64 mo, .int .i64 i, .int .i64 a, v] w fun e w' => e = .returned (.bool true) ∧ Below w.heap.size w w' := by
  obtain ⟨A, cap, rfl, -⟩ := id hs
  clear hs
  go_enter Try.func3, Try.ntmps3
  go_wp2_with fail
  refine (alive_calls _).mono ?_
  rintro e wa ⟨rfl, B1⟩
  rcases hno.out with h | ⟨h, h2⟩
  · clear hno
    go_wp2
    go_ret
    exact ⟨rfl, B1⟩
  · have HR := Lib.hid (fun W => right_no W mo i a h2)
    clear hno h2
    go_wp2_with fail
    refine (HR.out _).mono ?_
    rintro e wb ⟨rfl, rfl⟩
    go_wp2
    go_ret
    exact ⟨rfl, B1⟩
set_option maxRecDepth 100000 in
set_option maxHeartbeats 16000000 in
theorem ends_yes (w : World) (v : Value) (mo i a : Int) (ops : List OpT) (hs : IsL 4 rOp 0 (fun _ => 0) w v ops) (h60 : ops.length ≤ 60) (hok : newOk mo i a) :
    Calls Try.prog 3 #[.int .i64 mo, .int .i64 i, .int .i64 a, v] w fun e w' => e = .returned (.bool true) ∧ Below w.heap.size w w' := by
  obtain ⟨A, cap, rfl, s1, s2, s3, s4⟩ := id hs
  unfold maxLen at s2
  have HD : Hid (∀ k (hk : k < ops.length), I64 ops[k].person ∧ (Lit.int .u64 ops[k].tok).wf = true ∧ ∃ b o, A = some ⟨b, o, none⟩ ∧ w.cell? ⟨b, o + k * 4, none⟩ = some (.int .i64 ops[k].kind) ∧ w.cell? ⟨b, o + k * 4 + 1, none⟩ = some (.int .i64 ops[k].person) ∧ w.cell? ⟨b, o + k * 4 + 2, none⟩ = some (.int .u64 ops[k].tok) ∧ w.cell? ⟨b, o + k * 4 + 3, none⟩ = some (.int .i64 ops[k].now)) := fun k hk => by
    obtain ⟨b, o, cs, e1, e2, e3, ⟨e4, e5, e7⟩, e6⟩ := s4 k hk
    cases e4
    exact ⟨e5, e7, b, o, e1, e6 0 (by simp), e6 1 (by simp), e6 2 (by simp), e6 3 (by simp)⟩
  clear hs s4
  have HR := Lib.hid (fun W => right_yes W mo i a hok)
  have hok2 := hok
  unfold newOk at hok2
  have HOK := Lib.hid hok
  clear hok
  have hmm := @run_makeMap Try.prog
  go_enter Try.func3, Try.ntmps3
  go_wp2_with fail
  refine (alive_calls _).mono ?_
  rintro e wa ⟨rfl, B1⟩
  go_wp2_with fail
  refine (HR.out _).mono ?_
  rintro e wa ⟨rfl, rfl⟩
  go_wp2_with fail
  refine (new_at _ mo i a HOK.out).mono ?_
  rintro e wb ⟨tb, mb, rfl, T2, b2, m1, m2⟩
  have hB := B1.size
  have hmb : w.heap.size ≤ mb := by omega
  have htl := T2.lt
  have B2 := B1.trans (b2.mono hB)
  have hB2 := B2.size
  have hb3 := ((Below.refl wb.heap.size wb).alloc (Nat.le_refl _) (.map #[] 0)).alloc (by simp) (.map #[] 0)
  have T3 := T2.below hb3
  have M3 : MapF krU erI ((wb.alloc (.map #[] 0)).alloc (.map #[] 0)) wb.heap.size 0 (fun _ => none) := (MapF.made wb).below (Below.heap_alloc _ _ _ (by simp))
  have N3 : MapF krU erI ((wb.alloc (.map #[] 0)).alloc (.map #[] 0)) (wb.heap.size + 1) 0 (fun _ => none) := by
    have := MapF.made (Kk := krU) (E := erI) (wb.alloc (.map #[] 0))
    rwa [World.size_alloc] at this
  have B3 := B2.trans (hb3.mono hB2)
  obtain ⟨bb, hbb⟩ : ∃ bb, bb = wb.heap.size := ⟨_, rfl⟩
  obtain ⟨pb, hpb⟩ : ∃ pb, pb = wb.heap.size + 1 := ⟨_, rfl⟩
  have n1 : tb ≠ bb := by omega
  have n2 : mb ≠ bb := by omega
  have n3 : tb ≠ pb := by omega
  have n4 : mb ≠ pb := by omega
  have n5 : bb ≠ pb := by omega
  have n6 : w.heap.size ≤ bb := by omega
  have n7 : w.heap.size ≤ pb := by omega
  rw [← hbb] at M3
  rw [← hpb] at N3
  clear b2 m1 m2 B1 T2 htl hB hb3
  go_wp2
  rw [← hpb, ← hbb]
  clear hbb hpb
  -- WALK
  go_loopw [13, 44] (fun tv iv wr => ∃ (k p1 p2 p3 c : Nat) (t : Int) (F : Int → Option Ses) (Bg Pn : Int → Option Int), k ≤ ops.length ∧ iv = .int .i64 k ∧ tv = .int .i64 t ∧ 0 ≤ t ∧ t ≤ 255 * k ∧ p1 ≤ k ∧ p2 ≤ k ∧ p3 ≤ k ∧ (c : Int) ≤ mo ∧ Hid (Tell F Bg Pn t) ∧ Hid (Card F c) ∧ TabAt wr tb mb p1 mo i a F ∧ MapF krU erI wr bb p2 Bg ∧ MapF krU erI wr pb p3 Pn ∧ Below w.heap.size w wr) (fun _ iv _ => ops.length - (intOf iv).toNat)
  case atStart => exact ⟨0, 0, 0, 0, 0, 0, nilF, fun _ => none, fun _ => none, by omega, rfl, rfl, by omega, by omega, by omega, by omega, by omega, by omega, fun x s e => by simp [nilF] at e, card_nil, T3, M3, N3, B3⟩
  case round =>
    clear T3 M3 N3 B3 B2 hB2
    obtain ⟨k, p1, p2, p3, c, t, F, Bg, Pn, hk, rfl, rfl, t1, t2, hp1, hp2, hp3, hcm, hTell, hC, hT, hM, hN, hB⟩ := hrel
    obtain ⟨wo, rfl⟩ : ∃ wo, wo = wr := ⟨_, rfl⟩
    by_cases hlt : k < ops.length
    · obtain ⟨hps, htk, b1, o1, rfl, hc0, hc1, hc2, hc3⟩ := HD.out k hlt
      obtain ⟨kd, ekd⟩ : ∃ x, x = ops[k].kind := ⟨_, rfl⟩
      obtain ⟨ps, eps⟩ : ∃ x, x = ops[k].person := ⟨_, rfl⟩
      obtain ⟨tk, etk⟩ : ∃ x, x = ops[k].tok := ⟨_, rfl⟩
      obtain ⟨nw, enw⟩ : ∃ x, x = ops[k].now := ⟨_, rfl⟩
      rw [← ekd] at hc0
      rw [← eps] at hc1 hps
      rw [← etk] at hc2 htk
      rw [← enw] at hc3
      have up := fun (p : Addr) v (h : w.cell? p = some v) => (World.cell?_of_block (hB.block p.block (World.block_lt_of_cell? _ _ h))).trans h
      have d0 := up _ _ hc0
      have d1 := up _ _ hc1
      have d2 := up _ _ hc2
      have d3 := up _ _ hc3
      clear hc0 hc1 hc2 hc3 ekd eps etk enw up
      obtain ⟨q, hq, q1, q2⟩ : ∃ q, bits .and .i64 nw 255 = q ∧ 0 ≤ q ∧ q ≤ 255 := by
        rw [and255]
        have := Int.emod_nonneg nw (show (256 : Int) ≠ 0 by omega)
        have := Int.emod_lt_of_pos nw (show (0 : Int) < 256 by omega)
        exact ⟨_, rfl, by omega, by omega⟩
      obtain ⟨u, hu⟩ : ∃ u, t + q = u := ⟨_, rfl⟩
      have hw : wrap64 (t + q) = u := by unfold wrap64; omega
      have HTK : Hid (krU.ok tk) := htk
      have HPS := Lib.hid hps
      have u1 : 0 ≤ u := by omega
      have u2 : u ≤ 255 * ((k + 1 : Nat) : Int) := by omega
      have u3 : t ≤ u := by omega
      have HU : Hid (I64 u) := by show I64 u; unfold I64; omega
      have hTl := Lib.hid (hTell.out.later u3)
      have hb4 := (Below.refl wo.heap.size wo).alloc (Nat.le_refl _) (.cells #[.int .i64 kd, .int .i64 ps, .int .u64 tk, .int .i64 nw] 33)
      have T4 := hT.below hb4
      have M4 := Lib.hid (hM.below (hb4.block _ hM.lt))
      have N4 := Lib.hid (hN.below (hb4.block _ hN.lt))
      have B4 := hB.trans (hb4.mono hB.size)
      have K4 : (wo.alloc (.cells #[.int .i64 kd, .int .i64 ps, .int .u64 tk, .int .i64 nw] 33)).heap[wo.heap.size]? = some (.cells #[.int .i64 kd, .int .i64 ps, .int .u64 tk, .int .i64 nw] 33) := heap_alloc_at wo _
      have hnb : wo.heap.size ≠ mb ∧ wo.heap.size ≠ bb ∧ wo.heap.size ≠ pb := by have := hT.lt; have := hM.lt; have := hN.lt; omega
      clear hT hM hN hB hps htk hb4
      rcases (by omega : kd = 0 ∨ kd = 1 ∨ kd = 4 ∨ (kd ≠ 0 ∧ kd ≠ 1 ∧ kd ≠ 4)) with rfl | rfl | rfl | ⟨k0, k1, k4⟩
      · skip
        obtain ⟨c', hc', hCs⟩ := hC.out.sw i a u
        have hCs := Lib.hid hCs
        have hTs := Lib.hid (hTl.out.sw i a u)
        by_cases hz : tk = 0 ∨ (swF F i a u tk).isSome = true
        · have HZ := Lib.hid hz
          clear hz
          go_wp2_with fail
          refine (open_tok _ T4 (by omega) ps tk u HTK.out HU.out HZ.out).mono ?_
          rintro e w5 ⟨rfl, T5, g5⟩
          have M5 := keptI M4.out g5 (Ne.symm n2)
          have N5 := keptI N4.out g5 (Ne.symm n4)
          have B5 := grownS B4 g5 hmb (Nat.le_refl _)
          clear T4 M4 N4 B4 g5
          go_wp2_with fail
          refine (len_at _ T5 hCs.out).mono ?_
          rintro e w9 ⟨rfl, rfl⟩
          go_wp2
          exact ⟨⟨k + 1, _, _, _, c', u, _, _, _, hlt, by go_num, rfl, u1, u2, by omega, by omega, by omega, by omega, hTs, hCs, T5, M5, N5, B5⟩, by simp [intOf]; omega⟩
        · have hz0 : tk ≠ 0 := fun e => hz (.inl e)
          have HZN : Hid (swF F i a u tk = none) := by
            show _ = _
            cases hx : swF F i a u tk with
            | none => rfl
            | some s => exact absurd (.inr (by rw [hx]; rfl)) hz
          clear hz
          by_cases hcq : (c' : Int) = mo
          · have HCQ := Lib.hid hcq
            clear hcq
            go_wp2_with fail
            refine (open_many _ T4 (by omega) ps tk u HTK.out HU.out hz0 HZN.out hCs.out HCQ.out).mono ?_
            rintro e w5 ⟨rfl, T5, g5⟩
            have M5 := keptI M4.out g5 (Ne.symm n2)
            have N5 := keptI N4.out g5 (Ne.symm n4)
            have B5 := grownS B4 g5 hmb (Nat.le_refl _)
            clear T4 M4 N4 B4 g5
            go_wp2_with fail
            refine (len_at _ T5 hCs.out).mono ?_
            rintro e w9 ⟨rfl, rfl⟩
            go_wp2
            exact ⟨⟨k + 1, _, _, _, c', u, _, _, _, hlt, by go_num, rfl, u1, u2, by omega, by omega, by omega, by omega, hTs, hCs, T5, M5, N5, B5⟩, by simp [intOf]; omega⟩
          · have hC6 : Hid (Card (upd (swF F i a u) tk (ps, u, u)) (c' + 1)) := by
              have := hCs.out.upd tk (ps, u, u)
              rw [HZN.out] at this
              exact this
            have hc6 : ((c' + 1 : Nat) : Int) ≤ mo := by omega
            go_wp2_with fail
            refine (open_yes _ T4 (by omega) ps tk u HPS.out HTK.out HU.out hz0 HZN.out hCs.out hcq).mono ?_
            rintro e w5 ⟨rfl, T5, g5⟩
            have M5 := keptI M4.out g5 (Ne.symm n2)
            have N5 := keptI N4.out g5 (Ne.symm n4)
            have B5 := grownS B4 g5 hmb (Nat.le_refl _)
            have K5 := (g5.block _ (Array.getElem?_eq_some_iff.1 K4).1 (fun e => hnb.1 (Option.some.inj e))).trans K4
            clear T4 M4 N4 B4 g5 K4
            obtain ⟨⟨y0, y1, y2, y3⟩, -, -, -, -⟩ := cells4 K5
            obtain ⟨W6, hrun6, M6, g6⟩ := MapF.put_run (w := w5.drew) (M5.below rfl) Try.underlying29 (by unfold maxLen; omega) HTK.out u
            have hrun6 : (Instr.mapUpdate 29 (.map (some bb)) (.int .u64 tk) (.int .i64 u)).run Try.prog w5.drew = .ok () W6 := hrun6
            have N6 := keptI (MapF.below (w' := w5.drew) N5 rfl) g6 (Ne.symm n5)
            have T6 := (T5.below (w' := w5.drew) ⟨rfl, rfl, rfl, Nat.le_refl _, fun _ _ => rfl⟩).kept g6 n1 n2
            have B6 := grownS (B5.trans ⟨rfl, rfl, rfl, Nat.le_refl _, fun _ _ => rfl⟩ : Below w.heap.size w w5.drew) g6 n6 (Nat.le_refl _)
            have K6 := (g6.block _ (Array.getElem?_eq_some_iff.1 K5).1 (fun e => hnb.2.1 (Option.some.inj e))).trans K5
            obtain ⟨⟨z0, z1, z2, z3⟩, -, -, -, -⟩ := cells4 K6
            obtain ⟨W7, hrun7, N7, g7⟩ := MapF.put_run (w := W6) N6 Try.underlying30 (by unfold maxLen; omega) HTK.out ps
            have hrun7 : (Instr.mapUpdate 30 (.map (some pb)) (.int .u64 tk) (.int .i64 ps)).run Try.prog W6 = .ok () W7 := hrun7
            have M7 := keptI M6 g7 n5
            have T7 := T6.kept g7 n3 n4
            have B7 := grownS B6 g7 n7 (Nat.le_refl _)
            have hTo := Lib.hid (hTs.out.open tk ps)
            clear T5 M5 N5 B5 T6 M6 N6 B6 g6 g7 K5 K6
            go_wp2
            go_region_law (fail)
            all_goals
              go_wp2_with fail
              refine (len_at _ T7 hC6.out).mono ?_
              rintro e w9 ⟨rfl, rfl⟩
              go_wp2
              exact ⟨⟨k + 1, _, _, _, (c' + 1), u, _, _, _, hlt, by go_num, rfl, u1, u2, by omega, by omega, by omega, by omega, hTo, hC6, T7, M7, N7, B7⟩, by simp [intOf]; omega⟩
      · skip
        obtain ⟨c', hc', hCs⟩ := hC.out.sw i a u
        have hCs := Lib.hid hCs
        have hTs := Lib.hid (hTl.out.sw i a u)
        by_cases hz : tk = 0 ∨ (swF F i a u tk).isSome = true
        · have HZ := Lib.hid hz
          clear hz
          go_wp2_with fail
          refine (open_tok _ T4 (by omega) ps tk u HTK.out HU.out HZ.out).mono ?_
          rintro e w5 ⟨rfl, T5, g5⟩
          have M5 := keptI M4.out g5 (Ne.symm n2)
          have N5 := keptI N4.out g5 (Ne.symm n4)
          have B5 := grownS B4 g5 hmb (Nat.le_refl _)
          clear T4 M4 N4 B4 g5
          go_wp2_with fail
          refine (len_at _ T5 hCs.out).mono ?_
          rintro e w9 ⟨rfl, rfl⟩
          go_wp2
          exact ⟨⟨k + 1, _, _, _, c', u, _, _, _, hlt, by go_num, rfl, u1, u2, by omega, by omega, by omega, by omega, hTs, hCs, T5, M5, N5, B5⟩, by simp [intOf]; omega⟩
        · have hz0 : tk ≠ 0 := fun e => hz (.inl e)
          have HZN : Hid (swF F i a u tk = none) := by
            show _ = _
            cases hx : swF F i a u tk with
            | none => rfl
            | some s => exact absurd (.inr (by rw [hx]; rfl)) hz
          clear hz
          by_cases hcq : (c' : Int) = mo
          · have HCQ := Lib.hid hcq
            clear hcq
            go_wp2_with fail
            refine (open_many _ T4 (by omega) ps tk u HTK.out HU.out hz0 HZN.out hCs.out HCQ.out).mono ?_
            rintro e w5 ⟨rfl, T5, g5⟩
            have M5 := keptI M4.out g5 (Ne.symm n2)
            have N5 := keptI N4.out g5 (Ne.symm n4)
            have B5 := grownS B4 g5 hmb (Nat.le_refl _)
            clear T4 M4 N4 B4 g5
            go_wp2_with fail
            refine (len_at _ T5 hCs.out).mono ?_
            rintro e w9 ⟨rfl, rfl⟩
            go_wp2
            exact ⟨⟨k + 1, _, _, _, c', u, _, _, _, hlt, by go_num, rfl, u1, u2, by omega, by omega, by omega, by omega, hTs, hCs, T5, M5, N5, B5⟩, by simp [intOf]; omega⟩
          · have hC6 : Hid (Card (upd (swF F i a u) tk (ps, u, u)) (c' + 1)) := by
              have := hCs.out.upd tk (ps, u, u)
              rw [HZN.out] at this
              exact this
            have hc6 : ((c' + 1 : Nat) : Int) ≤ mo := by omega
            go_wp2_with fail
            refine (open_yes _ T4 (by omega) ps tk u HPS.out HTK.out HU.out hz0 HZN.out hCs.out hcq).mono ?_
            rintro e w5 ⟨rfl, T5, g5⟩
            have M5 := keptI M4.out g5 (Ne.symm n2)
            have N5 := keptI N4.out g5 (Ne.symm n4)
            have B5 := grownS B4 g5 hmb (Nat.le_refl _)
            have K5 := (g5.block _ (Array.getElem?_eq_some_iff.1 K4).1 (fun e => hnb.1 (Option.some.inj e))).trans K4
            clear T4 M4 N4 B4 g5 K4
            obtain ⟨⟨y0, y1, y2, y3⟩, -, -, -, -⟩ := cells4 K5
            obtain ⟨W6, hrun6, M6, g6⟩ := MapF.put_run (w := w5.drew) (M5.below rfl) Try.underlying29 (by unfold maxLen; omega) HTK.out u
            have hrun6 : (Instr.mapUpdate 29 (.map (some bb)) (.int .u64 tk) (.int .i64 u)).run Try.prog w5.drew = .ok () W6 := hrun6
            have N6 := keptI (MapF.below (w' := w5.drew) N5 rfl) g6 (Ne.symm n5)
            have T6 := (T5.below (w' := w5.drew) ⟨rfl, rfl, rfl, Nat.le_refl _, fun _ _ => rfl⟩).kept g6 n1 n2
            have B6 := grownS (B5.trans ⟨rfl, rfl, rfl, Nat.le_refl _, fun _ _ => rfl⟩ : Below w.heap.size w w5.drew) g6 n6 (Nat.le_refl _)
            have K6 := (g6.block _ (Array.getElem?_eq_some_iff.1 K5).1 (fun e => hnb.2.1 (Option.some.inj e))).trans K5
            obtain ⟨⟨z0, z1, z2, z3⟩, -, -, -, -⟩ := cells4 K6
            obtain ⟨W7, hrun7, N7, g7⟩ := MapF.put_run (w := W6) N6 Try.underlying30 (by unfold maxLen; omega) HTK.out ps
            have hrun7 : (Instr.mapUpdate 30 (.map (some pb)) (.int .u64 tk) (.int .i64 ps)).run Try.prog W6 = .ok () W7 := hrun7
            have M7 := keptI M6 g7 n5
            have T7 := T6.kept g7 n3 n4
            have B7 := grownS B6 g7 n7 (Nat.le_refl _)
            have hTo := Lib.hid (hTs.out.open tk ps)
            clear T5 M5 N5 B5 T6 M6 N6 B6 g6 g7 K5 K6
            go_wp2
            go_region_law (fail)
            all_goals
              go_wp2_with fail
              refine (len_at _ T7 hC6.out).mono ?_
              rintro e w9 ⟨rfl, rfl⟩
              go_wp2
              exact ⟨⟨k + 1, _, _, _, (c' + 1), u, _, _, _, hlt, by go_num, rfl, u1, u2, by omega, by omega, by omega, by omega, hTo, hC6, T7, M7, N7, B7⟩, by simp [intOf]; omega⟩
      · have hC6 := Lib.hid (hC.out.era tk)
        have hle : (if (F tk).isSome then c - 1 else c) ≤ c := by split <;> omega
        obtain ⟨c6, hc6⟩ : ∃ c6, c6 = (if (F tk).isSome then c - 1 else c) := ⟨_, rfl⟩
        rw [← hc6] at hC6 hle
        have hTe := Lib.hid (hTl.out.era tk)
        clear hc6
        go_wp2_with fail
        refine (close_calls _ T4 tk HTK.out).mono ?_
        rintro e w5 ⟨rfl, T5, g5⟩
        have M5 := Lib.hid (keptI M4.out g5 (Ne.symm n2))
        have N5 := keptI N4.out g5 (Ne.symm n4)
        have B5 := grownS B4 g5 hmb (Nat.le_refl _)
        have K5 := (g5.block _ (Array.getElem?_eq_some_iff.1 K4).1 (fun e => hnb.1 (Option.some.inj e))).trans K4
        clear T4 M4 N4 B4 g5 K4
        obtain ⟨⟨y0, y1, y2, y3⟩, -, -, -, -⟩ := cells4 K5
        go_wp2_with (at_delete; refine wpList_del rfl _ _ rfl Try.underlying29 rfl M5.out tk rfl HTK.out ?_; intro w6 M6 g6; have N6 := keptI N5 g6 (Ne.symm n5); have T6 := T5.kept g6 n1 n2; have B6 := grownS B5 g6 n6 (Nat.le_refl _))
        refine (len_at _ T6 hC6.out).mono ?_
        rintro e w9 ⟨rfl, rfl⟩
        go_wp2
        exact ⟨⟨k + 1, _, _, _, c6, u, _, _, _, hlt, by go_num, rfl, u1, u2, by omega, by omega, by omega, by omega, hTe, hC6, T6, M6, N6, B6⟩, by simp [intOf]; omega⟩
      · have g0 : (kd == 0) = false := by simpa using k0
        have g1 : (kd == 1) = false := by simpa using k1
        have g4 : (kd == 4) = false := by simpa using k4
        by_cases hs : ∃ p b l, F tk = some (p, b, l) ∧ endM i a (p, b, l) u = false
        · obtain ⟨p, b, l, hF, hE⟩ := hs
          obtain ⟨h1, h2, h3, h4⟩ := hTl.out _ _ hF
          have hrb := T4.ses _ _ hF
          have hgo : u - b < a := by
            unfold endM goneM at hE
            simp at hE
            omega
          have hC6 : Hid (Card (upd F tk (p, b, u)) c) := by
            have := hC.out.upd tk (p, b, u)
            rw [hF] at this
            exact this
          have hTu := Lib.hid (hTl.out.use tk hF)
          have HV : Hid (erI.val ((Bg tk).getD 0) = .int .i64 b) := by show _ = _; rw [h1]; rfl
          have HQ : Hid ((Bg tk).isSome = true) := by show _ = _; rw [h1]; rfl
          have HV2 : Hid (erI.val ((Pn tk).getD 0) = .int .i64 p) := by show _ = _; rw [h2]; rfl
          have HF := Lib.hid hF
          have HE := Lib.hid hE
          have gp : (p != p) = false := by simp
          have hb0 : I64 b := hrb.2.1
          have hbu : b ≤ u := h3
          unfold I64 at hb0
          by_cases hwr : u - b ≤ 9223372036854775807
          · have hwb : wrap64 (u - b) = u - b := by unfold wrap64; omega
            clear hF hE h1 h2 h3 h4 hrb
            go_wp2_with fail
            refine (use_yes _ T4 tk HTK.out u HU.out (by omega) p b l HF.out HE.out).mono ?_
            rintro e w5 ⟨rfl, T5, g5⟩
            have M5 := Lib.hid (keptI M4.out g5 (Ne.symm n2))
            have N5 := Lib.hid (keptI N4.out g5 (Ne.symm n4))
            have B5 := grownS B4 g5 hmb (Nat.le_refl _)
            have K5 := (g5.block _ (Array.getElem?_eq_some_iff.1 K4).1 (fun e => hnb.1 (Option.some.inj e))).trans K4
            clear T4 M4 N4 B4 g5 K4
            obtain ⟨⟨y0, y1, y2, y3⟩, -, -, -, -⟩ := cells4 K5
            have hl1 := N5.out.look1 Try.underlying30 0 (zeroI _) HTK.out
            rw [HV2.out] at hl1
            have hl1 : (Instr.lookup 30 (.map (some pb)) (.int .u64 tk) false).run Try.prog w5 = .ok (.int .i64 p) w5 := hl1
            go_wp2_with (at_lookup; refine wpList_lookV rfl _ _ rfl Try.underlying29 0 (zeroL _) rfl M5.out tk rfl HTK.out _ _ HV.out HQ.out ?_)
            refine (len_at _ T5 hC6.out).mono ?_
            rintro e w9 ⟨rfl, rfl⟩
            go_wp2
            exact ⟨⟨k + 1, _, _, _, c, u, _, _, _, hlt, by go_num, rfl, u1, u2, by omega, by omega, by omega, by omega, hTu, hC6, T5, M5.out, N5.out, B5⟩, by simp [intOf]; omega⟩
          · omega
        · have hno : Hid (∀ s, F tk = some s → endM i a s u = true) := fun s hF => by
            cases he : endM i a s u with
            | true => rfl
            | false => exact absurd ⟨s.1, s.2.1, s.2.2, hF, he⟩ hs
          have hC6 := Lib.hid (hC.out.era tk)
          have hle : (if (F tk).isSome then c - 1 else c) ≤ c := by split <;> omega
          obtain ⟨c6, hc6⟩ : ∃ c6, c6 = (if (F tk).isSome then c - 1 else c) := ⟨_, rfl⟩
          rw [← hc6] at hC6 hle
          have hTe := Lib.hid (hTl.out.era tk)
          obtain ⟨v0, hv0⟩ : ∃ v0, v0 = (Bg tk).getD 0 := ⟨_, rfl⟩
          obtain ⟨q0, hq0⟩ : ∃ q0, q0 = (Bg tk).isSome := ⟨_, rfl⟩
          have HV : Hid (erI.val ((Bg tk).getD 0) = .int .i64 v0) := by show _ = _; rw [← hv0]; rfl
          have HQ : Hid ((Bg tk).isSome = q0) := hq0.symm
          clear hc6 hs hv0 hq0 k0 k1 k4
          go_wp2_with fail
          refine (use_no _ T4 tk HTK.out u HU.out hno.out).mono ?_
          rintro e w5 ⟨rfl, T5, g5⟩
          have M5 := Lib.hid (keptI M4.out g5 (Ne.symm n2))
          have N5 := keptI N4.out g5 (Ne.symm n4)
          have B5 := grownS B4 g5 hmb (Nat.le_refl _)
          have K5 := (g5.block _ (Array.getElem?_eq_some_iff.1 K4).1 (fun e => hnb.1 (Option.some.inj e))).trans K4
          clear T4 M4 N4 B4 g5 K4
          obtain ⟨⟨y0, y1, y2, y3⟩, -, -, -, -⟩ := cells4 K5
          go_wp2_with (first | (at_lookup; refine wpList_lookV rfl _ _ rfl Try.underlying29 0 (zeroL _) rfl M5.out tk rfl HTK.out _ _ HV.out HQ.out ?_) | (at_delete; go_loud (refine wpList_del rfl _ _ rfl Try.underlying29 rfl M5.out tk rfl HTK.out ?_); intro w6 M6 g6; have N6 := keptI N5 g6 (Ne.symm n5); have T6 := T5.kept g6 n1 n2; have B6 := grownS B5 g6 n6 (Nat.le_refl _)))
          refine (len_at _ T6 hC6.out).mono ?_
          rintro e w9 ⟨rfl, rfl⟩
          go_wp2
          exact ⟨⟨k + 1, _, _, _, c6, u, _, _, _, hlt, by go_num, rfl, u1, u2, by omega, by omega, by omega, by omega, hTe, hC6, T6, M6, N6, B6⟩, by simp [intOf]; omega⟩
    · have hke : k = ops.length := by omega
      subst hke
      have HC := Lib.hid hC.out
      by_cases hia : i < a
      · have HU : Hid (I64 (t + a)) := by show I64 (t + a); unfold I64; omega
        have HALL : Hid (∀ x s, F x = some s → endM i a s (t + a) = true) := fun x s e => by
          obtain ⟨-, -, q1, q2⟩ := hTell.out x s e
          unfold endM goneM
          simp
          omega
        go_wp2_with fail
        refine (len_at _ hT HC.out).mono ?_
        rintro e w5 ⟨rfl, rfl⟩
        go_wp2_with fail
        refine (sweep_end _ hT (by omega) HU.out HALL.out HC.out).mono ?_
        rintro e w6 ⟨rfl, hT6, g6⟩
        have B6 := grownS hB g6 hmb (Nat.le_refl _)
        clear hT hB g6
        go_wp2_with fail
        refine (len_at _ hT6 card_nil).mono ?_
        rintro e w7 ⟨rfl, rfl⟩
        go_wp2
        go_ret
        exact ⟨rfl, B6⟩
      · have HU : Hid (I64 (t + i)) := by show I64 (t + i); unfold I64; omega
        have HALL : Hid (∀ x s, F x = some s → endM i a s (t + i) = true) := fun x s e => by
          obtain ⟨-, -, q1, q2⟩ := hTell.out x s e
          unfold endM goneM
          simp
          omega
        go_wp2_with fail
        refine (len_at _ hT HC.out).mono ?_
        rintro e w5 ⟨rfl, rfl⟩
        go_wp2_with fail
        refine (sweep_end _ hT (by omega) HU.out HALL.out HC.out).mono ?_
        rintro e w6 ⟨rfl, hT6, g6⟩
        have B6 := grownS hB g6 hmb (Nat.le_refl _)
        clear hT hB g6
        go_wp2_with fail
        refine (len_at _ hT6 card_nil).mono ?_
        rintro e w7 ⟨rfl, rfl⟩
        go_wp2
        go_ret
        exact ⟨rfl, B6⟩
theorem ends_law (w : World) (v : Value) (mo i a : Int) (ops : List OpT) (_ : (Lit.int .i64 mo).wf = true) (_ : (Lit.int .i64 i).wf = true) (_ : (Lit.int .i64 a).wf = true) (hs : IsL 4 rOp 0 (fun _ => 0) w v ops) :
    Calls Try.prog 3 #[.int .i64 mo, .int .i64 i, .int .i64 a, v] w fun e w' => e = .returned (.bool true) ∧ Below w.heap.size w w' := by
  by_cases h : ops.length ≤ 60
  · by_cases h2 : newOk mo i a
    · exact ends_yes w v mo i a ops hs h h2
    · exact ends_no w v mo i a ops hs (.inr ⟨h, h2⟩)
  · exact ends_no w v mo i a ops hs (.inl (by omega))
end Go.Proofs.Ytddpnldgfdooiaa
