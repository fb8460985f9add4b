import Derived.Test.YtddpnldgfdooiaaTkP
namespace Go.Proofs.Ytddpnldgfdooiaa
open Go.RowKit Go.Maps
attribute [local go_sem] World.cell?_alloc_some frozen_alloc_some

/-! TokenFulls. -/
noncomputable def erI : Er Int := Er.of (Value.int .i64) fun s t h => by cases h; rfl
theorem zeroI (w : World) : (zeroValue 3).run Try.prog w = .ok (erI.val 0) w := by show _ = Result.ok (Value.int .i64 0) w; kernel_rfl
/-- The table holds what the map has, all opened at 0. -/
def FH (F : Int → Option Ses) (H : Int → Option Int) : Prop := ∀ x, F x = (H x).map fun p => (p, 0, 0)
theorem FH.iso {F : Int → Option Ses} {H : Int → Option Int} (h : FH F H) (x : Int) : (F x).isSome = (H x).isSome := by rw [h x]; cases H x <;> rfl
theorem FH.card {F : Int → Option Ses} {H : Int → Option Int} (h : FH F H) {c : Nat} (hc : Card H c) : Card F c := by
  obtain ⟨ks, h1, h2, h3⟩ := hc
  exact ⟨ks, h1, fun x => (h2 x).trans (by rw [h.iso x]), h3⟩
theorem FH.sw {F : Int → Option Ses} {H : Int → Option Int} (h : FH F H) : swF F 100 100 0 = F := by
  funext x
  cases hF : F x with
  | none => exact swF_gone fun s hs => by rw [hF] at hs; cases hs
  | some s =>
    have h2 := h x
    rw [hF] at h2
    cases hH : H x with
    | none => rw [hH] at h2; cases h2
    | some p =>
      rw [hH] at h2
      obtain rfl : s = (p, 0, 0) := by simpa using h2
      exact swF_keep hF (endM_false (by simp) (by simp))
theorem FH.upd {F : Int → Option Ses} {H : Int → Option Int} (h : FH F H) (x p : Int) : FH (upd F x (p, 0, 0)) (upd H x p) := fun y => by
  unfold Go.Proofs.Ytddpnldgfdooiaa.upd
  by_cases e : y = x
  · rw [if_pos e, if_pos e]; rfl
  · rw [if_neg e, if_neg e]; exact h y
theorem FH.era {F : Int → Option Ses} {H : Int → Option Int} (h : FH F H) (x : Int) : FH (era F x) (era H x) := fun y => by
  unfold Go.Proofs.Ytddpnldgfdooiaa.era
  by_cases e : y = x
  · rw [if_pos e, if_pos e]; rfl
  · rw [if_neg e, if_neg e]; exact h y
theorem Card.sorted {F : Int → Option Ses} {c : Nat} (h : Card F c) : ∃ ks, FinK F ks ∧ ks.Pairwise (· < ·) ∧ ks.length = c := by
  obtain ⟨l, h1, h2, h3⟩ := h
  have hp := List.mergeSort_perm l (fun x y : Int => decide (x ≤ y))
  have hs := List.pairwise_mergeSort (le := fun x y : Int => decide (x ≤ y)) (by intro a b c h1 h2; simp at *; omega) (by intro a b; simp; omega) l
  have hn : (l.mergeSort fun x y : Int => decide (x ≤ y)).Nodup := hp.nodup_iff.2 h1
  refine ⟨_, ⟨hn, fun x => (hp.mem_iff).trans (h2 x)⟩, ?_, by rw [hp.length_eq, h3]⟩
  rw [List.nodup_iff_pairwise_ne] at hn
  exact (hs.and hn).imp fun ⟨h5, h6⟩ => by simp at h5; omega
theorem lookI {w : World} {b n : Nat} {H : Int → Option Int} (h : MapF krU erI w b n H) (x : Int) (hx : (Lit.int .u64 x).wf = true) (v : Int) (hv : (H x).getD 0 = v) (q : Bool) (hq : (H x).isSome = q) :
    (Instr.lookup 30 (.map (some b)) (.int .u64 x) true).run Try.prog w = .ok (.tuple #[.int .i64 v, .bool q]) w := by
  have := h.look Try.underlying30 0 (zeroI w) hx
  rw [hv, hq] at this
  exact this
theorem keptI {w w' : World} {b b' n : Nat} {H : Int → Option Int} (h : MapF krU erI w b n H) (hg : w.grownBy w' (some b')) (hne : b ≠ b') : MapF krU erI w' b n H := h.kept hg fun e => hne (Option.some.inj e)
set_option maxRecDepth 100000 in
set_option maxHeartbeats 16000000 in
theorem fulls_law (w : World) (v : Value) (mst : Int) (ds : List Int) (cl : Int) (_ : (Lit.int .i64 mst).wf = true) (hds : IsL 1 (fun χ w cs x => rInt .u64 χ w cs x ∧ (Lit.int .u64 x).wf = true) 0 (fun _ => 0) w v ds) (_ : (Lit.int .i64 cl).wf = true) :
    Calls Try.prog 4 #[.int .i64 mst, v, .int .i64 cl] w fun e w' => e = .returned (.bool true) ∧ Below w.heap.size w w' := by
  obtain ⟨A, cap, rfl, s1, s2, s3, s4⟩ := id hds
  unfold maxLen at s2
  have HD : Hid (∀ k (hk : k < ds.length), (Lit.int .u64 ds[k]).wf = true ∧ ∃ b o, A = some ⟨b, o, none⟩ ∧ w.cell? ⟨b, o + k, none⟩ = some (.int .u64 ds[k])) := fun k hk => by
    obtain ⟨b, o, cs, e1, e2, e3, ⟨e4, e5⟩, e6⟩ := s4 k hk
    refine ⟨e5, b, o, e1, ?_⟩
    cases e4
    have := e6 0 (by simp)
    simpa using this
  clear hds s4
  obtain ⟨mo, hmo, i1, i2⟩ : ∃ mo, wrap64 (1 + bits .and .i64 mst 7) = mo ∧ 1 ≤ mo ∧ mo ≤ 8 := by
    rw [and7]
    have := Int.emod_nonneg mst (show (8 : Int) ≠ 0 by omega)
    have := Int.emod_lt_of_pos mst (show (0 : Int) < 8 by omega)
    exact ⟨1 + mst % 8, by unfold wrap64; omega, by omega, by omega⟩
  have HOK : Hid (newOk mo 100 100) := by show newOk _ _ _; unfold newOk; omega
  have hmm := @run_makeMap Try.prog
  go_enter Try.func4, Try.ntmps4
  go_wp2_with fail
  refine (alive_calls _).mono ?_
  rintro e wa ⟨rfl, B1⟩
  by_cases h60 : 60 < ds.length
  · go_wp2
    go_ret
    exact ⟨rfl, B1⟩
  go_wp2_with fail
  refine (new_at _ mo 100 100 HOK.out).mono ?_
  rintro e wb ⟨tb, mb, rfl, T2, b2, m1, m2⟩
  have hB := B1.size
  have hmb : w.heap.size ≤ mb := by omega
  have htl := T2.lt
  have B2 := B1.trans (b2.mono hB)
  have hB2 := B2.size
  have T3 := T2.below ((Below.refl wb.heap.size wb).alloc (Nat.le_refl _) (.map #[] 0))
  have M3 : MapF krU erI (wb.alloc (.map #[] 0)) wb.heap.size 0 (fun _ => none) := MapF.made wb
  have B3 := B2.alloc hB2 (.map #[] 0)
  have n1 : tb ≠ wb.heap.size := by omega
  have n2 : mb ≠ wb.heap.size := by omega
  have n3 : w.heap.size ≤ wb.heap.size := hB2
  clear b2 m1 m2 B1 T2 htl hB hB2
  -- WALK
  go_wp2
  go_loopw [39] (fun iv wr => ∃ (k p1 p2 c : Nat) (F : Int → Option Ses) (H : Int → Option Int), k ≤ ds.length ∧ iv = .int .i64 k ∧ p1 ≤ k ∧ p2 ≤ k ∧ (c : Int) ≤ mo ∧ Hid (FH F H) ∧ Hid (Card H c) ∧ TabAt wr tb mb p1 mo 100 100 F ∧ MapF krU erI wr wb.heap.size p2 H ∧ Below w.heap.size w wr) (fun iv _ => ds.length - (intOf iv).toNat)
  case atStart => exact ⟨0, 0, 0, 0, nilF, fun _ => none, by omega, rfl, by omega, by omega, by omega, fun x => rfl, ⟨[], List.nodup_nil, fun x => by simp, rfl⟩, T3, M3, B3⟩
  case round =>
    clear T3 M3 B3 B2
    obtain ⟨k, p1, p2, c, F, H, hk, rfl, hp1, hp2, hcm, hFH, hC, hT, hM, hB⟩ := hrel
    obtain ⟨wo, rfl⟩ : ∃ wo, wo = wr := ⟨_, rfl⟩
    by_cases hlt : k < ds.length
    · obtain ⟨hdw, b1, o1, rfl, hc1⟩ := HD.out k hlt
      obtain ⟨h0w, b2, o2, e2, hc2⟩ := HD.out 0 (by omega)
      obtain ⟨rfl, rfl⟩ : b1 = b2 ∧ o1 = o2 := by cases e2; exact ⟨rfl, rfl⟩
      rw [Nat.add_zero] at hc2
      obtain ⟨d, hd⟩ : ∃ d, d = ds[k] := ⟨_, rfl⟩
      obtain ⟨d0, hd0⟩ : ∃ d0, d0 = ds[0]'(by omega) := ⟨_, rfl⟩
      rw [← hd] at hdw hc1
      rw [← hd0] at h0w hc2
      clear hd hd0 e2
      have HC1 := Lib.hid (fun W (hW : Below w.heap.size w W) => And.intro ((World.cell?_of_block (hW.block b1 (World.block_lt_of_cell? _ _ hc1))).trans hc1) ((World.cell?_of_block (hW.block b1 (World.block_lt_of_cell? _ _ hc2))).trans hc2))
      obtain ⟨x1, x2⟩ := HC1.out _ hB
      clear hc1 hc2
      have hCF := Lib.hid (hFH.out.card hC.out)
      have HDW : Hid (krU.ok d) := hdw
      have H0W : Hid (krU.ok d0) := h0w
      obtain ⟨q3, hq3⟩ : ∃ q3, (bits .and .i64 (k : Int) 3 == bits .and .i64 cl 3) = q3 := ⟨_, rfl⟩
      obtain ⟨v0, hv0⟩ : ∃ v0, v0 = (H d).getD 0 := ⟨_, rfl⟩
      obtain ⟨q0, hq0⟩ : ∃ q0, q0 = (H d).isSome := ⟨_, rfl⟩
      have HV0 : Hid (erI.val ((H d).getD 0) = .int .i64 v0) := by show _ = _; rw [← hv0]; rfl
      have HQ0 : Hid ((H d).isSome = q0) := hq0.symm
      clear hv0 hq0
      by_cases hd0 : d = 0
      · have gd : (d == 0) = true := by simpa using hd0
        have HD0 := Lib.hid hd0
        clear hd0
        cases q3
        · go_wp2_with fail
          refine (open_tok _ hT (by omega) k d 0 HDW.out (by unfold I64; omega) (.inl HD0.out)).mono ?_
          rintro e w5 ⟨rfl, T5, g5⟩
          rw [hFH.out.sw] at T5
          have M5 := Lib.hid (keptI hM g5 (Ne.symm n2))
          have B5 := grownS hB g5 hmb (Nat.le_refl _)
          clear hT hM g5 hB
          obtain ⟨y1, y2⟩ := HC1.out _ B5
          go_wp2_with (first
            | (at_lookup; refine wpList_lookV rfl _ _ rfl Try.underlying30 0 (zeroI _) rfl M5.out d rfl HDW.out _ _ HV0.out HQ0.out ?_))
          exact ⟨⟨k + 1, _, _, c, _, _, hlt, by go_num, by omega, by omega, by omega, hFH, hC, T5, M5.out, B5⟩, by simp [intOf]; omega⟩
        · go_wp2_with fail
          refine (open_tok _ hT (by omega) k d 0 HDW.out (by unfold I64; omega) (.inl HD0.out)).mono ?_
          rintro e w5 ⟨rfl, T5, g5⟩
          rw [hFH.out.sw] at T5
          have M5 := Lib.hid (keptI hM g5 (Ne.symm n2))
          have B5 := grownS hB g5 hmb (Nat.le_refl _)
          clear hT hM g5 hB
          obtain ⟨y1, y2⟩ := HC1.out _ B5
          obtain ⟨v9, hv9⟩ : ∃ v9, v9 = (H d0).getD 0 := ⟨_, rfl⟩
          obtain ⟨q9, hq9⟩ : ∃ q9, q9 = (H d0).isSome := ⟨_, rfl⟩
          have HV9 : Hid (erI.val ((H d0).getD 0) = .int .i64 v9) := by show _ = _; rw [← hv9]; rfl
          have HQ9 : Hid ((H d0).isSome = q9) := hq9.symm
          clear hv9 hq9
          have gq9 : (q9 != q9) = false := by simp
          have HFX := Lib.hid (hFH.out)
          go_wp2_with (first
            | (at_lookup; refine wpList_lookV rfl _ _ rfl Try.underlying30 0 (zeroI _) rfl M5.out d rfl HDW.out _ _ HV0.out HQ0.out ?_)
            | (at_lookup; refine wpList_lookV rfl _ _ rfl Try.underlying30 0 (zeroI _) rfl M5.out d0 rfl H0W.out _ _ HV9.out HQ9.out ?_)
            | (go_at_call 11; refine (close_calls _ T5 d0 H0W.out).mono ?_; rw [HFX.out.iso d0, HQ9.out]; rintro e w7 ⟨rfl, T7, g7⟩; have M7 := Lib.hid (keptI M5.out g7 (Ne.symm n2)); have B7 := grownS B5 g7 hmb (Nat.le_refl _); obtain ⟨u1, u2⟩ := HC1.out _ B7)
            | (at_delete; refine wpList_del rfl _ _ rfl Try.underlying30 rfl M7.out d0 rfl H0W.out ?_; intro w8 hm8 hg8))
          have T8 := T7.kept hg8 n1 n2
          have B8 := grownS B7 hg8 n3 (Nat.le_refl _)
          have hC8 : Hid (Card (era H d0) (if (H d0).isSome then c - 1 else c)) := hC.out.era d0
          have hle8 : (if (H d0).isSome then c - 1 else c) ≤ c := by split <;> omega
          obtain ⟨c8, hc8⟩ : ∃ c8, c8 = (if (H d0).isSome then c - 1 else c) := ⟨_, rfl⟩
          rw [← hc8] at hC8 hle8
          clear hc8
          exact ⟨⟨k + 1, _, _, c8, _, _, hlt, by go_num, by omega, by omega, by omega, HFX.out.era d0, hC8, T8, hm8, B8⟩, by simp [intOf]; omega⟩
      · have gd : (d == 0) = false := by simpa using hd0
        cases hq : q0
        · subst hq
          have HN : Hid (H d = none) := by
            have := HQ0.out
            cases hx : H d with
            | none => rfl
            | some y => rw [hx] at this; cases this
          by_cases hcq : (c : Int) = mo
          · have HCQ := Lib.hid hcq
            clear hcq
            cases q3
            · go_wp2_with fail
              refine (open_many _ hT (by omega) k d 0 HDW.out (by unfold I64; omega) hd0 (by rw [hFH.out.sw, hFH.out d, HN.out]; rfl) (by rw [hFH.out.sw]; exact hCF.out) HCQ.out).mono ?_
              rintro e w5 ⟨rfl, T5, g5⟩
              rw [hFH.out.sw] at T5
              have M5 := Lib.hid (keptI hM g5 (Ne.symm n2))
              have B5 := grownS hB g5 hmb (Nat.le_refl _)
              clear hT hM g5 hB
              obtain ⟨y1, y2⟩ := HC1.out _ B5
              obtain ⟨m', hm', -, hlen⟩ := M5.out.len Try.underlying30
              obtain rfl := hm'.uniq hC.out fun _ => rfl
              clear hm'
              have hcb : ((m' : Int) == mo) = true := by simpa using HCQ.out
              go_wp2_with (first
                | (at_lookup; refine wpList_lookV rfl _ _ rfl Try.underlying30 0 (zeroI _) rfl M5.out d rfl HDW.out _ _ HV0.out HQ0.out ?_))
              exact ⟨⟨k + 1, _, _, m', _, _, hlt, by go_num, by omega, by omega, by omega, hFH, hC, T5, M5.out, B5⟩, by simp [intOf]; omega⟩
            · go_wp2_with fail
              refine (open_many _ hT (by omega) k d 0 HDW.out (by unfold I64; omega) hd0 (by rw [hFH.out.sw, hFH.out d, HN.out]; rfl) (by rw [hFH.out.sw]; exact hCF.out) HCQ.out).mono ?_
              rintro e w5 ⟨rfl, T5, g5⟩
              rw [hFH.out.sw] at T5
              have M5 := Lib.hid (keptI hM g5 (Ne.symm n2))
              have B5 := grownS hB g5 hmb (Nat.le_refl _)
              clear hT hM g5 hB
              obtain ⟨y1, y2⟩ := HC1.out _ B5
              obtain ⟨m', hm', -, hlen⟩ := M5.out.len Try.underlying30
              obtain rfl := hm'.uniq hC.out fun _ => rfl
              clear hm'
              have hcb : ((m' : Int) == mo) = true := by simpa using HCQ.out
              obtain ⟨v9, hv9⟩ : ∃ v9, v9 = (H d0).getD 0 := ⟨_, rfl⟩
              obtain ⟨q9, hq9⟩ : ∃ q9, q9 = (H d0).isSome := ⟨_, rfl⟩
              have HV9 : Hid (erI.val ((H d0).getD 0) = .int .i64 v9) := by show _ = _; rw [← hv9]; rfl
              have HQ9 : Hid ((H d0).isSome = q9) := hq9.symm
              clear hv9 hq9
              have gq9 : (q9 != q9) = false := by simp
              have HFX := Lib.hid (hFH.out)
              go_wp2_with (first
                | (at_lookup; refine wpList_lookV rfl _ _ rfl Try.underlying30 0 (zeroI _) rfl M5.out d rfl HDW.out _ _ HV0.out HQ0.out ?_)
                | (at_lookup; refine wpList_lookV rfl _ _ rfl Try.underlying30 0 (zeroI _) rfl M5.out d0 rfl H0W.out _ _ HV9.out HQ9.out ?_)
                | (go_at_call 11; refine (close_calls _ T5 d0 H0W.out).mono ?_; rw [HFX.out.iso d0, HQ9.out]; rintro e w7 ⟨rfl, T7, g7⟩; have M7 := Lib.hid (keptI M5.out g7 (Ne.symm n2)); have B7 := grownS B5 g7 hmb (Nat.le_refl _); obtain ⟨u1, u2⟩ := HC1.out _ B7)
                | (at_delete; refine wpList_del rfl _ _ rfl Try.underlying30 rfl M7.out d0 rfl H0W.out ?_; intro w8 hm8 hg8))
              have T8 := T7.kept hg8 n1 n2
              have B8 := grownS B7 hg8 n3 (Nat.le_refl _)
              have hC8 : Hid (Card (era H d0) (if (H d0).isSome then m' - 1 else m')) := hC.out.era d0
              have hle8 : (if (H d0).isSome then m' - 1 else m') ≤ m' := by split <;> omega
              obtain ⟨c8, hc8⟩ : ∃ c8, c8 = (if (H d0).isSome then m' - 1 else m') := ⟨_, rfl⟩
              rw [← hc8] at hC8 hle8
              clear hc8
              exact ⟨⟨k + 1, _, _, c8, _, _, hlt, by go_num, by omega, by omega, by omega, HFX.out.era d0, hC8, T8, hm8, B8⟩, by simp [intOf]; omega⟩
          · skip
            cases q3
            · go_wp2_with fail
              refine (open_yes _ hT (by omega) k d 0 (by unfold I64; omega) HDW.out (by unfold I64; omega) hd0 (by rw [hFH.out.sw, hFH.out d, HN.out]; rfl) (by rw [hFH.out.sw]; exact hCF.out) hcq).mono ?_
              rintro e w5 ⟨rfl, T5, g5⟩
              rw [hFH.out.sw] at T5
              have M5 := Lib.hid (keptI hM g5 (Ne.symm n2))
              have B5 := grownS hB g5 hmb (Nat.le_refl _)
              clear hT hM g5 hB
              obtain ⟨y1, y2⟩ := HC1.out _ B5
              obtain ⟨m', hm', -, hlen⟩ := M5.out.len Try.underlying30
              obtain rfl := hm'.uniq hC.out fun _ => rfl
              clear hm'
              have hcb : ((m' : Int) == mo) = false := by simpa using hcq
              go_wp2_with (first
                | (at_lookup; refine wpList_lookV rfl _ _ rfl Try.underlying30 0 (zeroI _) rfl M5.out d rfl HDW.out _ _ HV0.out HQ0.out ?_)
                | (at_mapUpdate; refine wpList_put rfl _ _ _ rfl Try.underlying30 rfl M5.out (by unfold maxLen; omega) d (k : Int) rfl rfl HDW.out ?_; intro w6 hm6 hg6; have M6 := Lib.hid hm6; have T6 := T5.kept hg6 n1 n2; have B6 := grownS B5 hg6 n3 (Nat.le_refl _); obtain ⟨z1, z2⟩ := HC1.out _ B6))
              have hC6 : Hid (Card (upd H d k) (m' + 1)) := by
                have := hC.out.upd d (k : Int)
                rw [HN.out] at this
                exact this
              have hcx : ((m' + 1 : Nat) : Int) ≤ mo := by omega
              exact ⟨⟨k + 1, _, _, m' + 1, _, _, hlt, by go_num, by omega, by omega, hcx, hFH.out.upd d k, hC6, T6, M6.out, B6⟩, by simp [intOf]; omega⟩
            · go_wp2_with fail
              refine (open_yes _ hT (by omega) k d 0 (by unfold I64; omega) HDW.out (by unfold I64; omega) hd0 (by rw [hFH.out.sw, hFH.out d, HN.out]; rfl) (by rw [hFH.out.sw]; exact hCF.out) hcq).mono ?_
              rintro e w5 ⟨rfl, T5, g5⟩
              rw [hFH.out.sw] at T5
              have M5 := Lib.hid (keptI hM g5 (Ne.symm n2))
              have B5 := grownS hB g5 hmb (Nat.le_refl _)
              clear hT hM g5 hB
              obtain ⟨y1, y2⟩ := HC1.out _ B5
              obtain ⟨m', hm', -, hlen⟩ := M5.out.len Try.underlying30
              obtain rfl := hm'.uniq hC.out fun _ => rfl
              clear hm'
              have hcb : ((m' : Int) == mo) = false := by simpa using hcq
              obtain ⟨v9, hv9⟩ : ∃ v9, v9 = ((upd H d k) d0).getD 0 := ⟨_, rfl⟩
              obtain ⟨q9, hq9⟩ : ∃ q9, q9 = ((upd H d k) d0).isSome := ⟨_, rfl⟩
              have HV9 : Hid (erI.val (((upd H d k) d0).getD 0) = .int .i64 v9) := by show _ = _; rw [← hv9]; rfl
              have HQ9 : Hid (((upd H d k) d0).isSome = q9) := hq9.symm
              clear hv9 hq9
              have gq9 : (q9 != q9) = false := by simp
              have HFX := Lib.hid (hFH.out.upd d k)
              go_wp2_with (first
                | (at_lookup; refine wpList_lookV rfl _ _ rfl Try.underlying30 0 (zeroI _) rfl M5.out d rfl HDW.out _ _ HV0.out HQ0.out ?_)
                | (at_mapUpdate; refine wpList_put rfl _ _ _ rfl Try.underlying30 rfl M5.out (by unfold maxLen; omega) d (k : Int) rfl rfl HDW.out ?_; intro w6 hm6 hg6; have M6 := Lib.hid hm6; have T6 := T5.kept hg6 n1 n2; have B6 := grownS B5 hg6 n3 (Nat.le_refl _); obtain ⟨z1, z2⟩ := HC1.out _ B6)
                | (at_lookup; refine wpList_lookV rfl _ _ rfl Try.underlying30 0 (zeroI _) rfl M6.out d0 rfl H0W.out _ _ HV9.out HQ9.out ?_)
                | (go_at_call 11; refine (close_calls _ T6 d0 H0W.out).mono ?_; rw [HFX.out.iso d0, HQ9.out]; rintro e w7 ⟨rfl, T7, g7⟩; have M7 := Lib.hid (keptI M6.out g7 (Ne.symm n2)); have B7 := grownS B6 g7 hmb (Nat.le_refl _); obtain ⟨u1, u2⟩ := HC1.out _ B7)
                | (at_delete; refine wpList_del rfl _ _ rfl Try.underlying30 rfl M7.out d0 rfl H0W.out ?_; intro w8 hm8 hg8))
              have hC6 : Hid (Card (upd H d k) (m' + 1)) := by
                have := hC.out.upd d (k : Int)
                rw [HN.out] at this
                exact this
              have hcx : ((m' + 1 : Nat) : Int) ≤ mo := by omega
              have T8 := T7.kept hg8 n1 n2
              have B8 := grownS B7 hg8 n3 (Nat.le_refl _)
              have hC8 : Hid (Card (era (upd H d k) d0) (if ((upd H d k) d0).isSome then m' + 1 - 1 else m' + 1)) := hC6.out.era d0
              have hle8 : (if ((upd H d k) d0).isSome then m' + 1 - 1 else m' + 1) ≤ m' + 1 := by split <;> omega
              obtain ⟨c8, hc8⟩ : ∃ c8, c8 = (if ((upd H d k) d0).isSome then m' + 1 - 1 else m' + 1) := ⟨_, rfl⟩
              rw [← hc8] at hC8 hle8
              clear hc8
              exact ⟨⟨k + 1, _, _, c8, _, _, hlt, by go_num, by omega, by omega, by omega, HFX.out.era d0, hC8, T8, hm8, B8⟩, by simp [intOf]; omega⟩
        · subst hq
          cases q3
          · go_wp2_with fail
            refine (open_tok _ hT (by omega) k d 0 HDW.out (by unfold I64; omega) (.inr (by rw [hFH.out.sw, hFH.out.iso, HQ0.out]))).mono ?_
            rintro e w5 ⟨rfl, T5, g5⟩
            rw [hFH.out.sw] at T5
            have M5 := Lib.hid (keptI hM g5 (Ne.symm n2))
            have B5 := grownS hB g5 hmb (Nat.le_refl _)
            clear hT hM g5 hB
            obtain ⟨y1, y2⟩ := HC1.out _ B5
            go_wp2_with (first
              | (at_lookup; refine wpList_lookV rfl _ _ rfl Try.underlying30 0 (zeroI _) rfl M5.out d rfl HDW.out _ _ HV0.out HQ0.out ?_))
            exact ⟨⟨k + 1, _, _, c, _, _, hlt, by go_num, by omega, by omega, by omega, hFH, hC, T5, M5.out, B5⟩, by simp [intOf]; omega⟩
          · go_wp2_with fail
            refine (open_tok _ hT (by omega) k d 0 HDW.out (by unfold I64; omega) (.inr (by rw [hFH.out.sw, hFH.out.iso, HQ0.out]))).mono ?_
            rintro e w5 ⟨rfl, T5, g5⟩
            rw [hFH.out.sw] at T5
            have M5 := Lib.hid (keptI hM g5 (Ne.symm n2))
            have B5 := grownS hB g5 hmb (Nat.le_refl _)
            clear hT hM g5 hB
            obtain ⟨y1, y2⟩ := HC1.out _ B5
            obtain ⟨v9, hv9⟩ : ∃ v9, v9 = (H d0).getD 0 := ⟨_, rfl⟩
            obtain ⟨q9, hq9⟩ : ∃ q9, q9 = (H d0).isSome := ⟨_, rfl⟩
            have HV9 : Hid (erI.val ((H d0).getD 0) = .int .i64 v9) := by show _ = _; rw [← hv9]; rfl
            have HQ9 : Hid ((H d0).isSome = q9) := hq9.symm
            clear hv9 hq9
            have gq9 : (q9 != q9) = false := by simp
            have HFX := Lib.hid (hFH.out)
            go_wp2_with (first
              | (at_lookup; refine wpList_lookV rfl _ _ rfl Try.underlying30 0 (zeroI _) rfl M5.out d rfl HDW.out _ _ HV0.out HQ0.out ?_)
              | (at_lookup; refine wpList_lookV rfl _ _ rfl Try.underlying30 0 (zeroI _) rfl M5.out d0 rfl H0W.out _ _ HV9.out HQ9.out ?_)
              | (go_at_call 11; refine (close_calls _ T5 d0 H0W.out).mono ?_; rw [HFX.out.iso d0, HQ9.out]; rintro e w7 ⟨rfl, T7, g7⟩; have M7 := Lib.hid (keptI M5.out g7 (Ne.symm n2)); have B7 := grownS B5 g7 hmb (Nat.le_refl _); obtain ⟨u1, u2⟩ := HC1.out _ B7)
              | (at_delete; refine wpList_del rfl _ _ rfl Try.underlying30 rfl M7.out d0 rfl H0W.out ?_; intro w8 hm8 hg8))
            have T8 := T7.kept hg8 n1 n2
            have B8 := grownS B7 hg8 n3 (Nat.le_refl _)
            have hC8 : Hid (Card (era H d0) (if (H d0).isSome then c - 1 else c)) := hC.out.era d0
            have hle8 : (if (H d0).isSome then c - 1 else c) ≤ c := by split <;> omega
            obtain ⟨c8, hc8⟩ : ∃ c8, c8 = (if (H d0).isSome then c - 1 else c) := ⟨_, rfl⟩
            rw [← hc8] at hC8 hle8
            clear hc8
            exact ⟨⟨k + 1, _, _, c8, _, _, hlt, by go_num, by omega, by omega, by omega, HFX.out.era d0, hC8, T8, hm8, B8⟩, by simp [intOf]; omega⟩
    · have hke : k = ds.length := by omega
      subst hke
      obtain ⟨ks, hks, hsr, hkl⟩ := (hFH.out.card hC.out).sorted
      subst hkl
      have HP : Hid (∀ x p, H x = some p → perF F x = p) := fun x p hx => by unfold perF; rw [hFH.out x, hx]; rfl
      have HKS := Lib.hid (And.intro hks hsr)
      go_wp2_with fail
      refine (sessions_calls _ tb mb _ 1000 hT (by omega) ks hks hsr (by omega) (by omega)).mono ?_
      rintro e w5 ⟨vx, vy, rfl, hx, hy, hb5⟩
      have T5 := Lib.hid (hT.below hb5)
      have M5 := Lib.hid (hM.below (hb5.block _ hM.lt))
      have B5 := hB.trans (hb5.mono hB.size)
      have hpl : (pairF F ks).length ≤ (1000 : Int).toNat := by simp [pairF]; omega
      rw [List.take_of_length_le hpl] at hx hy
      have hx1 : (pairF F ks).map (·.1) = ks := by simp [pairF, Function.comp_def]
      have hy1 : (pairF F ks).map (·.2) = ks.map (perF F) := by simp [pairF, Function.comp_def]
      rw [hx1] at hx
      rw [hy1] at hy
      obtain ⟨Ax, cx, rfl⟩ := hx.form
      obtain ⟨Ay, cy, rfl⟩ := hy.form
      have HX := Lib.hid hx
      have HY := Lib.hid hy
      have hly : (ks.map (perF F)).length = ks.length := by simp
      rw [hly]
      have hco := hx.1
      have hcy := hy.1
      rw [hly] at hcy
      obtain ⟨-, hcx2⟩ := id hco
      obtain ⟨-, hcy2⟩ := id hcy
      have HCO := Lib.hid (And.intro hco hcy)
      obtain ⟨m', hm', -, hlen⟩ := M5.out.len Try.underlying30
      obtain rfl := hm'.uniq hC.out fun _ => rfl
      clear hx hy hco hcy hpl hx1 hy1 hly hT hM hB hb5 hks hsr hm'
      obtain ⟨w6, hw6⟩ : ∃ w6, w6 = w5 := ⟨_, rfl⟩
      rw [← hw6] at T5 M5 B5 HX HY HCO hlen ⊢
      clear hw6 hcx2 hcy2
      go_wp2
      go_loopw [106] (fun iv wr => ∃ j : Nat, j ≤ ks.length ∧ iv = .int .i64 j ∧ wr = w6) (fun iv _ => ks.length - (intOf iv).toNat)
      case atStart => exact ⟨0, by omega, rfl, rfl⟩
      case round =>
        obtain ⟨j, hj, rfl, rfl⟩ := hrel
        by_cases hlt : j < ks.length
        · obtain ⟨gx, rfl⟩ : ∃ g, Ax = some ⟨g, 0, none⟩ := by
            rcases owns_cases HCO.out.1 with rfl | h
            · obtain ⟨-, (⟨e, h00⟩ | ⟨g, cap', cur, e, -⟩)⟩ := id HCO.out.1
              · omega
              · cases e
            · exact h
          obtain ⟨gy, rfl⟩ : ∃ g, Ay = some ⟨g, 0, none⟩ := by
            rcases owns_cases HCO.out.2 with rfl | h
            · obtain ⟨-, (⟨e, h00⟩ | ⟨g, cap', cur, e, -⟩)⟩ := id HCO.out.2
              · omega
              · cases e
            · exact h
          have e1 := HCO.out.1.cells (g := gx) rfl j (.int .u64 ks[j]) (by simp [nums, hlt])
          have e2 := HCO.out.2.cells (g := gy) rfl j (.int .i64 (perF F ks[j])) (by simp [nums, hlt])
          rw [add0t] at e1 e2
          have hsome := (HKS.out.1.2 ks[j]).1 (List.getElem_mem hlt)
          have hok := T5.out.map.ok (Option.isSome_iff_exists.1 hsome).choose_spec
          rw [hFH.out.iso] at hsome
          obtain ⟨p, hp⟩ := Option.isSome_iff_exists.1 hsome
          rw [HP.out _ _ hp] at e2
          have HV : Hid (erI.val ((H ks[j]).getD 0) = .int .i64 p) := by show _ = _; rw [hp]; rfl
          have HQ : Hid ((H ks[j]).isSome = true) := hsome
          have HOKx := Lib.hid hok
          have gp : (p != p) = false := by simp
          by_cases h0 : 0 < j
          · have e3 := HCO.out.1.cells (g := gx) rfl (j - 1) (.int .u64 (ks[j - 1]'(by omega))) (by simp [nums, show j - 1 < ks.length by omega])
            rw [add0t] at e3
            have hlt2 := List.pairwise_iff_getElem.1 HKS.out.2 (j - 1) j (by omega) hlt (by omega)
            obtain ⟨y, hy⟩ : ∃ y, y = ks[j - 1]'(by omega) := ⟨_, rfl⟩
            obtain ⟨x, hx⟩ : ∃ x, x = ks[j] := ⟨_, rfl⟩
            rw [← hy] at e3 hlt2
            rw [← hx] at e1 hlt2 HV HQ HOKx
            obtain ⟨i, hi⟩ : ∃ i, i = j - 1 := ⟨_, rfl⟩
            rw [← hi] at e3
            have hj1 : ((j : Int) - 1) = (i : Int) := by omega
            have hil : i < ks.length := by omega
            clear hy hx hi hsome hok hp
            go_wp2_with (at_lookup; refine wpList_lookV rfl _ _ rfl Try.underlying30 0 (zeroI _) rfl M5.out x rfl HOKx.out _ _ HV.out HQ.out ?_)
            exact ⟨⟨j + 1, hlt, by go_num, trivial⟩, by simp [intOf]; omega⟩
          · obtain ⟨x, hx⟩ : ∃ x, x = ks[j] := ⟨_, rfl⟩
            rw [← hx] at e1 HV HQ HOKx
            clear hx hsome hok hp
            go_wp2_with (at_lookup; refine wpList_lookV rfl _ _ rfl Try.underlying30 0 (zeroI _) rfl M5.out x rfl HOKx.out _ _ HV.out HQ.out ?_)
            exact ⟨⟨j + 1, hlt, by go_num, trivial⟩, by simp [intOf]; omega⟩
        · have gz : ((ks.length : Int) == ks.length) = true := by simp
          go_wp2_with fail
          refine (len_at _ T5.out (hFH.out.card hC.out)).mono ?_
          rintro e w7 ⟨rfl, rfl⟩
          go_wp2
          go_ret
          exact ⟨rfl, B5⟩
end Go.Proofs.Ytddpnldgfdooiaa
