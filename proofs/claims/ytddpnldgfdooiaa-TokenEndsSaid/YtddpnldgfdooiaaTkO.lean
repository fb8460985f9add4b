import Derived.Test.YtddpnldgfdooiaaTkN
namespace Go.Proofs.Ytddpnldgfdooiaa
open Go.RowKit Go.Maps
attribute [local go_sem] World.cell?_alloc_some frozen_alloc_some

/-! TokenUses. -/
theorem i64_and (k : Nat) (hk : k ≤ 12) (n : Int) : bits .and .i64 n ((2 ^ k - 1 : Nat) : Int) = n % ((2 ^ k : Nat) : Int) := by
  have hp : (2 : Nat) ^ k ≤ 2 ^ 12 := Nat.pow_le_pow_right (by omega) hk
  have hp0 : 0 < (2 : Nat) ^ k := Nat.pow_pos (by omega)
  have h127 : (BitVec.ofInt 64 ((2 ^ k - 1 : Nat) : Int)).toNat = 2 ^ k - 1 := by
    rw [BitVec.toNat_ofInt]
    omega
  have key : (BitVec.ofInt 64 n &&& BitVec.ofInt 64 ((2 ^ k - 1 : Nat) : Int)).toNat = (n % ((2 ^ 64 : Nat) : Int)).toNat % 2 ^ k := by
    rw [BitVec.toNat_and, BitVec.toNat_ofInt, h127, Nat.and_two_pow_sub_one_eq_mod]
  have hdvd : ((2 ^ k : Nat) : Int) ∣ ((2 ^ 64 : Nat) : Int) := by
    exact_mod_cast Nat.pow_dvd_pow 2 (show k ≤ 64 by omega)
  show IntKind.i64.wrap ((BitVec.ofInt 64 n &&& BitVec.ofInt 64 ((2 ^ k - 1 : Nat) : Int)).toNat : Nat) = n % ((2 ^ k : Nat) : Int)
  have h3 : (((n % ((2 ^ 64 : Nat) : Int)).toNat % 2 ^ k : Nat) : Int) = n % ((2 ^ k : Nat) : Int) := by
    rw [Int.natCast_emod, Int.toNat_of_nonneg (Int.emod_nonneg _ (by decide)), Int.emod_emod_of_dvd _ hdvd]
  rw [key, h3, IntKind.wrap_i64]
  have h4 := Int.emod_nonneg n (show ((2 ^ k : Nat) : Int) ≠ 0 by omega)
  have h5 := Int.emod_lt_of_pos n (show (0 : Int) < ((2 ^ k : Nat) : Int) by omega)
  omega
theorem and15 (n : Int) : bits .and .i64 n 15 = n % 16 := i64_and 4 (by omega) n
theorem and63 (n : Int) : bits .and .i64 n 63 = n % 64 := i64_and 6 (by omega) n
theorem and255 (n : Int) : bits .and .i64 n 255 = n % 256 := i64_and 8 (by omega) n
theorem and511 (n : Int) : bits .and .i64 n 511 = n % 512 := i64_and 9 (by omega) n
theorem and7 (n : Int) : bits .and .i64 n 7 = n % 8 := i64_and 3 (by omega) n
theorem and3 (n : Int) : bits .and .i64 n 3 = n % 4 := i64_and 2 (by omega) n
theorem TabAt.kept {w w' : World} {tb mb n b : Nat} {most idle abs : Int} {F : Int → Option Ses} (h : TabAt w tb mb n most idle abs F) (hg : w.grownBy w' (some b)) (h1 : tb ≠ b) (h2 : mb ≠ b) : TabAt w' tb mb n most idle abs F :=
  ⟨(hg.block _ (Array.getElem?_eq_some_iff.1 h.cells).1 (fun e => h1 (Option.some.inj e))).trans h.cells, h.map.below (hg.block _ h.map.lt (fun e => h2 (Option.some.inj e))), h.rng, h.ses⟩
theorem upd_at {F : Int → Option Ses} (x : Int) (s : Ses) : upd F x s x = some s := if_pos rfl
theorem upd_ne {F : Int → Option Ses} {x y : Int} (s : Ses) (h : y ≠ x) : upd F x s y = F y := if_neg h
theorem TabAt.lt {w : World} {tb mb n : Nat} {most idle abs : Int} {F : Int → Option Ses} (h : TabAt w tb mb n most idle abs F) : tb < w.heap.size ∧ mb < w.heap.size := ⟨(Array.getElem?_eq_some_iff.1 h.cells).1, h.map.lt⟩
theorem endM_false {idle abs now : Int} {s : Ses} (h1 : now - s.2.2 < idle) (h2 : now - s.2.1 < abs) : endM idle abs s now = false := by unfold endM goneM; simp; omega
theorem endM_true {idle abs now : Int} {s : Ses} (h : idle ≤ now - s.2.2 ∨ abs ≤ now - s.2.1) : endM idle abs s now = true := by unfold endM goneM; simp; omega
theorem new_at (w : World) (most idle abs : Int) (h : newOk most idle abs) : Calls Try.prog 9 #[.int .i64 most, .int .i64 idle, .int .i64 abs] w fun e w' =>
    ∃ tb mb, e = .returned (.tuple #[.pointer (some ⟨tb, 0, none⟩), .int .i64 0]) ∧ TabAt w' tb mb 0 most idle abs nilF ∧ Below w.heap.size w w' ∧ w.heap.size ≤ mb ∧ w.heap.size ≤ tb :=
  (new_yes w most idle abs h).mono fun e w' ⟨h1, h2⟩ => ⟨_, _, h1, by rw [h2]; exact tab_new w h, by rw [h2]; exact ((Below.refl _ _).alloc (Nat.le_refl _) _).alloc (by simp) _, Nat.le_refl _, by omega⟩
set_option maxRecDepth 100000 in
set_option maxHeartbeats 8000000 in
theorem uses_law (w : World) (idle absolute : Int) (_ : (Lit.int .i64 idle).wf = true) (_ : (Lit.int .i64 absolute).wf = true) :
    Calls Try.prog 5 #[.int .i64 idle, .int .i64 absolute] w fun e w' => e = .returned (.bool true) ∧ Below w.heap.size w w' := by
  obtain ⟨i, hi, i1, i2⟩ : ∃ i, wrap64 (2 + bits .and .i64 idle 15) = i ∧ 2 ≤ i ∧ i ≤ 17 := by
    rw [and15]
    have := Int.emod_nonneg idle (show (16 : Int) ≠ 0 by omega)
    have := Int.emod_lt_of_pos idle (show (0 : Int) < 16 by omega)
    exact ⟨2 + idle % 16, by unfold wrap64; omega, by omega, by omega⟩
  obtain ⟨a, ha, a1, a2⟩ : ∃ a, wrap64 (2 + bits .and .i64 absolute 63) = a ∧ 2 ≤ a ∧ a ≤ 65 := by
    rw [and63]
    have := Int.emod_nonneg absolute (show (64 : Int) ≠ 0 by omega)
    have := Int.emod_lt_of_pos absolute (show (0 : Int) < 64 by omega)
    exact ⟨2 + absolute % 64, by unfold wrap64; omega, by omega, by omega⟩
  have hok : newOk 2 i a := by unfold newOk; omega
  have hok1 : newOk 1 i a := by unfold newOk; omega
  have HOK := Lib.hid (And.intro hok hok1)
  clear hok hok1
  go_enter Try.func5, Try.ntmps5
  go_wp2_with fail
  refine (alive_calls _).mono ?_
  rintro e w1 ⟨rfl, B1⟩
  go_wp2_with fail
  refine (new_at _ 2 i a HOK.out.1).mono ?_
  rintro e w2 ⟨tb, mb, rfl, T2, b2, m1, m2⟩
  have hB := B1.size
  have hmb : w.heap.size ≤ mb := by omega
  have B2 := B1.trans (b2.mono hB)
  clear b2 m1 m2 hB B1
  go_wp2_with fail
  refine (open_yes _ T2 (by omega) 1 5 0 (by unfold I64; omega) (by decide) (by unfold I64; omega) (by omega) rfl (by rw [swF_nil]; exact card_nil) (by omega)).mono ?_
  rintro e w3 ⟨rfl, T3, g3⟩
  rw [swF_nil, upd_nil] at T3
  have B3 := grownS B2 g3 hmb (Nat.le_refl _)
  clear T2 g3 B2
  have hend : ¬ endM i a (1, 0, 0) 0 = true := by rw [endM_false (by simp; omega) (by simp; omega)]; simp
  go_wp2_with fail
  refine (open_yes _ T3 (by omega) 2 6 0 (by unfold I64; omega) (by decide) (by unfold I64; omega) (by omega) (by rw [swF_uno, if_neg hend]; exact uno_ne _ (by omega)) (by rw [swF_uno, if_neg hend]; exact card_uno _ _) (by omega)).mono ?_
  rintro e w4 ⟨rfl, T4, g4⟩
  rw [swF_uno, if_neg hend] at T4
  have B4 := grownS B3 g4 hmb (Nat.le_refl _)
  clear T3 g4 B3 hend
  go_wp2
  go_loopw [9] (fun v wr => ∃ (t l : Int) (n : Nat) (F : Int → Option Ses), v = .int .i64 t ∧ 0 ≤ t ∧ t ≤ a + i ∧ 0 ≤ l ∧ l ≤ t ∧ t - l < i ∧ (n : Int) ≤ 2 + t ∧ Hid (F 5 = some (1, 0, l)) ∧ TabAt wr tb mb n 2 i a F ∧ Below w.heap.size w wr) (fun v _ => (a - intOf v).toNat)
  case atStart => exact ⟨0, 0, _, _, rfl, by omega, by omega, by omega, by omega, by omega, by omega, by show _ = _; rw [upd_ne _ (by omega)]; exact uno_at _ _, T4, B4⟩
  case round =>
    clear T4 B4
    obtain ⟨t, l, n, F, rfl, t1, t2, l1, l2, l3, hn, hF, hT, hB⟩ := hrel
    by_cases hlt : t < a
    · go_wp2_with fail
      refine (use_yes _ hT 5 (by decide) t (by unfold I64; omega) (by omega) 1 0 l hF.out (endM_false (by simp; omega) (by simp; omega))).mono ?_
      rintro e w5 ⟨rfl, T5, g5⟩
      have B5 := grownS hB g5 hmb (Nat.le_refl _)
      have hF5 : Hid (upd F 5 (1, 0, t) 5 = some (1, 0, t)) := upd_at _ _
      have hw1 : wrap64 (i - 1) = i - 1 := by unfold wrap64; omega
      have hw2 : wrap64 (t + (i - 1)) = t + (i - 1) := by unfold wrap64; omega
      clear hT g5 hB
      go_wp2
      exact ⟨⟨t + (i - 1), t, n + 1, _, by first | rfl | go_num, by omega, by omega, by omega, by omega, by omega, by omega, hF5, T5, B5⟩, by simp [intOf]; omega⟩
    · have hBs := hB.size
      have htl := hT.lt
      go_wp2_with fail
      refine (new_at _ 1 i a HOK.out.2).mono ?_
      rintro e w6 ⟨ub, nb, rfl, U6, b6, m1, m2⟩
      have T6 := hT.below b6
      have B6 := hB.trans (b6.mono hBs)
      have n1 : tb ≠ nb := by omega
      have n2 : mb ≠ nb := by omega
      have n3 : ub ≠ mb := by omega
      have n4 : w.heap.size ≤ nb := by omega
      clear hT hB b6 m1 m2 htl hBs
      go_wp2_with fail
      refine (open_yes _ U6 (by omega) 3 7 10 (by unfold I64; omega) (by decide) (by unfold I64; omega) (by omega) rfl (by rw [swF_nil]; exact card_nil) (by omega)).mono ?_
      rintro e w7 ⟨rfl, U7, g7⟩
      rw [swF_nil, upd_nil] at U7
      have T7 := T6.kept g7 n1 n2
      have B7 := grownS B6 g7 n4 (Nat.le_refl _)
      clear T6 U6 g7 B6
      go_wp2_with fail
      refine (use_no _ T7 5 (by decide) a (by unfold I64; omega) (fun s hs => by rw [hF.out] at hs; cases hs; exact endM_true (by simp))).mono ?_
      rintro e w8 ⟨rfl, T8, g8⟩
      have U8 := U7.kept g8 n3 (Ne.symm n2)
      have B8 := grownS B7 g8 hmb (Nat.le_refl _)
      clear T7 U7 g8 B7 T8 hF
      have HU : ∀ en, 0 ≤ en → en ≤ i → en ≤ a → Hid (Calls Try.prog 12 #[.pointer (some ⟨ub, 0, none⟩), .int .u64 7, .int .i64 (10 + en - 1)] w8 fun e w' => e = .returned (.tuple #[.int .i64 3, .int .i64 0]) ∧ Below w.heap.size w w') := fun en e0 e1 e2 => by
        exact (use_yes _ U8 7 (by decide) (10 + en - 1) (by unfold I64; omega) (by omega) 3 10 10 (uno_at _ _) (endM_false (by simp; omega) (by simp; omega))).mono fun e w' ⟨k1, _, k3⟩ => ⟨k1, grownS B8 k3 n4 (Nat.le_refl _)⟩
      have HV : Hid (∀ en, (i ≤ en ∨ a ≤ en) → I64 (10 + en) → ∀ W vb pb n, TabAt W vb pb n 1 i a (uno 7 (3, 10, 10)) → Calls Try.prog 12 #[.pointer (some ⟨vb, 0, none⟩), .int .u64 7, .int .i64 (10 + en)] W fun e w' => e = .returned (.tuple #[.int .i64 0, .int .i64 41]) ∧ TabAt w' vb pb n 1 i a nilF ∧ W.grownBy w' (some pb)) := fun en e1 e2 W vb pb n V =>
        (use_no _ V 7 (by decide) (10 + en) e2 (fun s hs => by rw [uno_at] at hs; cases hs; exact endM_true (by simp; omega))).mono fun e w' ⟨k1, k2, k3⟩ => ⟨k1, by rw [era_uno] at k2; exact k2, k3⟩
      clear U8
      by_cases hia : i ≤ a
      · have hw3 : wrap64 (10 + i) = 10 + i := by unfold wrap64; omega
        have hw4 : wrap64 (10 + i - 1) = 10 + i - 1 := by unfold wrap64; omega
        have hw5 : wrap64 (10 + a) = 10 + a := by unfold wrap64; omega
        have hw6 : wrap64 (10 + a - 1) = 10 + a - 1 := by unfold wrap64; omega
        go_wp2_with fail
        refine (HU i (by omega) (by omega) (by omega)).out.mono ?_
        rintro e w9 ⟨rfl, B9⟩
        go_wp2_with fail
        refine (new_at _ 1 i a HOK.out.2).mono ?_
        rintro e w10 ⟨vb, pb, rfl, V10, b10, m1, m2⟩
        have hs9 := B9.size
        have n5 : w.heap.size ≤ pb := by omega
        have B10 := B9.trans (b10.mono hs9)
        clear b10 m1 m2 hs9
        go_wp2_with fail
        refine (open_yes _ V10 (by omega) 3 7 10 (by unfold I64; omega) (by decide) (by unfold I64; omega) (by omega) rfl (by rw [swF_nil]; exact card_nil) (by omega)).mono ?_
        rintro e w11 ⟨rfl, V11, g11⟩
        rw [swF_nil, upd_nil] at V11
        have B11 := grownS B10 g11 n5 (Nat.le_refl _)
        clear V10 g11
        go_wp2_with fail
        refine (HV.out i (by omega) (by unfold I64; omega) _ _ _ _ V11).mono ?_
        rintro e w12 ⟨rfl, V12, g12⟩
        have B12 := grownS B11 g12 n5 (Nat.le_refl _)
        have HLN : Hid (Calls Try.prog 13 #[.pointer (some ⟨vb, 0, none⟩)] w12 fun e w' => e = .returned (.int .i64 0) ∧ w' = w12) := (len_calls _ V12).mono fun e w' ⟨c, h1, _, h3, h4⟩ => by
          have e1 := h1.uniq card_nil fun _ => rfl
          rw [h3, e1]
          exact ⟨rfl, h4⟩
        clear V11 V12 g12
        go_wp2_with fail
        refine HLN.out.mono ?_
        rintro e w13 ⟨rfl, rfl⟩
        go_wp2
        go_ret
        exact ⟨rfl, B12⟩
      · have hw3 : wrap64 (10 + i) = 10 + i := by unfold wrap64; omega
        have hw4 : wrap64 (10 + i - 1) = 10 + i - 1 := by unfold wrap64; omega
        have hw5 : wrap64 (10 + a) = 10 + a := by unfold wrap64; omega
        have hw6 : wrap64 (10 + a - 1) = 10 + a - 1 := by unfold wrap64; omega
        go_wp2_with fail
        refine (HU a (by omega) (by omega) (by omega)).out.mono ?_
        rintro e w9 ⟨rfl, B9⟩
        go_wp2_with fail
        refine (new_at _ 1 i a HOK.out.2).mono ?_
        rintro e w10 ⟨vb, pb, rfl, V10, b10, m1, m2⟩
        have hs9 := B9.size
        have n5 : w.heap.size ≤ pb := by omega
        have B10 := B9.trans (b10.mono hs9)
        clear b10 m1 m2 hs9
        go_wp2_with fail
        refine (open_yes _ V10 (by omega) 3 7 10 (by unfold I64; omega) (by decide) (by unfold I64; omega) (by omega) rfl (by rw [swF_nil]; exact card_nil) (by omega)).mono ?_
        rintro e w11 ⟨rfl, V11, g11⟩
        rw [swF_nil, upd_nil] at V11
        have B11 := grownS B10 g11 n5 (Nat.le_refl _)
        clear V10 g11
        go_wp2_with fail
        refine (HV.out a (by omega) (by unfold I64; omega) _ _ _ _ V11).mono ?_
        rintro e w12 ⟨rfl, V12, g12⟩
        have B12 := grownS B11 g12 n5 (Nat.le_refl _)
        have HLN : Hid (Calls Try.prog 13 #[.pointer (some ⟨vb, 0, none⟩)] w12 fun e w' => e = .returned (.int .i64 0) ∧ w' = w12) := (len_calls _ V12).mono fun e w' ⟨c, h1, _, h3, h4⟩ => by
          have e1 := h1.uniq card_nil fun _ => rfl
          rw [h3, e1]
          exact ⟨rfl, h4⟩
        clear V11 V12 g12
        go_wp2_with fail
        refine HLN.out.mono ?_
        rintro e w13 ⟨rfl, rfl⟩
        go_wp2
        go_ret
        exact ⟨rfl, B12⟩
end Go.Proofs.Ytddpnldgfdooiaa
