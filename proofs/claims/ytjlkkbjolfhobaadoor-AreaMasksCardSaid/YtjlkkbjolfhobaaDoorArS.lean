import Derived.Test.YtjlkkbjolfhobaaDoorArR
namespace Go.Proofs.YtjlkkbjolfhobaaDoor
open Go.RowKit
attribute [local go_sem] World.cell?_alloc_some frozen_alloc_some

theorem ofL_len100 {N : Nat} {pre : List Nat} {m : List Sp} (h : N ≤ 16) : (ofL N pre m).length ≤ 100 := by rw [ofL_len]; omega
set_option maxRecDepth 100000 in
set_option maxHeartbeats 40000000 in
theorem masks_law (w : World) (vs : Value) (n : Int) (x y : Nat) (s : List Sp) (lab : Int) (key : Nat) (hs : RdS w vs s) (hx : x < 4294967296) (hy : y < 4294967296) (hT : Tab w) :
    Calls Tryd.prog 5 #[.int .i64 n, .int .u32 x, .int .u32 y, vs, .agg #[.int .i64 lab, .int .u32 key]] w fun e w' => e = .returned (.bool true) ∧ Below w.heap.size w w' := by
  obtain ⟨As, cs, rfl, ks1, ks2, ks3, -⟩ := id hs
  have hb := (Below.refl w.heap.size w).alloc (Nat.le_refl _) (.cells #[.int .i64 lab, .int .u32 key] 25)
  have HS := Lib.hid (hs.keep hb)
  have HT := Lib.hid (hT.keep hb)
  have HC : Hid (CellC w.heap.size lab key (w.alloc (.cells #[.int .i64 lab, .int .u32 key] 25))) := (cells2 (heap_alloc_at w (.cells #[.int .i64 lab, .int .u32 key] 25))).1
  have hbw := hb
  have hwf := Lib.hid hs.wf
  clear hs hT hb
  unfold maxLen at ks2
  have hk63 := ks3.1
  clear ks3
  go_enter Tryd.func5, Tryd.ntmps5
  go_wp2_with fail
  refine (alive_calls _ HT.out).mono ?_
  rintro e W0 ⟨rfl, hb⟩
  replace HS := Lib.hid (HS.out.keep hb)
  replace HT := Lib.hid (HT.out.keep hb)
  replace HC := Lib.hid (HC.out.keep hb)
  replace hbw := hbw.trans (hb.mono hbw.size)
  clear hb
  by_cases h20 : 20 < s.length
  · go_wp2
    go_ret
    exact ⟨rfl, hbw⟩
  have hnf : Hid ((nf s).length ≤ 20) := nf_len20 hwf.out (by omega)
  obtain ⟨M, hM⟩ : ∃ M : Nat, bits .and .i64 n 15 = (M : Int) ∧ M < 16 := by
    have h := (i64_and_low n).1
    exact ⟨(n % 16).toNat, by rw [h]; omega, by omega⟩
  obtain ⟨hM1, hM2⟩ := hM
  have hN16 : M + 1 ≤ 16 := by omega
  have hNN : (min (max (1 + (M : Int)) 0) 16).toNat = M + 1 := by omega
  have HL : Hid (RdAA W0 []) := RdAA.nil
  go_wp2_with fail
  refine (of_calls _ _ x _ s HS.out (by omega) hx HT.out).mono ?_
  rw [hNN]
  rintro e W1 ⟨χ_a, rfl, O_a, hb⟩
  have R_a := O_a.rd (by rw [ofL_len]; omega)
  have e_a : ofL (M + 1) (bitsN x) (nf s) = ofL (M + 1) (bitsN x) (nf s) := rfl
  replace HL := Lib.hid ((HL.out.keep hb).cons R_a)
  replace HC := Lib.hid (HC.out.keep hb)
  replace HS := Lib.hid (HS.out.keep hb)
  replace HT := Lib.hid (HT.out.keep hb)
  replace hbw := hbw.trans (hb.mono hbw.size)
  clear R_a O_a hb e_a
  go_wp2_with fail
  refine (of_calls _ _ y _ s HS.out (by omega) hy HT.out).mono ?_
  rw [hNN]
  rintro e W2 ⟨χ_b, rfl, O_b, hb⟩
  have R_b := O_b.rd (by rw [ofL_len]; omega)
  have e_b : ofL (M + 1) (bitsN y) (nf s) = ofL (M + 1) (bitsN y) (nf s) := rfl
  replace HL := Lib.hid ((HL.out.keep hb).cons R_b)
  replace HC := Lib.hid (HC.out.keep hb)
  replace HS := Lib.hid (HS.out.keep hb)
  replace HT := Lib.hid (HT.out.keep hb)
  replace hbw := hbw.trans (hb.mono hbw.size)
  clear R_b O_b hb e_b
  have LO : Hid ((ofL (M + 1) (bitsN x) (nf s)).length ≤ 100) := ofL_len100 hN16
  have LO2 : Hid ((ofL (M + 1) (bitsN y) (nf s)).length ≤ 100) := ofL_len100 hN16
  have SO : Hid (Sm 20 (ofL (M + 1) (bitsN x) (nf s))) := ofL_sm hnf.out
  have SO2 : Hid (Sm 20 (ofL (M + 1) (bitsN y) (nf s))) := ofL_sm hnf.out
  have HIN := Lib.hid (in_ofL (N := M + 1) (x := x) (key := key) (lab := lab) (s := s) hN16 hwf.out)
  obtain ⟨zo, hor, Zo⟩ : ∃ zo : Nat, bits .or .u32 (x : Int) (y : Int) = (zo : Int) ∧ Hid (zo < 4294967296 ∧ ∀ i, zo.testBit i = (x.testBit i || y.testBit i)) := ⟨x ||| y, or_u32_nat x y hx hy, Nat.or_lt_two_pow (n := 32) hx hy, fun i => Nat.testBit_or _ _ _⟩
  obtain ⟨za, hand, Za⟩ : ∃ za : Nat, bits .and .u32 (x : Int) (y : Int) = (za : Int) ∧ Hid (za < 4294967296 ∧ ∀ i, za.testBit i = (x.testBit i && y.testBit i)) := ⟨x &&& y, u32_and_nat x y hx hy, Nat.lt_of_le_of_lt Nat.and_le_left hx, fun i => Nat.testBit_and _ _ _⟩
  obtain ⟨zd, hnot, Zd⟩ : ∃ zd : Nat, bits .andNot .u32 (x : Int) (y : Int) = (zd : Int) ∧ Hid (zd < 4294967296 ∧ ∀ i, i < 16 → zd.testBit i = (x.testBit i && !y.testBit i)) := andnot_nat x y hx hy
  by_cases h0 : 0 ≤ lab
  · by_cases h1 : lab < M + 1
    · obtain ⟨l, rfl⟩ : ∃ l : Nat, lab = l := ⟨lab.toNat, by omega⟩
      have h31 : bits .and .i64 (l : Int) 31 = (l : Int) := by rw [(i64_and_low l).2]; omega
      have hbt := bit_at (x := x) (lab := l) hx
      rw [show ((x >>> l : Nat) : Int) = (x : Int) / 2 ^ l by rw [Nat.shiftRight_eq_div_pow]; simp] at hbt
      cases qb : x.testBit l with
      | false =>
        rw [qb] at hbt
        have HI : Hid (inA (ofL (M + 1) (bitsN x) (nf s)) l key = false) := by show _ = _; rw [HIN.out, Int.toNat_natCast, qb]; simp
        clear HIN qb
        obtain ⟨y0, y1⟩ := id HC.out
        simp only [Bool.false_eq_true, if_false] at hbt
        go_wp2_with fail
        clear y0 y1
        refine (make_calls _ _ s HS.out (by omega)).mono ?_
        rintro e W12 ⟨v1, m1, rfl, N1, hset, -, hb⟩
        obtain rfl := hset.eq (nf_spec hwf.out) fun _ => Iff.rfl
        obtain ⟨A1, c1, rfl⟩ := N1.form
        clear N1 hset
        replace HL := Lib.hid ((HL.out.keep hb))
        replace HC := Lib.hid (HC.out.keep hb)
        replace HS := Lib.hid (HS.out.keep hb)
        replace HT := Lib.hid (HT.out.keep hb)
        replace hbw := hbw.trans (hb.mono hbw.size)
        clear hb
        by_cases hne : nf s = []
        · have hl0 : (nf s).length = 0 := by rw [hne]; rfl
          have HM := Lib.hid (mask_ofL0 (x := x) hN16 hwf.out hne)
          clear hne
          obtain ⟨y0, y1⟩ := id HC.out
          go_wp2_with fail
          clear y0 y1
          refine (has_b _ _ (ofL (M + 1) (bitsN x) (nf s)) _ key _ (HL.out.at_ 1 rfl) HI.out).mono ?_
          rintro e W21 ⟨rfl, hb⟩
          replace HL := Lib.hid ((HL.out.keep hb))
          replace HC := Lib.hid (HC.out.keep hb)
          replace HS := Lib.hid (HS.out.keep hb)
          replace HT := Lib.hid (HT.out.keep hb)
          replace hbw := hbw.trans (hb.mono hbw.size)
          clear hb
          go_wp2_with fail
          refine (maska_calls _ _ (ofL (M + 1) (bitsN x) (nf s)) (HL.out.at_ 1 rfl) (SO.out.mono (by omega)) LO.out).mono ?_
          rw [HM.out]
          rintro e W22 ⟨rfl, hb⟩
          replace HL := Lib.hid ((HL.out.keep hb))
          replace HC := Lib.hid (HC.out.keep hb)
          replace HS := Lib.hid (HS.out.keep hb)
          replace HT := Lib.hid (HT.out.keep hb)
          replace hbw := hbw.trans (hb.mono hbw.size)
          clear hb
          go_wp2_with fail
          refine (area_union _ _ _ (ofL (M + 1) (bitsN x) (nf s)) (ofL (M + 1) (bitsN y) (nf s)) 20 20 (HL.out.at_ 1 rfl) (HL.out.at_ 0 rfl) LO.out LO2.out SO.out SO2.out (by omega) (by omega)).mono ?_
          rintro e W23 ⟨v_u, u, rfl, R_u, l_u, h_u, s_u, hb⟩
          obtain ⟨A_u, c_u, rfl, -⟩ := id R_u
          have L_u : Hid (u.length ≤ 100) := by show _ ≤ _; have := LO.out; have := LO2.out; omega
          have S_u := Lib.hid s_u
          have H_u : Hid (IsU (ofL (M + 1) (bitsN x) (nf s)) (ofL (M + 1) (bitsN y) (nf s)) u) := h_u
          replace HL := Lib.hid ((HL.out.keep hb).cons R_u)
          replace HC := Lib.hid (HC.out.keep hb)
          replace HS := Lib.hid (HS.out.keep hb)
          replace HT := Lib.hid (HT.out.keep hb)
          replace hbw := hbw.trans (hb.mono hbw.size)
          clear R_u l_u h_u s_u hb
          go_wp2_with fail
          refine (of_calls _ _ zo _ s HS.out (by omega) Zo.out.1 HT.out).mono ?_
          rw [hNN]
          rintro e W24 ⟨χ_ou, rfl, O_ou, hb⟩
          have R_ou := O_ou.rd (by rw [ofL_len]; omega)
          have e_ou : ofL (M + 1) (bitsN zo) (nf s) = ofL (M + 1) (bitsN zo) (nf s) := rfl
          replace HL := Lib.hid ((HL.out.keep hb).cons R_ou)
          replace HC := Lib.hid (HC.out.keep hb)
          replace HS := Lib.hid (HS.out.keep hb)
          replace HT := Lib.hid (HT.out.keep hb)
          replace hbw := hbw.trans (hb.mono hbw.size)
          clear R_ou O_ou hb e_ou
          go_wp2_with fail
          refine (same_b _ _ _ u (ofL (M + 1) (bitsN zo) (nf s)) (HL.out.at_ 1 rfl) (HL.out.at_ 0 rfl) L_u.out (ofL_len100 hN16) (S_u.out.mono (by omega)) (ofL_sm (Nat.le_trans hnf.out (by omega)))).mono ?_
          rw [(same_uL hN16 H_u.out Zo.out.2).1, (same_uL hN16 H_u.out Zo.out.2).2, Bool.and_self]
          rintro e W25 ⟨rfl, hb⟩
          replace HL := Lib.hid ((HL.out.keep hb))
          replace HC := Lib.hid (HC.out.keep hb)
          replace HS := Lib.hid (HS.out.keep hb)
          replace HT := Lib.hid (HT.out.keep hb)
          replace hbw := hbw.trans (hb.mono hbw.size)
          clear hb
          go_wp2_with fail
          refine (area_meet _ _ _ (ofL (M + 1) (bitsN x) (nf s)) (ofL (M + 1) (bitsN y) (nf s)) 20 20 (HL.out.at_ 3 rfl) (HL.out.at_ 2 rfl) LO.out LO2.out SO.out SO2.out (by omega) (by omega)).mono ?_
          rintro e W26 ⟨v_m, m, rfl, R_m, l_m, h_m, s_m, hb⟩
          obtain ⟨A_m, c_m, rfl, -⟩ := id R_m
          have L_m : Hid (m.length ≤ 100) := by show _ ≤ _; have := LO.out; have := LO2.out; omega
          have S_m := Lib.hid s_m
          have H_m : Hid (IsM (ofL (M + 1) (bitsN x) (nf s)) (ofL (M + 1) (bitsN y) (nf s)) m) := h_m
          replace HL := Lib.hid ((HL.out.keep hb).cons R_m)
          replace HC := Lib.hid (HC.out.keep hb)
          replace HS := Lib.hid (HS.out.keep hb)
          replace HT := Lib.hid (HT.out.keep hb)
          replace hbw := hbw.trans (hb.mono hbw.size)
          clear R_m l_m h_m s_m hb
          go_wp2_with fail
          refine (of_calls _ _ za _ s HS.out (by omega) Za.out.1 HT.out).mono ?_
          rw [hNN]
          rintro e W27 ⟨χ_om, rfl, O_om, hb⟩
          have R_om := O_om.rd (by rw [ofL_len]; omega)
          have e_om : ofL (M + 1) (bitsN za) (nf s) = ofL (M + 1) (bitsN za) (nf s) := rfl
          replace HL := Lib.hid ((HL.out.keep hb).cons R_om)
          replace HC := Lib.hid (HC.out.keep hb)
          replace HS := Lib.hid (HS.out.keep hb)
          replace HT := Lib.hid (HT.out.keep hb)
          replace hbw := hbw.trans (hb.mono hbw.size)
          clear R_om O_om hb e_om
          go_wp2_with fail
          refine (same_b _ _ _ m (ofL (M + 1) (bitsN za) (nf s)) (HL.out.at_ 1 rfl) (HL.out.at_ 0 rfl) L_m.out (ofL_len100 hN16) (S_m.out.mono (by omega)) (ofL_sm (Nat.le_trans hnf.out (by omega)))).mono ?_
          rw [(same_mL hN16 H_m.out Za.out.2).1, (same_mL hN16 H_m.out Za.out.2).2, Bool.and_self]
          rintro e W28 ⟨rfl, hb⟩
          replace HL := Lib.hid ((HL.out.keep hb))
          replace HC := Lib.hid (HC.out.keep hb)
          replace HS := Lib.hid (HS.out.keep hb)
          replace HT := Lib.hid (HT.out.keep hb)
          replace hbw := hbw.trans (hb.mono hbw.size)
          clear hb
          go_wp2_with fail
          refine (area_minus _ _ _ (ofL (M + 1) (bitsN x) (nf s)) (ofL (M + 1) (bitsN y) (nf s)) 20 20 (HL.out.at_ 5 rfl) (HL.out.at_ 4 rfl) LO.out LO2.out SO.out SO2.out (by omega) (by omega)).mono ?_
          rintro e W29 ⟨v_d, d, rfl, R_d, l_d, h_d, s_d, hb⟩
          obtain ⟨A_d, c_d, rfl, -⟩ := id R_d
          have L_d : Hid (d.length ≤ 100) := by show _ ≤ _; have := LO.out; have := LO2.out; omega
          have S_d := Lib.hid s_d
          have H_d : Hid (IsD (ofL (M + 1) (bitsN x) (nf s)) (ofL (M + 1) (bitsN y) (nf s)) d) := h_d
          replace HL := Lib.hid ((HL.out.keep hb).cons R_d)
          replace HC := Lib.hid (HC.out.keep hb)
          replace HS := Lib.hid (HS.out.keep hb)
          replace HT := Lib.hid (HT.out.keep hb)
          replace hbw := hbw.trans (hb.mono hbw.size)
          clear R_d l_d h_d s_d hb
          go_wp2_with fail
          refine (of_calls _ _ zd _ s HS.out (by omega) Zd.out.1 HT.out).mono ?_
          rw [hNN]
          rintro e W30 ⟨χ_od, rfl, O_od, hb⟩
          have R_od := O_od.rd (by rw [ofL_len]; omega)
          have e_od : ofL (M + 1) (bitsN zd) (nf s) = ofL (M + 1) (bitsN zd) (nf s) := rfl
          replace HL := Lib.hid ((HL.out.keep hb).cons R_od)
          replace HC := Lib.hid (HC.out.keep hb)
          replace HS := Lib.hid (HS.out.keep hb)
          replace HT := Lib.hid (HT.out.keep hb)
          replace hbw := hbw.trans (hb.mono hbw.size)
          clear R_od O_od hb e_od
          go_wp2_with fail
          refine (same_b _ _ _ d (ofL (M + 1) (bitsN zd) (nf s)) (HL.out.at_ 1 rfl) (HL.out.at_ 0 rfl) L_d.out (ofL_len100 hN16) (S_d.out.mono (by omega)) (ofL_sm (Nat.le_trans hnf.out (by omega)))).mono ?_
          rw [(same_dL hN16 H_d.out Zd.out.2).1, (same_dL hN16 H_d.out Zd.out.2).2, Bool.and_self]
          rintro e W31 ⟨rfl, hb⟩
          replace HL := Lib.hid ((HL.out.keep hb))
          replace HC := Lib.hid (HC.out.keep hb)
          replace HS := Lib.hid (HS.out.keep hb)
          replace HT := Lib.hid (HT.out.keep hb)
          replace hbw := hbw.trans (hb.mono hbw.size)
          clear hb
          go_wp2
          go_ret
          exact ⟨rfl, hbw⟩
        · have hl0 : 0 < (nf s).length := List.length_pos_iff.2 hne
          have HM := Lib.hid (mask_ofL (x := x) hN16 hwf.out hne)
          clear hne
          have hP := low_and (x := x) (M := M) hx hM2
          obtain ⟨P, hPe⟩ : ∃ P, P = x &&& (2 ^ (M + 1) - 1) := ⟨_, rfl⟩
          have HM := Lib.hid (HM.out.trans hPe.symm)
          rw [← hPe] at hP
          clear hPe
          obtain ⟨y0, y1⟩ := id HC.out
          go_wp2_with fail
          clear y0 y1
          refine (has_b _ _ (ofL (M + 1) (bitsN x) (nf s)) _ key _ (HL.out.at_ 1 rfl) HI.out).mono ?_
          rintro e W21 ⟨rfl, hb⟩
          replace HL := Lib.hid ((HL.out.keep hb))
          replace HC := Lib.hid (HC.out.keep hb)
          replace HS := Lib.hid (HS.out.keep hb)
          replace HT := Lib.hid (HT.out.keep hb)
          replace hbw := hbw.trans (hb.mono hbw.size)
          clear hb
          go_wp2_with fail
          refine (maska_calls _ _ (ofL (M + 1) (bitsN x) (nf s)) (HL.out.at_ 1 rfl) (SO.out.mono (by omega)) LO.out).mono ?_
          rw [HM.out]
          rintro e W22 ⟨rfl, hb⟩
          replace HL := Lib.hid ((HL.out.keep hb))
          replace HC := Lib.hid (HC.out.keep hb)
          replace HS := Lib.hid (HS.out.keep hb)
          replace HT := Lib.hid (HT.out.keep hb)
          replace hbw := hbw.trans (hb.mono hbw.size)
          clear hb
          go_wp2_with fail
          refine (area_union _ _ _ (ofL (M + 1) (bitsN x) (nf s)) (ofL (M + 1) (bitsN y) (nf s)) 20 20 (HL.out.at_ 1 rfl) (HL.out.at_ 0 rfl) LO.out LO2.out SO.out SO2.out (by omega) (by omega)).mono ?_
          rintro e W23 ⟨v_u, u, rfl, R_u, l_u, h_u, s_u, hb⟩
          obtain ⟨A_u, c_u, rfl, -⟩ := id R_u
          have L_u : Hid (u.length ≤ 100) := by show _ ≤ _; have := LO.out; have := LO2.out; omega
          have S_u := Lib.hid s_u
          have H_u : Hid (IsU (ofL (M + 1) (bitsN x) (nf s)) (ofL (M + 1) (bitsN y) (nf s)) u) := h_u
          replace HL := Lib.hid ((HL.out.keep hb).cons R_u)
          replace HC := Lib.hid (HC.out.keep hb)
          replace HS := Lib.hid (HS.out.keep hb)
          replace HT := Lib.hid (HT.out.keep hb)
          replace hbw := hbw.trans (hb.mono hbw.size)
          clear R_u l_u h_u s_u hb
          go_wp2_with fail
          refine (of_calls _ _ zo _ s HS.out (by omega) Zo.out.1 HT.out).mono ?_
          rw [hNN]
          rintro e W24 ⟨χ_ou, rfl, O_ou, hb⟩
          have R_ou := O_ou.rd (by rw [ofL_len]; omega)
          have e_ou : ofL (M + 1) (bitsN zo) (nf s) = ofL (M + 1) (bitsN zo) (nf s) := rfl
          replace HL := Lib.hid ((HL.out.keep hb).cons R_ou)
          replace HC := Lib.hid (HC.out.keep hb)
          replace HS := Lib.hid (HS.out.keep hb)
          replace HT := Lib.hid (HT.out.keep hb)
          replace hbw := hbw.trans (hb.mono hbw.size)
          clear R_ou O_ou hb e_ou
          go_wp2_with fail
          refine (same_b _ _ _ u (ofL (M + 1) (bitsN zo) (nf s)) (HL.out.at_ 1 rfl) (HL.out.at_ 0 rfl) L_u.out (ofL_len100 hN16) (S_u.out.mono (by omega)) (ofL_sm (Nat.le_trans hnf.out (by omega)))).mono ?_
          rw [(same_uL hN16 H_u.out Zo.out.2).1, (same_uL hN16 H_u.out Zo.out.2).2, Bool.and_self]
          rintro e W25 ⟨rfl, hb⟩
          replace HL := Lib.hid ((HL.out.keep hb))
          replace HC := Lib.hid (HC.out.keep hb)
          replace HS := Lib.hid (HS.out.keep hb)
          replace HT := Lib.hid (HT.out.keep hb)
          replace hbw := hbw.trans (hb.mono hbw.size)
          clear hb
          go_wp2_with fail
          refine (area_meet _ _ _ (ofL (M + 1) (bitsN x) (nf s)) (ofL (M + 1) (bitsN y) (nf s)) 20 20 (HL.out.at_ 3 rfl) (HL.out.at_ 2 rfl) LO.out LO2.out SO.out SO2.out (by omega) (by omega)).mono ?_
          rintro e W26 ⟨v_m, m, rfl, R_m, l_m, h_m, s_m, hb⟩
          obtain ⟨A_m, c_m, rfl, -⟩ := id R_m
          have L_m : Hid (m.length ≤ 100) := by show _ ≤ _; have := LO.out; have := LO2.out; omega
          have S_m := Lib.hid s_m
          have H_m : Hid (IsM (ofL (M + 1) (bitsN x) (nf s)) (ofL (M + 1) (bitsN y) (nf s)) m) := h_m
          replace HL := Lib.hid ((HL.out.keep hb).cons R_m)
          replace HC := Lib.hid (HC.out.keep hb)
          replace HS := Lib.hid (HS.out.keep hb)
          replace HT := Lib.hid (HT.out.keep hb)
          replace hbw := hbw.trans (hb.mono hbw.size)
          clear R_m l_m h_m s_m hb
          go_wp2_with fail
          refine (of_calls _ _ za _ s HS.out (by omega) Za.out.1 HT.out).mono ?_
          rw [hNN]
          rintro e W27 ⟨χ_om, rfl, O_om, hb⟩
          have R_om := O_om.rd (by rw [ofL_len]; omega)
          have e_om : ofL (M + 1) (bitsN za) (nf s) = ofL (M + 1) (bitsN za) (nf s) := rfl
          replace HL := Lib.hid ((HL.out.keep hb).cons R_om)
          replace HC := Lib.hid (HC.out.keep hb)
          replace HS := Lib.hid (HS.out.keep hb)
          replace HT := Lib.hid (HT.out.keep hb)
          replace hbw := hbw.trans (hb.mono hbw.size)
          clear R_om O_om hb e_om
          go_wp2_with fail
          refine (same_b _ _ _ m (ofL (M + 1) (bitsN za) (nf s)) (HL.out.at_ 1 rfl) (HL.out.at_ 0 rfl) L_m.out (ofL_len100 hN16) (S_m.out.mono (by omega)) (ofL_sm (Nat.le_trans hnf.out (by omega)))).mono ?_
          rw [(same_mL hN16 H_m.out Za.out.2).1, (same_mL hN16 H_m.out Za.out.2).2, Bool.and_self]
          rintro e W28 ⟨rfl, hb⟩
          replace HL := Lib.hid ((HL.out.keep hb))
          replace HC := Lib.hid (HC.out.keep hb)
          replace HS := Lib.hid (HS.out.keep hb)
          replace HT := Lib.hid (HT.out.keep hb)
          replace hbw := hbw.trans (hb.mono hbw.size)
          clear hb
          go_wp2_with fail
          refine (area_minus _ _ _ (ofL (M + 1) (bitsN x) (nf s)) (ofL (M + 1) (bitsN y) (nf s)) 20 20 (HL.out.at_ 5 rfl) (HL.out.at_ 4 rfl) LO.out LO2.out SO.out SO2.out (by omega) (by omega)).mono ?_
          rintro e W29 ⟨v_d, d, rfl, R_d, l_d, h_d, s_d, hb⟩
          obtain ⟨A_d, c_d, rfl, -⟩ := id R_d
          have L_d : Hid (d.length ≤ 100) := by show _ ≤ _; have := LO.out; have := LO2.out; omega
          have S_d := Lib.hid s_d
          have H_d : Hid (IsD (ofL (M + 1) (bitsN x) (nf s)) (ofL (M + 1) (bitsN y) (nf s)) d) := h_d
          replace HL := Lib.hid ((HL.out.keep hb).cons R_d)
          replace HC := Lib.hid (HC.out.keep hb)
          replace HS := Lib.hid (HS.out.keep hb)
          replace HT := Lib.hid (HT.out.keep hb)
          replace hbw := hbw.trans (hb.mono hbw.size)
          clear R_d l_d h_d s_d hb
          go_wp2_with fail
          refine (of_calls _ _ zd _ s HS.out (by omega) Zd.out.1 HT.out).mono ?_
          rw [hNN]
          rintro e W30 ⟨χ_od, rfl, O_od, hb⟩
          have R_od := O_od.rd (by rw [ofL_len]; omega)
          have e_od : ofL (M + 1) (bitsN zd) (nf s) = ofL (M + 1) (bitsN zd) (nf s) := rfl
          replace HL := Lib.hid ((HL.out.keep hb).cons R_od)
          replace HC := Lib.hid (HC.out.keep hb)
          replace HS := Lib.hid (HS.out.keep hb)
          replace HT := Lib.hid (HT.out.keep hb)
          replace hbw := hbw.trans (hb.mono hbw.size)
          clear R_od O_od hb e_od
          go_wp2_with fail
          refine (same_b _ _ _ d (ofL (M + 1) (bitsN zd) (nf s)) (HL.out.at_ 1 rfl) (HL.out.at_ 0 rfl) L_d.out (ofL_len100 hN16) (S_d.out.mono (by omega)) (ofL_sm (Nat.le_trans hnf.out (by omega)))).mono ?_
          rw [(same_dL hN16 H_d.out Zd.out.2).1, (same_dL hN16 H_d.out Zd.out.2).2, Bool.and_self]
          rintro e W31 ⟨rfl, hb⟩
          replace HL := Lib.hid ((HL.out.keep hb))
          replace HC := Lib.hid (HC.out.keep hb)
          replace HS := Lib.hid (HS.out.keep hb)
          replace HT := Lib.hid (HT.out.keep hb)
          replace hbw := hbw.trans (hb.mono hbw.size)
          clear hb
          go_wp2
          go_ret
          exact ⟨rfl, hbw⟩
      | true =>
        rw [qb] at hbt
        obtain ⟨q, hq⟩ : ∃ q, q = memB key s := ⟨_, rfl⟩
        have HI : Hid (inA (ofL (M + 1) (bitsN x) (nf s)) l key = q) := by show _ = _; rw [HIN.out, Int.toNat_natCast, qb, hq]; simp [h1]
        have HQ := Lib.hid hq
        clear HIN qb hq
        obtain ⟨y0, y1⟩ := id HC.out
        simp only [if_true] at hbt
        go_wp2_with fail
        clear y0 y1
        refine (has_calls _ _ _ key HS.out).mono ?_
        rw [← HQ.out]
        rintro e W11 ⟨rfl, hb⟩
        replace HL := Lib.hid ((HL.out.keep hb))
        replace HC := Lib.hid (HC.out.keep hb)
        replace HS := Lib.hid (HS.out.keep hb)
        replace HT := Lib.hid (HT.out.keep hb)
        replace hbw := hbw.trans (hb.mono hbw.size)
        clear hb
        go_wp2_with fail
        refine (make_calls _ _ s HS.out (by omega)).mono ?_
        rintro e W12 ⟨v1, m1, rfl, N1, hset, -, hb⟩
        obtain rfl := hset.eq (nf_spec hwf.out) fun _ => Iff.rfl
        obtain ⟨A1, c1, rfl⟩ := N1.form
        clear N1 hset
        replace HL := Lib.hid ((HL.out.keep hb))
        replace HC := Lib.hid (HC.out.keep hb)
        replace HS := Lib.hid (HS.out.keep hb)
        replace HT := Lib.hid (HT.out.keep hb)
        replace hbw := hbw.trans (hb.mono hbw.size)
        clear hb
        by_cases hne : nf s = []
        · have hl0 : (nf s).length = 0 := by rw [hne]; rfl
          have HM := Lib.hid (mask_ofL0 (x := x) hN16 hwf.out hne)
          clear hne
          obtain ⟨y0, y1⟩ := id HC.out
          go_wp2_with fail
          clear y0 y1
          refine (has_b _ _ (ofL (M + 1) (bitsN x) (nf s)) _ key _ (HL.out.at_ 1 rfl) HI.out).mono ?_
          rintro e W21 ⟨rfl, hb⟩
          replace HL := Lib.hid ((HL.out.keep hb))
          replace HC := Lib.hid (HC.out.keep hb)
          replace HS := Lib.hid (HS.out.keep hb)
          replace HT := Lib.hid (HT.out.keep hb)
          replace hbw := hbw.trans (hb.mono hbw.size)
          clear hb
          go_wp2_with fail
          refine (maska_calls _ _ (ofL (M + 1) (bitsN x) (nf s)) (HL.out.at_ 1 rfl) (SO.out.mono (by omega)) LO.out).mono ?_
          rw [HM.out]
          rintro e W22 ⟨rfl, hb⟩
          replace HL := Lib.hid ((HL.out.keep hb))
          replace HC := Lib.hid (HC.out.keep hb)
          replace HS := Lib.hid (HS.out.keep hb)
          replace HT := Lib.hid (HT.out.keep hb)
          replace hbw := hbw.trans (hb.mono hbw.size)
          clear hb
          go_wp2_with fail
          refine (area_union _ _ _ (ofL (M + 1) (bitsN x) (nf s)) (ofL (M + 1) (bitsN y) (nf s)) 20 20 (HL.out.at_ 1 rfl) (HL.out.at_ 0 rfl) LO.out LO2.out SO.out SO2.out (by omega) (by omega)).mono ?_
          rintro e W23 ⟨v_u, u, rfl, R_u, l_u, h_u, s_u, hb⟩
          obtain ⟨A_u, c_u, rfl, -⟩ := id R_u
          have L_u : Hid (u.length ≤ 100) := by show _ ≤ _; have := LO.out; have := LO2.out; omega
          have S_u := Lib.hid s_u
          have H_u : Hid (IsU (ofL (M + 1) (bitsN x) (nf s)) (ofL (M + 1) (bitsN y) (nf s)) u) := h_u
          replace HL := Lib.hid ((HL.out.keep hb).cons R_u)
          replace HC := Lib.hid (HC.out.keep hb)
          replace HS := Lib.hid (HS.out.keep hb)
          replace HT := Lib.hid (HT.out.keep hb)
          replace hbw := hbw.trans (hb.mono hbw.size)
          clear R_u l_u h_u s_u hb
          go_wp2_with fail
          refine (of_calls _ _ zo _ s HS.out (by omega) Zo.out.1 HT.out).mono ?_
          rw [hNN]
          rintro e W24 ⟨χ_ou, rfl, O_ou, hb⟩
          have R_ou := O_ou.rd (by rw [ofL_len]; omega)
          have e_ou : ofL (M + 1) (bitsN zo) (nf s) = ofL (M + 1) (bitsN zo) (nf s) := rfl
          replace HL := Lib.hid ((HL.out.keep hb).cons R_ou)
          replace HC := Lib.hid (HC.out.keep hb)
          replace HS := Lib.hid (HS.out.keep hb)
          replace HT := Lib.hid (HT.out.keep hb)
          replace hbw := hbw.trans (hb.mono hbw.size)
          clear R_ou O_ou hb e_ou
          go_wp2_with fail
          refine (same_b _ _ _ u (ofL (M + 1) (bitsN zo) (nf s)) (HL.out.at_ 1 rfl) (HL.out.at_ 0 rfl) L_u.out (ofL_len100 hN16) (S_u.out.mono (by omega)) (ofL_sm (Nat.le_trans hnf.out (by omega)))).mono ?_
          rw [(same_uL hN16 H_u.out Zo.out.2).1, (same_uL hN16 H_u.out Zo.out.2).2, Bool.and_self]
          rintro e W25 ⟨rfl, hb⟩
          replace HL := Lib.hid ((HL.out.keep hb))
          replace HC := Lib.hid (HC.out.keep hb)
          replace HS := Lib.hid (HS.out.keep hb)
          replace HT := Lib.hid (HT.out.keep hb)
          replace hbw := hbw.trans (hb.mono hbw.size)
          clear hb
          go_wp2_with fail
          refine (area_meet _ _ _ (ofL (M + 1) (bitsN x) (nf s)) (ofL (M + 1) (bitsN y) (nf s)) 20 20 (HL.out.at_ 3 rfl) (HL.out.at_ 2 rfl) LO.out LO2.out SO.out SO2.out (by omega) (by omega)).mono ?_
          rintro e W26 ⟨v_m, m, rfl, R_m, l_m, h_m, s_m, hb⟩
          obtain ⟨A_m, c_m, rfl, -⟩ := id R_m
          have L_m : Hid (m.length ≤ 100) := by show _ ≤ _; have := LO.out; have := LO2.out; omega
          have S_m := Lib.hid s_m
          have H_m : Hid (IsM (ofL (M + 1) (bitsN x) (nf s)) (ofL (M + 1) (bitsN y) (nf s)) m) := h_m
          replace HL := Lib.hid ((HL.out.keep hb).cons R_m)
          replace HC := Lib.hid (HC.out.keep hb)
          replace HS := Lib.hid (HS.out.keep hb)
          replace HT := Lib.hid (HT.out.keep hb)
          replace hbw := hbw.trans (hb.mono hbw.size)
          clear R_m l_m h_m s_m hb
          go_wp2_with fail
          refine (of_calls _ _ za _ s HS.out (by omega) Za.out.1 HT.out).mono ?_
          rw [hNN]
          rintro e W27 ⟨χ_om, rfl, O_om, hb⟩
          have R_om := O_om.rd (by rw [ofL_len]; omega)
          have e_om : ofL (M + 1) (bitsN za) (nf s) = ofL (M + 1) (bitsN za) (nf s) := rfl
          replace HL := Lib.hid ((HL.out.keep hb).cons R_om)
          replace HC := Lib.hid (HC.out.keep hb)
          replace HS := Lib.hid (HS.out.keep hb)
          replace HT := Lib.hid (HT.out.keep hb)
          replace hbw := hbw.trans (hb.mono hbw.size)
          clear R_om O_om hb e_om
          go_wp2_with fail
          refine (same_b _ _ _ m (ofL (M + 1) (bitsN za) (nf s)) (HL.out.at_ 1 rfl) (HL.out.at_ 0 rfl) L_m.out (ofL_len100 hN16) (S_m.out.mono (by omega)) (ofL_sm (Nat.le_trans hnf.out (by omega)))).mono ?_
          rw [(same_mL hN16 H_m.out Za.out.2).1, (same_mL hN16 H_m.out Za.out.2).2, Bool.and_self]
          rintro e W28 ⟨rfl, hb⟩
          replace HL := Lib.hid ((HL.out.keep hb))
          replace HC := Lib.hid (HC.out.keep hb)
          replace HS := Lib.hid (HS.out.keep hb)
          replace HT := Lib.hid (HT.out.keep hb)
          replace hbw := hbw.trans (hb.mono hbw.size)
          clear hb
          go_wp2_with fail
          refine (area_minus _ _ _ (ofL (M + 1) (bitsN x) (nf s)) (ofL (M + 1) (bitsN y) (nf s)) 20 20 (HL.out.at_ 5 rfl) (HL.out.at_ 4 rfl) LO.out LO2.out SO.out SO2.out (by omega) (by omega)).mono ?_
          rintro e W29 ⟨v_d, d, rfl, R_d, l_d, h_d, s_d, hb⟩
          obtain ⟨A_d, c_d, rfl, -⟩ := id R_d
          have L_d : Hid (d.length ≤ 100) := by show _ ≤ _; have := LO.out; have := LO2.out; omega
          have S_d := Lib.hid s_d
          have H_d : Hid (IsD (ofL (M + 1) (bitsN x) (nf s)) (ofL (M + 1) (bitsN y) (nf s)) d) := h_d
          replace HL := Lib.hid ((HL.out.keep hb).cons R_d)
          replace HC := Lib.hid (HC.out.keep hb)
          replace HS := Lib.hid (HS.out.keep hb)
          replace HT := Lib.hid (HT.out.keep hb)
          replace hbw := hbw.trans (hb.mono hbw.size)
          clear R_d l_d h_d s_d hb
          go_wp2_with fail
          refine (of_calls _ _ zd _ s HS.out (by omega) Zd.out.1 HT.out).mono ?_
          rw [hNN]
          rintro e W30 ⟨χ_od, rfl, O_od, hb⟩
          have R_od := O_od.rd (by rw [ofL_len]; omega)
          have e_od : ofL (M + 1) (bitsN zd) (nf s) = ofL (M + 1) (bitsN zd) (nf s) := rfl
          replace HL := Lib.hid ((HL.out.keep hb).cons R_od)
          replace HC := Lib.hid (HC.out.keep hb)
          replace HS := Lib.hid (HS.out.keep hb)
          replace HT := Lib.hid (HT.out.keep hb)
          replace hbw := hbw.trans (hb.mono hbw.size)
          clear R_od O_od hb e_od
          go_wp2_with fail
          refine (same_b _ _ _ d (ofL (M + 1) (bitsN zd) (nf s)) (HL.out.at_ 1 rfl) (HL.out.at_ 0 rfl) L_d.out (ofL_len100 hN16) (S_d.out.mono (by omega)) (ofL_sm (Nat.le_trans hnf.out (by omega)))).mono ?_
          rw [(same_dL hN16 H_d.out Zd.out.2).1, (same_dL hN16 H_d.out Zd.out.2).2, Bool.and_self]
          rintro e W31 ⟨rfl, hb⟩
          replace HL := Lib.hid ((HL.out.keep hb))
          replace HC := Lib.hid (HC.out.keep hb)
          replace HS := Lib.hid (HS.out.keep hb)
          replace HT := Lib.hid (HT.out.keep hb)
          replace hbw := hbw.trans (hb.mono hbw.size)
          clear hb
          go_wp2
          go_ret
          exact ⟨rfl, hbw⟩
        · have hl0 : 0 < (nf s).length := List.length_pos_iff.2 hne
          have HM := Lib.hid (mask_ofL (x := x) hN16 hwf.out hne)
          clear hne
          have hP := low_and (x := x) (M := M) hx hM2
          obtain ⟨P, hPe⟩ : ∃ P, P = x &&& (2 ^ (M + 1) - 1) := ⟨_, rfl⟩
          have HM := Lib.hid (HM.out.trans hPe.symm)
          rw [← hPe] at hP
          clear hPe
          obtain ⟨y0, y1⟩ := id HC.out
          go_wp2_with fail
          clear y0 y1
          refine (has_b _ _ (ofL (M + 1) (bitsN x) (nf s)) _ key _ (HL.out.at_ 1 rfl) HI.out).mono ?_
          rintro e W21 ⟨rfl, hb⟩
          replace HL := Lib.hid ((HL.out.keep hb))
          replace HC := Lib.hid (HC.out.keep hb)
          replace HS := Lib.hid (HS.out.keep hb)
          replace HT := Lib.hid (HT.out.keep hb)
          replace hbw := hbw.trans (hb.mono hbw.size)
          clear hb
          go_wp2_with fail
          refine (maska_calls _ _ (ofL (M + 1) (bitsN x) (nf s)) (HL.out.at_ 1 rfl) (SO.out.mono (by omega)) LO.out).mono ?_
          rw [HM.out]
          rintro e W22 ⟨rfl, hb⟩
          replace HL := Lib.hid ((HL.out.keep hb))
          replace HC := Lib.hid (HC.out.keep hb)
          replace HS := Lib.hid (HS.out.keep hb)
          replace HT := Lib.hid (HT.out.keep hb)
          replace hbw := hbw.trans (hb.mono hbw.size)
          clear hb
          go_wp2_with fail
          refine (area_union _ _ _ (ofL (M + 1) (bitsN x) (nf s)) (ofL (M + 1) (bitsN y) (nf s)) 20 20 (HL.out.at_ 1 rfl) (HL.out.at_ 0 rfl) LO.out LO2.out SO.out SO2.out (by omega) (by omega)).mono ?_
          rintro e W23 ⟨v_u, u, rfl, R_u, l_u, h_u, s_u, hb⟩
          obtain ⟨A_u, c_u, rfl, -⟩ := id R_u
          have L_u : Hid (u.length ≤ 100) := by show _ ≤ _; have := LO.out; have := LO2.out; omega
          have S_u := Lib.hid s_u
          have H_u : Hid (IsU (ofL (M + 1) (bitsN x) (nf s)) (ofL (M + 1) (bitsN y) (nf s)) u) := h_u
          replace HL := Lib.hid ((HL.out.keep hb).cons R_u)
          replace HC := Lib.hid (HC.out.keep hb)
          replace HS := Lib.hid (HS.out.keep hb)
          replace HT := Lib.hid (HT.out.keep hb)
          replace hbw := hbw.trans (hb.mono hbw.size)
          clear R_u l_u h_u s_u hb
          go_wp2_with fail
          refine (of_calls _ _ zo _ s HS.out (by omega) Zo.out.1 HT.out).mono ?_
          rw [hNN]
          rintro e W24 ⟨χ_ou, rfl, O_ou, hb⟩
          have R_ou := O_ou.rd (by rw [ofL_len]; omega)
          have e_ou : ofL (M + 1) (bitsN zo) (nf s) = ofL (M + 1) (bitsN zo) (nf s) := rfl
          replace HL := Lib.hid ((HL.out.keep hb).cons R_ou)
          replace HC := Lib.hid (HC.out.keep hb)
          replace HS := Lib.hid (HS.out.keep hb)
          replace HT := Lib.hid (HT.out.keep hb)
          replace hbw := hbw.trans (hb.mono hbw.size)
          clear R_ou O_ou hb e_ou
          go_wp2_with fail
          refine (same_b _ _ _ u (ofL (M + 1) (bitsN zo) (nf s)) (HL.out.at_ 1 rfl) (HL.out.at_ 0 rfl) L_u.out (ofL_len100 hN16) (S_u.out.mono (by omega)) (ofL_sm (Nat.le_trans hnf.out (by omega)))).mono ?_
          rw [(same_uL hN16 H_u.out Zo.out.2).1, (same_uL hN16 H_u.out Zo.out.2).2, Bool.and_self]
          rintro e W25 ⟨rfl, hb⟩
          replace HL := Lib.hid ((HL.out.keep hb))
          replace HC := Lib.hid (HC.out.keep hb)
          replace HS := Lib.hid (HS.out.keep hb)
          replace HT := Lib.hid (HT.out.keep hb)
          replace hbw := hbw.trans (hb.mono hbw.size)
          clear hb
          go_wp2_with fail
          refine (area_meet _ _ _ (ofL (M + 1) (bitsN x) (nf s)) (ofL (M + 1) (bitsN y) (nf s)) 20 20 (HL.out.at_ 3 rfl) (HL.out.at_ 2 rfl) LO.out LO2.out SO.out SO2.out (by omega) (by omega)).mono ?_
          rintro e W26 ⟨v_m, m, rfl, R_m, l_m, h_m, s_m, hb⟩
          obtain ⟨A_m, c_m, rfl, -⟩ := id R_m
          have L_m : Hid (m.length ≤ 100) := by show _ ≤ _; have := LO.out; have := LO2.out; omega
          have S_m := Lib.hid s_m
          have H_m : Hid (IsM (ofL (M + 1) (bitsN x) (nf s)) (ofL (M + 1) (bitsN y) (nf s)) m) := h_m
          replace HL := Lib.hid ((HL.out.keep hb).cons R_m)
          replace HC := Lib.hid (HC.out.keep hb)
          replace HS := Lib.hid (HS.out.keep hb)
          replace HT := Lib.hid (HT.out.keep hb)
          replace hbw := hbw.trans (hb.mono hbw.size)
          clear R_m l_m h_m s_m hb
          go_wp2_with fail
          refine (of_calls _ _ za _ s HS.out (by omega) Za.out.1 HT.out).mono ?_
          rw [hNN]
          rintro e W27 ⟨χ_om, rfl, O_om, hb⟩
          have R_om := O_om.rd (by rw [ofL_len]; omega)
          have e_om : ofL (M + 1) (bitsN za) (nf s) = ofL (M + 1) (bitsN za) (nf s) := rfl
          replace HL := Lib.hid ((HL.out.keep hb).cons R_om)
          replace HC := Lib.hid (HC.out.keep hb)
          replace HS := Lib.hid (HS.out.keep hb)
          replace HT := Lib.hid (HT.out.keep hb)
          replace hbw := hbw.trans (hb.mono hbw.size)
          clear R_om O_om hb e_om
          go_wp2_with fail
          refine (same_b _ _ _ m (ofL (M + 1) (bitsN za) (nf s)) (HL.out.at_ 1 rfl) (HL.out.at_ 0 rfl) L_m.out (ofL_len100 hN16) (S_m.out.mono (by omega)) (ofL_sm (Nat.le_trans hnf.out (by omega)))).mono ?_
          rw [(same_mL hN16 H_m.out Za.out.2).1, (same_mL hN16 H_m.out Za.out.2).2, Bool.and_self]
          rintro e W28 ⟨rfl, hb⟩
          replace HL := Lib.hid ((HL.out.keep hb))
          replace HC := Lib.hid (HC.out.keep hb)
          replace HS := Lib.hid (HS.out.keep hb)
          replace HT := Lib.hid (HT.out.keep hb)
          replace hbw := hbw.trans (hb.mono hbw.size)
          clear hb
          go_wp2_with fail
          refine (area_minus _ _ _ (ofL (M + 1) (bitsN x) (nf s)) (ofL (M + 1) (bitsN y) (nf s)) 20 20 (HL.out.at_ 5 rfl) (HL.out.at_ 4 rfl) LO.out LO2.out SO.out SO2.out (by omega) (by omega)).mono ?_
          rintro e W29 ⟨v_d, d, rfl, R_d, l_d, h_d, s_d, hb⟩
          obtain ⟨A_d, c_d, rfl, -⟩ := id R_d
          have L_d : Hid (d.length ≤ 100) := by show _ ≤ _; have := LO.out; have := LO2.out; omega
          have S_d := Lib.hid s_d
          have H_d : Hid (IsD (ofL (M + 1) (bitsN x) (nf s)) (ofL (M + 1) (bitsN y) (nf s)) d) := h_d
          replace HL := Lib.hid ((HL.out.keep hb).cons R_d)
          replace HC := Lib.hid (HC.out.keep hb)
          replace HS := Lib.hid (HS.out.keep hb)
          replace HT := Lib.hid (HT.out.keep hb)
          replace hbw := hbw.trans (hb.mono hbw.size)
          clear R_d l_d h_d s_d hb
          go_wp2_with fail
          refine (of_calls _ _ zd _ s HS.out (by omega) Zd.out.1 HT.out).mono ?_
          rw [hNN]
          rintro e W30 ⟨χ_od, rfl, O_od, hb⟩
          have R_od := O_od.rd (by rw [ofL_len]; omega)
          have e_od : ofL (M + 1) (bitsN zd) (nf s) = ofL (M + 1) (bitsN zd) (nf s) := rfl
          replace HL := Lib.hid ((HL.out.keep hb).cons R_od)
          replace HC := Lib.hid (HC.out.keep hb)
          replace HS := Lib.hid (HS.out.keep hb)
          replace HT := Lib.hid (HT.out.keep hb)
          replace hbw := hbw.trans (hb.mono hbw.size)
          clear R_od O_od hb e_od
          go_wp2_with fail
          refine (same_b _ _ _ d (ofL (M + 1) (bitsN zd) (nf s)) (HL.out.at_ 1 rfl) (HL.out.at_ 0 rfl) L_d.out (ofL_len100 hN16) (S_d.out.mono (by omega)) (ofL_sm (Nat.le_trans hnf.out (by omega)))).mono ?_
          rw [(same_dL hN16 H_d.out Zd.out.2).1, (same_dL hN16 H_d.out Zd.out.2).2, Bool.and_self]
          rintro e W31 ⟨rfl, hb⟩
          replace HL := Lib.hid ((HL.out.keep hb))
          replace HC := Lib.hid (HC.out.keep hb)
          replace HS := Lib.hid (HS.out.keep hb)
          replace HT := Lib.hid (HT.out.keep hb)
          replace hbw := hbw.trans (hb.mono hbw.size)
          clear hb
          go_wp2
          go_ret
          exact ⟨rfl, hbw⟩
    · have HI : Hid (inA (ofL (M + 1) (bitsN x) (nf s)) lab key = false) := by show _ = _; rw [HIN.out]; simp; intro _ h; omega
      clear HIN
      obtain ⟨y0, y1⟩ := id HC.out
      go_wp2_with fail
      clear y0 y1
      refine (make_calls _ _ s HS.out (by omega)).mono ?_
      rintro e W12 ⟨v1, m1, rfl, N1, hset, -, hb⟩
      obtain rfl := hset.eq (nf_spec hwf.out) fun _ => Iff.rfl
      obtain ⟨A1, c1, rfl⟩ := N1.form
      clear N1 hset
      replace HL := Lib.hid ((HL.out.keep hb))
      replace HC := Lib.hid (HC.out.keep hb)
      replace HS := Lib.hid (HS.out.keep hb)
      replace HT := Lib.hid (HT.out.keep hb)
      replace hbw := hbw.trans (hb.mono hbw.size)
      clear hb
      by_cases hne : nf s = []
      · have hl0 : (nf s).length = 0 := by rw [hne]; rfl
        have HM := Lib.hid (mask_ofL0 (x := x) hN16 hwf.out hne)
        clear hne
        obtain ⟨y0, y1⟩ := id HC.out
        go_wp2_with fail
        clear y0 y1
        refine (has_b _ _ (ofL (M + 1) (bitsN x) (nf s)) _ key _ (HL.out.at_ 1 rfl) HI.out).mono ?_
        rintro e W21 ⟨rfl, hb⟩
        replace HL := Lib.hid ((HL.out.keep hb))
        replace HC := Lib.hid (HC.out.keep hb)
        replace HS := Lib.hid (HS.out.keep hb)
        replace HT := Lib.hid (HT.out.keep hb)
        replace hbw := hbw.trans (hb.mono hbw.size)
        clear hb
        go_wp2_with fail
        refine (maska_calls _ _ (ofL (M + 1) (bitsN x) (nf s)) (HL.out.at_ 1 rfl) (SO.out.mono (by omega)) LO.out).mono ?_
        rw [HM.out]
        rintro e W22 ⟨rfl, hb⟩
        replace HL := Lib.hid ((HL.out.keep hb))
        replace HC := Lib.hid (HC.out.keep hb)
        replace HS := Lib.hid (HS.out.keep hb)
        replace HT := Lib.hid (HT.out.keep hb)
        replace hbw := hbw.trans (hb.mono hbw.size)
        clear hb
        go_wp2_with fail
        refine (area_union _ _ _ (ofL (M + 1) (bitsN x) (nf s)) (ofL (M + 1) (bitsN y) (nf s)) 20 20 (HL.out.at_ 1 rfl) (HL.out.at_ 0 rfl) LO.out LO2.out SO.out SO2.out (by omega) (by omega)).mono ?_
        rintro e W23 ⟨v_u, u, rfl, R_u, l_u, h_u, s_u, hb⟩
        obtain ⟨A_u, c_u, rfl, -⟩ := id R_u
        have L_u : Hid (u.length ≤ 100) := by show _ ≤ _; have := LO.out; have := LO2.out; omega
        have S_u := Lib.hid s_u
        have H_u : Hid (IsU (ofL (M + 1) (bitsN x) (nf s)) (ofL (M + 1) (bitsN y) (nf s)) u) := h_u
        replace HL := Lib.hid ((HL.out.keep hb).cons R_u)
        replace HC := Lib.hid (HC.out.keep hb)
        replace HS := Lib.hid (HS.out.keep hb)
        replace HT := Lib.hid (HT.out.keep hb)
        replace hbw := hbw.trans (hb.mono hbw.size)
        clear R_u l_u h_u s_u hb
        go_wp2_with fail
        refine (of_calls _ _ zo _ s HS.out (by omega) Zo.out.1 HT.out).mono ?_
        rw [hNN]
        rintro e W24 ⟨χ_ou, rfl, O_ou, hb⟩
        have R_ou := O_ou.rd (by rw [ofL_len]; omega)
        have e_ou : ofL (M + 1) (bitsN zo) (nf s) = ofL (M + 1) (bitsN zo) (nf s) := rfl
        replace HL := Lib.hid ((HL.out.keep hb).cons R_ou)
        replace HC := Lib.hid (HC.out.keep hb)
        replace HS := Lib.hid (HS.out.keep hb)
        replace HT := Lib.hid (HT.out.keep hb)
        replace hbw := hbw.trans (hb.mono hbw.size)
        clear R_ou O_ou hb e_ou
        go_wp2_with fail
        refine (same_b _ _ _ u (ofL (M + 1) (bitsN zo) (nf s)) (HL.out.at_ 1 rfl) (HL.out.at_ 0 rfl) L_u.out (ofL_len100 hN16) (S_u.out.mono (by omega)) (ofL_sm (Nat.le_trans hnf.out (by omega)))).mono ?_
        rw [(same_uL hN16 H_u.out Zo.out.2).1, (same_uL hN16 H_u.out Zo.out.2).2, Bool.and_self]
        rintro e W25 ⟨rfl, hb⟩
        replace HL := Lib.hid ((HL.out.keep hb))
        replace HC := Lib.hid (HC.out.keep hb)
        replace HS := Lib.hid (HS.out.keep hb)
        replace HT := Lib.hid (HT.out.keep hb)
        replace hbw := hbw.trans (hb.mono hbw.size)
        clear hb
        go_wp2_with fail
        refine (area_meet _ _ _ (ofL (M + 1) (bitsN x) (nf s)) (ofL (M + 1) (bitsN y) (nf s)) 20 20 (HL.out.at_ 3 rfl) (HL.out.at_ 2 rfl) LO.out LO2.out SO.out SO2.out (by omega) (by omega)).mono ?_
        rintro e W26 ⟨v_m, m, rfl, R_m, l_m, h_m, s_m, hb⟩
        obtain ⟨A_m, c_m, rfl, -⟩ := id R_m
        have L_m : Hid (m.length ≤ 100) := by show _ ≤ _; have := LO.out; have := LO2.out; omega
        have S_m := Lib.hid s_m
        have H_m : Hid (IsM (ofL (M + 1) (bitsN x) (nf s)) (ofL (M + 1) (bitsN y) (nf s)) m) := h_m
        replace HL := Lib.hid ((HL.out.keep hb).cons R_m)
        replace HC := Lib.hid (HC.out.keep hb)
        replace HS := Lib.hid (HS.out.keep hb)
        replace HT := Lib.hid (HT.out.keep hb)
        replace hbw := hbw.trans (hb.mono hbw.size)
        clear R_m l_m h_m s_m hb
        go_wp2_with fail
        refine (of_calls _ _ za _ s HS.out (by omega) Za.out.1 HT.out).mono ?_
        rw [hNN]
        rintro e W27 ⟨χ_om, rfl, O_om, hb⟩
        have R_om := O_om.rd (by rw [ofL_len]; omega)
        have e_om : ofL (M + 1) (bitsN za) (nf s) = ofL (M + 1) (bitsN za) (nf s) := rfl
        replace HL := Lib.hid ((HL.out.keep hb).cons R_om)
        replace HC := Lib.hid (HC.out.keep hb)
        replace HS := Lib.hid (HS.out.keep hb)
        replace HT := Lib.hid (HT.out.keep hb)
        replace hbw := hbw.trans (hb.mono hbw.size)
        clear R_om O_om hb e_om
        go_wp2_with fail
        refine (same_b _ _ _ m (ofL (M + 1) (bitsN za) (nf s)) (HL.out.at_ 1 rfl) (HL.out.at_ 0 rfl) L_m.out (ofL_len100 hN16) (S_m.out.mono (by omega)) (ofL_sm (Nat.le_trans hnf.out (by omega)))).mono ?_
        rw [(same_mL hN16 H_m.out Za.out.2).1, (same_mL hN16 H_m.out Za.out.2).2, Bool.and_self]
        rintro e W28 ⟨rfl, hb⟩
        replace HL := Lib.hid ((HL.out.keep hb))
        replace HC := Lib.hid (HC.out.keep hb)
        replace HS := Lib.hid (HS.out.keep hb)
        replace HT := Lib.hid (HT.out.keep hb)
        replace hbw := hbw.trans (hb.mono hbw.size)
        clear hb
        go_wp2_with fail
        refine (area_minus _ _ _ (ofL (M + 1) (bitsN x) (nf s)) (ofL (M + 1) (bitsN y) (nf s)) 20 20 (HL.out.at_ 5 rfl) (HL.out.at_ 4 rfl) LO.out LO2.out SO.out SO2.out (by omega) (by omega)).mono ?_
        rintro e W29 ⟨v_d, d, rfl, R_d, l_d, h_d, s_d, hb⟩
        obtain ⟨A_d, c_d, rfl, -⟩ := id R_d
        have L_d : Hid (d.length ≤ 100) := by show _ ≤ _; have := LO.out; have := LO2.out; omega
        have S_d := Lib.hid s_d
        have H_d : Hid (IsD (ofL (M + 1) (bitsN x) (nf s)) (ofL (M + 1) (bitsN y) (nf s)) d) := h_d
        replace HL := Lib.hid ((HL.out.keep hb).cons R_d)
        replace HC := Lib.hid (HC.out.keep hb)
        replace HS := Lib.hid (HS.out.keep hb)
        replace HT := Lib.hid (HT.out.keep hb)
        replace hbw := hbw.trans (hb.mono hbw.size)
        clear R_d l_d h_d s_d hb
        go_wp2_with fail
        refine (of_calls _ _ zd _ s HS.out (by omega) Zd.out.1 HT.out).mono ?_
        rw [hNN]
        rintro e W30 ⟨χ_od, rfl, O_od, hb⟩
        have R_od := O_od.rd (by rw [ofL_len]; omega)
        have e_od : ofL (M + 1) (bitsN zd) (nf s) = ofL (M + 1) (bitsN zd) (nf s) := rfl
        replace HL := Lib.hid ((HL.out.keep hb).cons R_od)
        replace HC := Lib.hid (HC.out.keep hb)
        replace HS := Lib.hid (HS.out.keep hb)
        replace HT := Lib.hid (HT.out.keep hb)
        replace hbw := hbw.trans (hb.mono hbw.size)
        clear R_od O_od hb e_od
        go_wp2_with fail
        refine (same_b _ _ _ d (ofL (M + 1) (bitsN zd) (nf s)) (HL.out.at_ 1 rfl) (HL.out.at_ 0 rfl) L_d.out (ofL_len100 hN16) (S_d.out.mono (by omega)) (ofL_sm (Nat.le_trans hnf.out (by omega)))).mono ?_
        rw [(same_dL hN16 H_d.out Zd.out.2).1, (same_dL hN16 H_d.out Zd.out.2).2, Bool.and_self]
        rintro e W31 ⟨rfl, hb⟩
        replace HL := Lib.hid ((HL.out.keep hb))
        replace HC := Lib.hid (HC.out.keep hb)
        replace HS := Lib.hid (HS.out.keep hb)
        replace HT := Lib.hid (HT.out.keep hb)
        replace hbw := hbw.trans (hb.mono hbw.size)
        clear hb
        go_wp2
        go_ret
        exact ⟨rfl, hbw⟩
      · have hl0 : 0 < (nf s).length := List.length_pos_iff.2 hne
        have HM := Lib.hid (mask_ofL (x := x) hN16 hwf.out hne)
        clear hne
        have hP := low_and (x := x) (M := M) hx hM2
        obtain ⟨P, hPe⟩ : ∃ P, P = x &&& (2 ^ (M + 1) - 1) := ⟨_, rfl⟩
        have HM := Lib.hid (HM.out.trans hPe.symm)
        rw [← hPe] at hP
        clear hPe
        obtain ⟨y0, y1⟩ := id HC.out
        go_wp2_with fail
        clear y0 y1
        refine (has_b _ _ (ofL (M + 1) (bitsN x) (nf s)) _ key _ (HL.out.at_ 1 rfl) HI.out).mono ?_
        rintro e W21 ⟨rfl, hb⟩
        replace HL := Lib.hid ((HL.out.keep hb))
        replace HC := Lib.hid (HC.out.keep hb)
        replace HS := Lib.hid (HS.out.keep hb)
        replace HT := Lib.hid (HT.out.keep hb)
        replace hbw := hbw.trans (hb.mono hbw.size)
        clear hb
        go_wp2_with fail
        refine (maska_calls _ _ (ofL (M + 1) (bitsN x) (nf s)) (HL.out.at_ 1 rfl) (SO.out.mono (by omega)) LO.out).mono ?_
        rw [HM.out]
        rintro e W22 ⟨rfl, hb⟩
        replace HL := Lib.hid ((HL.out.keep hb))
        replace HC := Lib.hid (HC.out.keep hb)
        replace HS := Lib.hid (HS.out.keep hb)
        replace HT := Lib.hid (HT.out.keep hb)
        replace hbw := hbw.trans (hb.mono hbw.size)
        clear hb
        go_wp2_with fail
        refine (area_union _ _ _ (ofL (M + 1) (bitsN x) (nf s)) (ofL (M + 1) (bitsN y) (nf s)) 20 20 (HL.out.at_ 1 rfl) (HL.out.at_ 0 rfl) LO.out LO2.out SO.out SO2.out (by omega) (by omega)).mono ?_
        rintro e W23 ⟨v_u, u, rfl, R_u, l_u, h_u, s_u, hb⟩
        obtain ⟨A_u, c_u, rfl, -⟩ := id R_u
        have L_u : Hid (u.length ≤ 100) := by show _ ≤ _; have := LO.out; have := LO2.out; omega
        have S_u := Lib.hid s_u
        have H_u : Hid (IsU (ofL (M + 1) (bitsN x) (nf s)) (ofL (M + 1) (bitsN y) (nf s)) u) := h_u
        replace HL := Lib.hid ((HL.out.keep hb).cons R_u)
        replace HC := Lib.hid (HC.out.keep hb)
        replace HS := Lib.hid (HS.out.keep hb)
        replace HT := Lib.hid (HT.out.keep hb)
        replace hbw := hbw.trans (hb.mono hbw.size)
        clear R_u l_u h_u s_u hb
        go_wp2_with fail
        refine (of_calls _ _ zo _ s HS.out (by omega) Zo.out.1 HT.out).mono ?_
        rw [hNN]
        rintro e W24 ⟨χ_ou, rfl, O_ou, hb⟩
        have R_ou := O_ou.rd (by rw [ofL_len]; omega)
        have e_ou : ofL (M + 1) (bitsN zo) (nf s) = ofL (M + 1) (bitsN zo) (nf s) := rfl
        replace HL := Lib.hid ((HL.out.keep hb).cons R_ou)
        replace HC := Lib.hid (HC.out.keep hb)
        replace HS := Lib.hid (HS.out.keep hb)
        replace HT := Lib.hid (HT.out.keep hb)
        replace hbw := hbw.trans (hb.mono hbw.size)
        clear R_ou O_ou hb e_ou
        go_wp2_with fail
        refine (same_b _ _ _ u (ofL (M + 1) (bitsN zo) (nf s)) (HL.out.at_ 1 rfl) (HL.out.at_ 0 rfl) L_u.out (ofL_len100 hN16) (S_u.out.mono (by omega)) (ofL_sm (Nat.le_trans hnf.out (by omega)))).mono ?_
        rw [(same_uL hN16 H_u.out Zo.out.2).1, (same_uL hN16 H_u.out Zo.out.2).2, Bool.and_self]
        rintro e W25 ⟨rfl, hb⟩
        replace HL := Lib.hid ((HL.out.keep hb))
        replace HC := Lib.hid (HC.out.keep hb)
        replace HS := Lib.hid (HS.out.keep hb)
        replace HT := Lib.hid (HT.out.keep hb)
        replace hbw := hbw.trans (hb.mono hbw.size)
        clear hb
        go_wp2_with fail
        refine (area_meet _ _ _ (ofL (M + 1) (bitsN x) (nf s)) (ofL (M + 1) (bitsN y) (nf s)) 20 20 (HL.out.at_ 3 rfl) (HL.out.at_ 2 rfl) LO.out LO2.out SO.out SO2.out (by omega) (by omega)).mono ?_
        rintro e W26 ⟨v_m, m, rfl, R_m, l_m, h_m, s_m, hb⟩
        obtain ⟨A_m, c_m, rfl, -⟩ := id R_m
        have L_m : Hid (m.length ≤ 100) := by show _ ≤ _; have := LO.out; have := LO2.out; omega
        have S_m := Lib.hid s_m
        have H_m : Hid (IsM (ofL (M + 1) (bitsN x) (nf s)) (ofL (M + 1) (bitsN y) (nf s)) m) := h_m
        replace HL := Lib.hid ((HL.out.keep hb).cons R_m)
        replace HC := Lib.hid (HC.out.keep hb)
        replace HS := Lib.hid (HS.out.keep hb)
        replace HT := Lib.hid (HT.out.keep hb)
        replace hbw := hbw.trans (hb.mono hbw.size)
        clear R_m l_m h_m s_m hb
        go_wp2_with fail
        refine (of_calls _ _ za _ s HS.out (by omega) Za.out.1 HT.out).mono ?_
        rw [hNN]
        rintro e W27 ⟨χ_om, rfl, O_om, hb⟩
        have R_om := O_om.rd (by rw [ofL_len]; omega)
        have e_om : ofL (M + 1) (bitsN za) (nf s) = ofL (M + 1) (bitsN za) (nf s) := rfl
        replace HL := Lib.hid ((HL.out.keep hb).cons R_om)
        replace HC := Lib.hid (HC.out.keep hb)
        replace HS := Lib.hid (HS.out.keep hb)
        replace HT := Lib.hid (HT.out.keep hb)
        replace hbw := hbw.trans (hb.mono hbw.size)
        clear R_om O_om hb e_om
        go_wp2_with fail
        refine (same_b _ _ _ m (ofL (M + 1) (bitsN za) (nf s)) (HL.out.at_ 1 rfl) (HL.out.at_ 0 rfl) L_m.out (ofL_len100 hN16) (S_m.out.mono (by omega)) (ofL_sm (Nat.le_trans hnf.out (by omega)))).mono ?_
        rw [(same_mL hN16 H_m.out Za.out.2).1, (same_mL hN16 H_m.out Za.out.2).2, Bool.and_self]
        rintro e W28 ⟨rfl, hb⟩
        replace HL := Lib.hid ((HL.out.keep hb))
        replace HC := Lib.hid (HC.out.keep hb)
        replace HS := Lib.hid (HS.out.keep hb)
        replace HT := Lib.hid (HT.out.keep hb)
        replace hbw := hbw.trans (hb.mono hbw.size)
        clear hb
        go_wp2_with fail
        refine (area_minus _ _ _ (ofL (M + 1) (bitsN x) (nf s)) (ofL (M + 1) (bitsN y) (nf s)) 20 20 (HL.out.at_ 5 rfl) (HL.out.at_ 4 rfl) LO.out LO2.out SO.out SO2.out (by omega) (by omega)).mono ?_
        rintro e W29 ⟨v_d, d, rfl, R_d, l_d, h_d, s_d, hb⟩
        obtain ⟨A_d, c_d, rfl, -⟩ := id R_d
        have L_d : Hid (d.length ≤ 100) := by show _ ≤ _; have := LO.out; have := LO2.out; omega
        have S_d := Lib.hid s_d
        have H_d : Hid (IsD (ofL (M + 1) (bitsN x) (nf s)) (ofL (M + 1) (bitsN y) (nf s)) d) := h_d
        replace HL := Lib.hid ((HL.out.keep hb).cons R_d)
        replace HC := Lib.hid (HC.out.keep hb)
        replace HS := Lib.hid (HS.out.keep hb)
        replace HT := Lib.hid (HT.out.keep hb)
        replace hbw := hbw.trans (hb.mono hbw.size)
        clear R_d l_d h_d s_d hb
        go_wp2_with fail
        refine (of_calls _ _ zd _ s HS.out (by omega) Zd.out.1 HT.out).mono ?_
        rw [hNN]
        rintro e W30 ⟨χ_od, rfl, O_od, hb⟩
        have R_od := O_od.rd (by rw [ofL_len]; omega)
        have e_od : ofL (M + 1) (bitsN zd) (nf s) = ofL (M + 1) (bitsN zd) (nf s) := rfl
        replace HL := Lib.hid ((HL.out.keep hb).cons R_od)
        replace HC := Lib.hid (HC.out.keep hb)
        replace HS := Lib.hid (HS.out.keep hb)
        replace HT := Lib.hid (HT.out.keep hb)
        replace hbw := hbw.trans (hb.mono hbw.size)
        clear R_od O_od hb e_od
        go_wp2_with fail
        refine (same_b _ _ _ d (ofL (M + 1) (bitsN zd) (nf s)) (HL.out.at_ 1 rfl) (HL.out.at_ 0 rfl) L_d.out (ofL_len100 hN16) (S_d.out.mono (by omega)) (ofL_sm (Nat.le_trans hnf.out (by omega)))).mono ?_
        rw [(same_dL hN16 H_d.out Zd.out.2).1, (same_dL hN16 H_d.out Zd.out.2).2, Bool.and_self]
        rintro e W31 ⟨rfl, hb⟩
        replace HL := Lib.hid ((HL.out.keep hb))
        replace HC := Lib.hid (HC.out.keep hb)
        replace HS := Lib.hid (HS.out.keep hb)
        replace HT := Lib.hid (HT.out.keep hb)
        replace hbw := hbw.trans (hb.mono hbw.size)
        clear hb
        go_wp2
        go_ret
        exact ⟨rfl, hbw⟩
  · have HI : Hid (inA (ofL (M + 1) (bitsN x) (nf s)) lab key = false) := by show _ = _; rw [HIN.out]; simp [h0]
    clear HIN
    obtain ⟨y0, y1⟩ := id HC.out
    go_wp2_with fail
    clear y0 y1
    refine (make_calls _ _ s HS.out (by omega)).mono ?_
    rintro e W12 ⟨v1, m1, rfl, N1, hset, -, hb⟩
    obtain rfl := hset.eq (nf_spec hwf.out) fun _ => Iff.rfl
    obtain ⟨A1, c1, rfl⟩ := N1.form
    clear N1 hset
    replace HL := Lib.hid ((HL.out.keep hb))
    replace HC := Lib.hid (HC.out.keep hb)
    replace HS := Lib.hid (HS.out.keep hb)
    replace HT := Lib.hid (HT.out.keep hb)
    replace hbw := hbw.trans (hb.mono hbw.size)
    clear hb
    by_cases hne : nf s = []
    · have hl0 : (nf s).length = 0 := by rw [hne]; rfl
      have HM := Lib.hid (mask_ofL0 (x := x) hN16 hwf.out hne)
      clear hne
      obtain ⟨y0, y1⟩ := id HC.out
      go_wp2_with fail
      clear y0 y1
      refine (has_b _ _ (ofL (M + 1) (bitsN x) (nf s)) _ key _ (HL.out.at_ 1 rfl) HI.out).mono ?_
      rintro e W21 ⟨rfl, hb⟩
      replace HL := Lib.hid ((HL.out.keep hb))
      replace HC := Lib.hid (HC.out.keep hb)
      replace HS := Lib.hid (HS.out.keep hb)
      replace HT := Lib.hid (HT.out.keep hb)
      replace hbw := hbw.trans (hb.mono hbw.size)
      clear hb
      go_wp2_with fail
      refine (maska_calls _ _ (ofL (M + 1) (bitsN x) (nf s)) (HL.out.at_ 1 rfl) (SO.out.mono (by omega)) LO.out).mono ?_
      rw [HM.out]
      rintro e W22 ⟨rfl, hb⟩
      replace HL := Lib.hid ((HL.out.keep hb))
      replace HC := Lib.hid (HC.out.keep hb)
      replace HS := Lib.hid (HS.out.keep hb)
      replace HT := Lib.hid (HT.out.keep hb)
      replace hbw := hbw.trans (hb.mono hbw.size)
      clear hb
      go_wp2_with fail
      refine (area_union _ _ _ (ofL (M + 1) (bitsN x) (nf s)) (ofL (M + 1) (bitsN y) (nf s)) 20 20 (HL.out.at_ 1 rfl) (HL.out.at_ 0 rfl) LO.out LO2.out SO.out SO2.out (by omega) (by omega)).mono ?_
      rintro e W23 ⟨v_u, u, rfl, R_u, l_u, h_u, s_u, hb⟩
      obtain ⟨A_u, c_u, rfl, -⟩ := id R_u
      have L_u : Hid (u.length ≤ 100) := by show _ ≤ _; have := LO.out; have := LO2.out; omega
      have S_u := Lib.hid s_u
      have H_u : Hid (IsU (ofL (M + 1) (bitsN x) (nf s)) (ofL (M + 1) (bitsN y) (nf s)) u) := h_u
      replace HL := Lib.hid ((HL.out.keep hb).cons R_u)
      replace HC := Lib.hid (HC.out.keep hb)
      replace HS := Lib.hid (HS.out.keep hb)
      replace HT := Lib.hid (HT.out.keep hb)
      replace hbw := hbw.trans (hb.mono hbw.size)
      clear R_u l_u h_u s_u hb
      go_wp2_with fail
      refine (of_calls _ _ zo _ s HS.out (by omega) Zo.out.1 HT.out).mono ?_
      rw [hNN]
      rintro e W24 ⟨χ_ou, rfl, O_ou, hb⟩
      have R_ou := O_ou.rd (by rw [ofL_len]; omega)
      have e_ou : ofL (M + 1) (bitsN zo) (nf s) = ofL (M + 1) (bitsN zo) (nf s) := rfl
      replace HL := Lib.hid ((HL.out.keep hb).cons R_ou)
      replace HC := Lib.hid (HC.out.keep hb)
      replace HS := Lib.hid (HS.out.keep hb)
      replace HT := Lib.hid (HT.out.keep hb)
      replace hbw := hbw.trans (hb.mono hbw.size)
      clear R_ou O_ou hb e_ou
      go_wp2_with fail
      refine (same_b _ _ _ u (ofL (M + 1) (bitsN zo) (nf s)) (HL.out.at_ 1 rfl) (HL.out.at_ 0 rfl) L_u.out (ofL_len100 hN16) (S_u.out.mono (by omega)) (ofL_sm (Nat.le_trans hnf.out (by omega)))).mono ?_
      rw [(same_uL hN16 H_u.out Zo.out.2).1, (same_uL hN16 H_u.out Zo.out.2).2, Bool.and_self]
      rintro e W25 ⟨rfl, hb⟩
      replace HL := Lib.hid ((HL.out.keep hb))
      replace HC := Lib.hid (HC.out.keep hb)
      replace HS := Lib.hid (HS.out.keep hb)
      replace HT := Lib.hid (HT.out.keep hb)
      replace hbw := hbw.trans (hb.mono hbw.size)
      clear hb
      go_wp2_with fail
      refine (area_meet _ _ _ (ofL (M + 1) (bitsN x) (nf s)) (ofL (M + 1) (bitsN y) (nf s)) 20 20 (HL.out.at_ 3 rfl) (HL.out.at_ 2 rfl) LO.out LO2.out SO.out SO2.out (by omega) (by omega)).mono ?_
      rintro e W26 ⟨v_m, m, rfl, R_m, l_m, h_m, s_m, hb⟩
      obtain ⟨A_m, c_m, rfl, -⟩ := id R_m
      have L_m : Hid (m.length ≤ 100) := by show _ ≤ _; have := LO.out; have := LO2.out; omega
      have S_m := Lib.hid s_m
      have H_m : Hid (IsM (ofL (M + 1) (bitsN x) (nf s)) (ofL (M + 1) (bitsN y) (nf s)) m) := h_m
      replace HL := Lib.hid ((HL.out.keep hb).cons R_m)
      replace HC := Lib.hid (HC.out.keep hb)
      replace HS := Lib.hid (HS.out.keep hb)
      replace HT := Lib.hid (HT.out.keep hb)
      replace hbw := hbw.trans (hb.mono hbw.size)
      clear R_m l_m h_m s_m hb
      go_wp2_with fail
      refine (of_calls _ _ za _ s HS.out (by omega) Za.out.1 HT.out).mono ?_
      rw [hNN]
      rintro e W27 ⟨χ_om, rfl, O_om, hb⟩
      have R_om := O_om.rd (by rw [ofL_len]; omega)
      have e_om : ofL (M + 1) (bitsN za) (nf s) = ofL (M + 1) (bitsN za) (nf s) := rfl
      replace HL := Lib.hid ((HL.out.keep hb).cons R_om)
      replace HC := Lib.hid (HC.out.keep hb)
      replace HS := Lib.hid (HS.out.keep hb)
      replace HT := Lib.hid (HT.out.keep hb)
      replace hbw := hbw.trans (hb.mono hbw.size)
      clear R_om O_om hb e_om
      go_wp2_with fail
      refine (same_b _ _ _ m (ofL (M + 1) (bitsN za) (nf s)) (HL.out.at_ 1 rfl) (HL.out.at_ 0 rfl) L_m.out (ofL_len100 hN16) (S_m.out.mono (by omega)) (ofL_sm (Nat.le_trans hnf.out (by omega)))).mono ?_
      rw [(same_mL hN16 H_m.out Za.out.2).1, (same_mL hN16 H_m.out Za.out.2).2, Bool.and_self]
      rintro e W28 ⟨rfl, hb⟩
      replace HL := Lib.hid ((HL.out.keep hb))
      replace HC := Lib.hid (HC.out.keep hb)
      replace HS := Lib.hid (HS.out.keep hb)
      replace HT := Lib.hid (HT.out.keep hb)
      replace hbw := hbw.trans (hb.mono hbw.size)
      clear hb
      go_wp2_with fail
      refine (area_minus _ _ _ (ofL (M + 1) (bitsN x) (nf s)) (ofL (M + 1) (bitsN y) (nf s)) 20 20 (HL.out.at_ 5 rfl) (HL.out.at_ 4 rfl) LO.out LO2.out SO.out SO2.out (by omega) (by omega)).mono ?_
      rintro e W29 ⟨v_d, d, rfl, R_d, l_d, h_d, s_d, hb⟩
      obtain ⟨A_d, c_d, rfl, -⟩ := id R_d
      have L_d : Hid (d.length ≤ 100) := by show _ ≤ _; have := LO.out; have := LO2.out; omega
      have S_d := Lib.hid s_d
      have H_d : Hid (IsD (ofL (M + 1) (bitsN x) (nf s)) (ofL (M + 1) (bitsN y) (nf s)) d) := h_d
      replace HL := Lib.hid ((HL.out.keep hb).cons R_d)
      replace HC := Lib.hid (HC.out.keep hb)
      replace HS := Lib.hid (HS.out.keep hb)
      replace HT := Lib.hid (HT.out.keep hb)
      replace hbw := hbw.trans (hb.mono hbw.size)
      clear R_d l_d h_d s_d hb
      go_wp2_with fail
      refine (of_calls _ _ zd _ s HS.out (by omega) Zd.out.1 HT.out).mono ?_
      rw [hNN]
      rintro e W30 ⟨χ_od, rfl, O_od, hb⟩
      have R_od := O_od.rd (by rw [ofL_len]; omega)
      have e_od : ofL (M + 1) (bitsN zd) (nf s) = ofL (M + 1) (bitsN zd) (nf s) := rfl
      replace HL := Lib.hid ((HL.out.keep hb).cons R_od)
      replace HC := Lib.hid (HC.out.keep hb)
      replace HS := Lib.hid (HS.out.keep hb)
      replace HT := Lib.hid (HT.out.keep hb)
      replace hbw := hbw.trans (hb.mono hbw.size)
      clear R_od O_od hb e_od
      go_wp2_with fail
      refine (same_b _ _ _ d (ofL (M + 1) (bitsN zd) (nf s)) (HL.out.at_ 1 rfl) (HL.out.at_ 0 rfl) L_d.out (ofL_len100 hN16) (S_d.out.mono (by omega)) (ofL_sm (Nat.le_trans hnf.out (by omega)))).mono ?_
      rw [(same_dL hN16 H_d.out Zd.out.2).1, (same_dL hN16 H_d.out Zd.out.2).2, Bool.and_self]
      rintro e W31 ⟨rfl, hb⟩
      replace HL := Lib.hid ((HL.out.keep hb))
      replace HC := Lib.hid (HC.out.keep hb)
      replace HS := Lib.hid (HS.out.keep hb)
      replace HT := Lib.hid (HT.out.keep hb)
      replace hbw := hbw.trans (hb.mono hbw.size)
      clear hb
      go_wp2
      go_ret
      exact ⟨rfl, hbw⟩
    · have hl0 : 0 < (nf s).length := List.length_pos_iff.2 hne
      have HM := Lib.hid (mask_ofL (x := x) hN16 hwf.out hne)
      clear hne
      have hP := low_and (x := x) (M := M) hx hM2
      obtain ⟨P, hPe⟩ : ∃ P, P = x &&& (2 ^ (M + 1) - 1) := ⟨_, rfl⟩
      have HM := Lib.hid (HM.out.trans hPe.symm)
      rw [← hPe] at hP
      clear hPe
      obtain ⟨y0, y1⟩ := id HC.out
      go_wp2_with fail
      clear y0 y1
      refine (has_b _ _ (ofL (M + 1) (bitsN x) (nf s)) _ key _ (HL.out.at_ 1 rfl) HI.out).mono ?_
      rintro e W21 ⟨rfl, hb⟩
      replace HL := Lib.hid ((HL.out.keep hb))
      replace HC := Lib.hid (HC.out.keep hb)
      replace HS := Lib.hid (HS.out.keep hb)
      replace HT := Lib.hid (HT.out.keep hb)
      replace hbw := hbw.trans (hb.mono hbw.size)
      clear hb
      go_wp2_with fail
      refine (maska_calls _ _ (ofL (M + 1) (bitsN x) (nf s)) (HL.out.at_ 1 rfl) (SO.out.mono (by omega)) LO.out).mono ?_
      rw [HM.out]
      rintro e W22 ⟨rfl, hb⟩
      replace HL := Lib.hid ((HL.out.keep hb))
      replace HC := Lib.hid (HC.out.keep hb)
      replace HS := Lib.hid (HS.out.keep hb)
      replace HT := Lib.hid (HT.out.keep hb)
      replace hbw := hbw.trans (hb.mono hbw.size)
      clear hb
      go_wp2_with fail
      refine (area_union _ _ _ (ofL (M + 1) (bitsN x) (nf s)) (ofL (M + 1) (bitsN y) (nf s)) 20 20 (HL.out.at_ 1 rfl) (HL.out.at_ 0 rfl) LO.out LO2.out SO.out SO2.out (by omega) (by omega)).mono ?_
      rintro e W23 ⟨v_u, u, rfl, R_u, l_u, h_u, s_u, hb⟩
      obtain ⟨A_u, c_u, rfl, -⟩ := id R_u
      have L_u : Hid (u.length ≤ 100) := by show _ ≤ _; have := LO.out; have := LO2.out; omega
      have S_u := Lib.hid s_u
      have H_u : Hid (IsU (ofL (M + 1) (bitsN x) (nf s)) (ofL (M + 1) (bitsN y) (nf s)) u) := h_u
      replace HL := Lib.hid ((HL.out.keep hb).cons R_u)
      replace HC := Lib.hid (HC.out.keep hb)
      replace HS := Lib.hid (HS.out.keep hb)
      replace HT := Lib.hid (HT.out.keep hb)
      replace hbw := hbw.trans (hb.mono hbw.size)
      clear R_u l_u h_u s_u hb
      go_wp2_with fail
      refine (of_calls _ _ zo _ s HS.out (by omega) Zo.out.1 HT.out).mono ?_
      rw [hNN]
      rintro e W24 ⟨χ_ou, rfl, O_ou, hb⟩
      have R_ou := O_ou.rd (by rw [ofL_len]; omega)
      have e_ou : ofL (M + 1) (bitsN zo) (nf s) = ofL (M + 1) (bitsN zo) (nf s) := rfl
      replace HL := Lib.hid ((HL.out.keep hb).cons R_ou)
      replace HC := Lib.hid (HC.out.keep hb)
      replace HS := Lib.hid (HS.out.keep hb)
      replace HT := Lib.hid (HT.out.keep hb)
      replace hbw := hbw.trans (hb.mono hbw.size)
      clear R_ou O_ou hb e_ou
      go_wp2_with fail
      refine (same_b _ _ _ u (ofL (M + 1) (bitsN zo) (nf s)) (HL.out.at_ 1 rfl) (HL.out.at_ 0 rfl) L_u.out (ofL_len100 hN16) (S_u.out.mono (by omega)) (ofL_sm (Nat.le_trans hnf.out (by omega)))).mono ?_
      rw [(same_uL hN16 H_u.out Zo.out.2).1, (same_uL hN16 H_u.out Zo.out.2).2, Bool.and_self]
      rintro e W25 ⟨rfl, hb⟩
      replace HL := Lib.hid ((HL.out.keep hb))
      replace HC := Lib.hid (HC.out.keep hb)
      replace HS := Lib.hid (HS.out.keep hb)
      replace HT := Lib.hid (HT.out.keep hb)
      replace hbw := hbw.trans (hb.mono hbw.size)
      clear hb
      go_wp2_with fail
      refine (area_meet _ _ _ (ofL (M + 1) (bitsN x) (nf s)) (ofL (M + 1) (bitsN y) (nf s)) 20 20 (HL.out.at_ 3 rfl) (HL.out.at_ 2 rfl) LO.out LO2.out SO.out SO2.out (by omega) (by omega)).mono ?_
      rintro e W26 ⟨v_m, m, rfl, R_m, l_m, h_m, s_m, hb⟩
      obtain ⟨A_m, c_m, rfl, -⟩ := id R_m
      have L_m : Hid (m.length ≤ 100) := by show _ ≤ _; have := LO.out; have := LO2.out; omega
      have S_m := Lib.hid s_m
      have H_m : Hid (IsM (ofL (M + 1) (bitsN x) (nf s)) (ofL (M + 1) (bitsN y) (nf s)) m) := h_m
      replace HL := Lib.hid ((HL.out.keep hb).cons R_m)
      replace HC := Lib.hid (HC.out.keep hb)
      replace HS := Lib.hid (HS.out.keep hb)
      replace HT := Lib.hid (HT.out.keep hb)
      replace hbw := hbw.trans (hb.mono hbw.size)
      clear R_m l_m h_m s_m hb
      go_wp2_with fail
      refine (of_calls _ _ za _ s HS.out (by omega) Za.out.1 HT.out).mono ?_
      rw [hNN]
      rintro e W27 ⟨χ_om, rfl, O_om, hb⟩
      have R_om := O_om.rd (by rw [ofL_len]; omega)
      have e_om : ofL (M + 1) (bitsN za) (nf s) = ofL (M + 1) (bitsN za) (nf s) := rfl
      replace HL := Lib.hid ((HL.out.keep hb).cons R_om)
      replace HC := Lib.hid (HC.out.keep hb)
      replace HS := Lib.hid (HS.out.keep hb)
      replace HT := Lib.hid (HT.out.keep hb)
      replace hbw := hbw.trans (hb.mono hbw.size)
      clear R_om O_om hb e_om
      go_wp2_with fail
      refine (same_b _ _ _ m (ofL (M + 1) (bitsN za) (nf s)) (HL.out.at_ 1 rfl) (HL.out.at_ 0 rfl) L_m.out (ofL_len100 hN16) (S_m.out.mono (by omega)) (ofL_sm (Nat.le_trans hnf.out (by omega)))).mono ?_
      rw [(same_mL hN16 H_m.out Za.out.2).1, (same_mL hN16 H_m.out Za.out.2).2, Bool.and_self]
      rintro e W28 ⟨rfl, hb⟩
      replace HL := Lib.hid ((HL.out.keep hb))
      replace HC := Lib.hid (HC.out.keep hb)
      replace HS := Lib.hid (HS.out.keep hb)
      replace HT := Lib.hid (HT.out.keep hb)
      replace hbw := hbw.trans (hb.mono hbw.size)
      clear hb
      go_wp2_with fail
      refine (area_minus _ _ _ (ofL (M + 1) (bitsN x) (nf s)) (ofL (M + 1) (bitsN y) (nf s)) 20 20 (HL.out.at_ 5 rfl) (HL.out.at_ 4 rfl) LO.out LO2.out SO.out SO2.out (by omega) (by omega)).mono ?_
      rintro e W29 ⟨v_d, d, rfl, R_d, l_d, h_d, s_d, hb⟩
      obtain ⟨A_d, c_d, rfl, -⟩ := id R_d
      have L_d : Hid (d.length ≤ 100) := by show _ ≤ _; have := LO.out; have := LO2.out; omega
      have S_d := Lib.hid s_d
      have H_d : Hid (IsD (ofL (M + 1) (bitsN x) (nf s)) (ofL (M + 1) (bitsN y) (nf s)) d) := h_d
      replace HL := Lib.hid ((HL.out.keep hb).cons R_d)
      replace HC := Lib.hid (HC.out.keep hb)
      replace HS := Lib.hid (HS.out.keep hb)
      replace HT := Lib.hid (HT.out.keep hb)
      replace hbw := hbw.trans (hb.mono hbw.size)
      clear R_d l_d h_d s_d hb
      go_wp2_with fail
      refine (of_calls _ _ zd _ s HS.out (by omega) Zd.out.1 HT.out).mono ?_
      rw [hNN]
      rintro e W30 ⟨χ_od, rfl, O_od, hb⟩
      have R_od := O_od.rd (by rw [ofL_len]; omega)
      have e_od : ofL (M + 1) (bitsN zd) (nf s) = ofL (M + 1) (bitsN zd) (nf s) := rfl
      replace HL := Lib.hid ((HL.out.keep hb).cons R_od)
      replace HC := Lib.hid (HC.out.keep hb)
      replace HS := Lib.hid (HS.out.keep hb)
      replace HT := Lib.hid (HT.out.keep hb)
      replace hbw := hbw.trans (hb.mono hbw.size)
      clear R_od O_od hb e_od
      go_wp2_with fail
      refine (same_b _ _ _ d (ofL (M + 1) (bitsN zd) (nf s)) (HL.out.at_ 1 rfl) (HL.out.at_ 0 rfl) L_d.out (ofL_len100 hN16) (S_d.out.mono (by omega)) (ofL_sm (Nat.le_trans hnf.out (by omega)))).mono ?_
      rw [(same_dL hN16 H_d.out Zd.out.2).1, (same_dL hN16 H_d.out Zd.out.2).2, Bool.and_self]
      rintro e W31 ⟨rfl, hb⟩
      replace HL := Lib.hid ((HL.out.keep hb))
      replace HC := Lib.hid (HC.out.keep hb)
      replace HS := Lib.hid (HS.out.keep hb)
      replace HT := Lib.hid (HT.out.keep hb)
      replace hbw := hbw.trans (hb.mono hbw.size)
      clear hb
      go_wp2
      go_ret
      exact ⟨rfl, hbw⟩
theorem masks_lawC (w : World) (vs : Value) (n x y : Int) (s : List Sp) (lab : Int) (key : Nat) (_ : (Lit.int .i64 n).wf = true) (hx : (Lit.int .u32 x).wf = true) (hy : (Lit.int .u32 y).wf = true) (hs : RdS w vs s) (_ : wrap64 lab = lab ∧ key < 4294967296) (hT : Tab w) :
    Calls Tryd.prog 5 #[.int .i64 n, .int .u32 x, .int .u32 y, vs, .agg #[.int .i64 lab, .int .u32 key]] w fun e w' => e = .returned (.bool true) ∧ Below w.heap.size w w' := by
  obtain ⟨x, rfl, hx2⟩ := u32_nat hx
  obtain ⟨y, rfl, hy2⟩ := u32_nat hy
  exact masks_law w vs n x y s lab key hs hx2 hy2 hT
end Go.Proofs.YtjlkkbjolfhobaaDoor
