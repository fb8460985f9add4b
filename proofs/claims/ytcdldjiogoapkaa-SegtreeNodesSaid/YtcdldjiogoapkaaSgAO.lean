import Derived.Test.YtcdldjiogoapkaaSgAL
import Derived.Laws.BitsAllLaws
namespace Go.Proofs.Ytcdldjiogoapkaa
open Go.RowKit
attribute [local go_sem] World.cell?_alloc_some frozen_alloc_some field_na field_ac field_as

theorem and5 (a : Nat) : a &&& 5 = 0 ∨ a &&& 5 = 1 ∨ a &&& 5 = 4 ∨ a &&& 5 = 5 := by
  have h1 : (a &&& 5) % 2 ^ 3 = (a % 2 ^ 3) &&& (5 % 2 ^ 3) := Nat.and_mod_two_pow
  have h2 : a &&& 5 ≤ 5 := Nat.and_le_right
  have h3 : a &&& 5 = (a % 8) &&& 5 := by
    rw [Nat.mod_eq_of_lt (by omega)] at h1
    exact h1
  have h4 : a % 8 < 8 := Nat.mod_lt _ (by decide)
  rw [h3]
  generalize a % 8 = r at h4
  have : ∀ r : Fin 8, r.1 &&& 5 = 0 ∨ r.1 &&& 5 = 1 ∨ r.1 &&& 5 = 4 ∨ r.1 &&& 5 = 5 := by decide
  exact this ⟨r, h4⟩
theorem i64_and5 (n : Int) : bits .and .i64 n 5 = 0 ∨ bits .and .i64 n 5 = 1 ∨ bits .and .i64 n 5 = 4 ∨ bits .and .i64 n 5 = 5 := by
  have key : (BitVec.ofInt 64 n &&& BitVec.ofInt 64 5).toNat = (BitVec.ofInt 64 n).toNat &&& 5 := by
    rw [BitVec.toNat_and]; rfl
  have h := and5 (BitVec.ofInt 64 n).toNat
  rw [← key] at h
  have e : bits .and .i64 n 5 = IntKind.i64.wrap ((BitVec.ofInt 64 n &&& BitVec.ofInt 64 5).toNat : Nat) := rfl
  rw [e]
  rcases h with h | h | h | h <;> rw [h] <;> decide
theorem mask_nat (x n : Nat) (hx : x < 4294967296) (hn : n ≤ 32) : x &&& (4294967295 - (2 ^ n - 1)) = x / 2 ^ n * 2 ^ n := by
  have hp : 0 < 2 ^ n := Nat.two_pow_pos n
  have e : 4294967295 - (2 ^ n - 1) = (2 ^ (32 - n) - 1) <<< n := by
    rw [Nat.shiftLeft_eq, Nat.sub_mul, ← Nat.pow_add, Nat.sub_add_cancel hn]
    have : 2 ^ n ≤ 2 ^ 32 := Nat.pow_le_pow_right (by decide) hn
    omega
  rw [e, ← Nat.shiftLeft_eq]
  apply Nat.eq_of_testBit_eq
  intro i
  rw [Nat.testBit_and, Nat.testBit_shiftLeft, Nat.testBit_shiftLeft, Nat.testBit_two_pow_sub_one, Nat.testBit_div_two_pow]
  by_cases h : n ≤ i
  · rw [show i - n + n = i by omega]
    by_cases h2 : i < 32
    · have : i - n < 32 - n := by omega
      simp [h, this]
    · have hb : x.testBit i = false := Nat.testBit_lt_two_pow (Nat.lt_of_lt_of_le hx (show 4294967296 ≤ 2 ^ i from Nat.le_trans (by decide : 4294967296 ≤ 2 ^ 32) (Nat.pow_le_pow_right (by decide) (by omega))))
      simp [hb]
  · simp [h]

set_option maxRecDepth 100000 in
set_option maxHeartbeats 4000000 in
theorem nodes_0 (w : World) (x : Nat) (y : Int) (hx0 : x < 4294967296) (hy : bits .and .i64 y 5 = 0) :
    Calls Try.prog 7 #[.int .u32 x, .int .i64 y] w fun e w' => e = .returned (.bool true) ∧ Below w.heap.size w w' := by
  obtain ⟨q, hq⟩ : ∃ q, q = x / 1 := ⟨_, rfl⟩
  obtain ⟨f, hf⟩ : ∃ f, f = q * 2 ^ 0 := ⟨_, rfl⟩
  have hfx : bits .andNot .u32 (x : Int) 0 = (f : Int) := by
    have h1 := u32_andNot_nat x 0 hx0 (by decide)
    have h2 := mask_nat x 0 hx0 (by decide)
    have h3 : ((0 : Nat) : Int) = 0 := rfl
    rw [h3] at h1
    rw [h1, hf, hq]
    exact congrArg Nat.cast h2
  have hfl : f + 1 ≤ 4294967296 := by rw [hf, hq]; simp; omega
  have hqn : q * 2 ^ 0 + 2 ^ 0 ≤ 4294967296 := by rw [← hf]; simpa using hfl
  have HF := Lib.hid hf
  clear hq
  obtain ⟨g, hg, hgl⟩ : ∃ g : Nat, bits .xor .u32 (f : Int) 2147483648 = (g : Int) ∧ Hid (g < 4294967296 ∧ ∀ i, i < 1 → g ≠ f + i) := by
    refine ⟨f ^^^ 2147483648, u32_xor_nat f 2147483648 (by omega) (by decide), Nat.xor_lt_two_pow (n := 32) (by omega) (by decide), fun i hi e => ?_⟩
    have h1 : (f ^^^ 2147483648).testBit 31 = (f + i).testBit 31 := by rw [e]
    have h2 : (f + i).testBit 31 = f.testBit 31 := by
      rw [Nat.testBit_eq_decide_div_mod_eq, Nat.testBit_eq_decide_div_mod_eq]
      have : (f + i) / 2 ^ 31 = f / 2 ^ 31 := by rw [hf]; simp; omega
      rw [this]
    rw [Nat.testBit_xor, h2, show (2147483648 : Nat).testBit 31 = true by decide] at h1
    cases hb : f.testBit 31 <;> rw [hb] at h1 <;> simp at h1
  clear hf
  have hnj := fun j hj => nodesJ_all 0 j (by decide) hj
  have HN : Hid (∀ j, j ≤ 1 → nodesJ j ≤ 33 ∧ nodesJ 1 = 33) := fun j hj => by simpa using hnj j (by simpa using hj)
  clear hnj
  go_enter Try.func7, Try.ntmps7
  go_wp2_with fail
  refine (alive_calls _).mono ?_
  rintro e w1 ⟨rfl, hb⟩
  go_wp2_with fail
  refine (s_new w1 33 1 (fun _ => 0) (by decide) (by decide)).mono ?_
  rintro e w2 ⟨pt, χ2, rfl, -, ag, ht, hb2⟩
  have L2 := Lw.start hb (fun _ _ => rfl) ag ht hb2
  clear ag ht hb hb2
  go_wp2
  go_loopw [33] (fun i wr => ∃ (j : Nat) (χ : Col), j ≤ 1 ∧ i = .int .u32 j ∧ Lw w χ wr pt 33 (rowJ f j) ((List.range j).reverse.map (fun i => f + i)) (nodesJ j)) (fun i _ => 1 - (intOf i).toNat)
  case atStart => exact ⟨0, χ2, by omega, rfl, L2⟩
  case round =>
    obtain ⟨j, χ, hj, rfl, L⟩ := hrel
    by_cases hlt : j < 1
    · have hfj : ((f : Int) + (j : Int)) % 4294967296 = ((f + j : Nat) : Int) := by omega
      have hm : lackL ((List.range j).reverse.map (fun i => f + i)) (f + j) = lackL (List.range j).reverse j := by
        rw [HF.out]
        exact lackL_shift _ (fun k hk => by simp at hk ⊢; omega) (by simpa using hlt) hqn
      have hn := (HN.out (j + 1) hlt).1
      have hev : ∀ k ∈ (List.range j).reverse.map (fun i => f + i), k < 4294967296 := fun k hk => by simp at hk; obtain ⟨i, hi, rfl⟩ := hk; omega
      have HM := Lib.hid hm
      have hn2 : nodesJ j + lackL (List.range j).reverse j ≤ 33 := hn
      have HE : Hid ((List.range (j + 1)).reverse.map (fun i => f + i) = (f + j) :: (List.range j).reverse.map (fun i => f + i)) := by show _ = _; rw [HF.out]; exact evJ q 0 j
      clear hm hn
      have HEV := Lib.hid hev
      clear hev
      go_wp2_with fail
      refine (s_putok wr (f + j) (lackL (List.range j).reverse j) 1 L HEV.out (by omega) (by unfold wrap64; omega) (by decide) HM.out (by omega)).mono ?_
      rw [rowJ_succ]
      rintro e w3 ⟨rfl, hs⟩
      obtain ⟨χ3, -, -, L3⟩ := L.put hs
      rw [← HE.out] at L3
      clear L hs
      go_wp2
      refine ⟨⟨j + 1, χ3, hlt, by go_num, L3⟩, by simp [intOf]; omega⟩
    · have hjp : j = 1 := by omega
      subst hjp
      obtain ⟨N1, hN1⟩ : ∃ N1, N1 = nodesJ 1 := ⟨_, rfl⟩
      have hnl : N1 = 33 := by rw [hN1]; exact (HN.out 1 (Nat.le_refl _)).2
      rw [← hN1] at L
      subst hnl
      obtain ⟨ev, hev⟩ : ∃ ev, ev = (List.range 1).reverse.map (fun i => f + i) := ⟨_, rfl⟩
      have HEV : Hid (∀ k ∈ ev, k < 4294967296) := fun k hk => by rw [hev] at hk; simp at hk; obtain ⟨i, hi, rfl⟩ := hk; omega
      have hlg : 1 ≤ lackL ev g := lackL_pos (fun hm => by rw [hev] at hm; obtain ⟨i, hi, e⟩ := List.mem_map.1 hm; exact hgl.out.2 i (List.mem_range.1 (List.mem_reverse.1 hi)) e.symm) HEV.out hgl.out.1
      have hlf : lackL ev f = 0 := lackL_mem (by rw [hev]; simp)
      rw [← hev] at L
      obtain ⟨m, hm⟩ : ∃ m, lackL ev g = m := ⟨_, rfl⟩
      rw [hm] at hlg
      have HM := Lib.hid hm
      have HLF := Lib.hid hlf
      have F1 : Hid ((rowJ f 1).filter (inS 0 4294967295) = rowJ f 1) := filter_whole L.tr.len.2
      obtain ⟨mn, mx, hag⟩ := agV_form (rowJ f 1)
      rw [rowJ_len, rowJ_sum] at hag
      have HA : Hid (agV (vals (rowJ f 1)) = ⟨1, 1, mn, mx⟩) := by show _ = _; rw [hag]; unfold wrap64; simp
      have F5 := rowJ_five f 1 (by decide)
      obtain ⟨r5, hr5⟩ : ∃ r5, r5 = putL f 5 (rowJ f 1) := ⟨_, rfl⟩
      have HR5 := Lib.hid hr5
      rw [← hr5] at F5
      clear hm hlf hev hag hN1 hr5 HN
      obtain ⟨row, hrow⟩ : ∃ row, row = rowJ f 1 := ⟨_, rfl⟩
      rw [← hrow] at L F1 HA HR5
      have HF5 := Lib.hid F5
      clear hrow F5
      go_wp2
      have hwP : IntKind.i64.wrap 1 = 1 := by decide
      have K9 := L.below (undrew_r (Below.refl _ wr)) 10
      clear L
      first
        | (go_region_held3 (fun _ => True)
            (exact trivial)
            (first
              | (go_at_call 18; have hS := K10; refine (s_fold _ 0 4294967295 K10.tr).mono ?_; rw [F1.out, HA.out]; rintro e w11 ⟨rfl, hs⟩; obtain ⟨χ11, ag, ch, K11⟩ := K10.call hs; simp only [Ag.val])
              | (go_at_call 13; refine (s_putfull _ g m 1 K9 HEV.out hgl.out.1 (by decide) HM.out (by omega)).mono ?_; rintro e w10 ⟨rfl, hs⟩; obtain ⟨χ10, ag10, ch10, K10⟩ := K9.call hs)
              | (go_at_call 20; refine (s_nodes _ K9.tr).mono ?_; rintro e w9 ⟨rfl, rfl⟩)))
        | fail
      clear K9 K10 ag10 ch10 ag ch F1 HA
      go_wp2
      have K19 := K11.below (undrew_r (Below.refl _ w11)) 10
      clear K11
      have HFL : Hid (f < 4294967296) := by show _ < _; omega
      clear hg hfx hfl hqn hlg
      have HF6 : Hid (∀ r : List (Nat × Int), r.length = 1 → (agV (vals r)).c = 1) := fun r hr => by rw [agV_len, List.length_map, hr]; rfl
      first
        | (go_region_held3 (fun _ => True)
            (exact trivial)
            (first
              | (go_at_call 20; have hS := K21; refine (s_nodes _ K21.tr).mono ?_; rintro e w22 ⟨rfl, rfl⟩)
              | (go_at_call 17; have hS := K20; refine (s_kill _ 0 4294967295 K20.tr).mono ?_; rw [filter_whole K20.tr.len.2, HF6.out _ HF5.out]; rintro e w21 ⟨rfl, hs⟩; obtain ⟨χ21, -, -, K21z⟩ := K20.call hs; obtain ⟨r6, K21⟩ : ∃ r6, Lw w χ21 w21 pt 33 r6 (f :: ev) 33 := ⟨_, K21z⟩; clear hs K21z)
              | (go_at_call 20; have hS := K20; refine (s_nodes _ K20.tr).mono ?_; rintro e w20b ⟨rfl, rfl⟩)
              | (go_at_call 13; refine (s_putok _ f 0 5 K19 HEV.out HFL.out (by unfold wrap64; omega) (by decide) HLF.out (by omega)).mono ?_; rw [← HR5.out]; rintro e w20 ⟨rfl, hs⟩; obtain ⟨χ20, -, -, K20z⟩ := K19.put hs; have K20 : Lw w χ20 w20 pt 33 r5 (f :: ev) 33 := K20z; clear K20z hs)))
        | fail
      go_wp2
      go_ret
      exact ⟨rfl, K21.bel⟩


set_option maxRecDepth 100000 in
set_option maxHeartbeats 4000000 in
theorem nodes_1 (w : World) (x : Nat) (y : Int) (hx0 : x < 4294967296) (hy : bits .and .i64 y 5 = 1) :
    Calls Try.prog 7 #[.int .u32 x, .int .i64 y] w fun e w' => e = .returned (.bool true) ∧ Below w.heap.size w w' := by
  obtain ⟨q, hq⟩ : ∃ q, q = x / 2 := ⟨_, rfl⟩
  obtain ⟨f, hf⟩ : ∃ f, f = q * 2 ^ 1 := ⟨_, rfl⟩
  have hfx : bits .andNot .u32 (x : Int) 1 = (f : Int) := by
    have h1 := u32_andNot_nat x 1 hx0 (by decide)
    have h2 := mask_nat x 1 hx0 (by decide)
    have h3 : ((1 : Nat) : Int) = 1 := rfl
    rw [h3] at h1
    rw [h1, hf, hq]
    exact congrArg Nat.cast h2
  have hfl : f + 2 ≤ 4294967296 := by rw [hf, hq]; simp; omega
  have hqn : q * 2 ^ 1 + 2 ^ 1 ≤ 4294967296 := by rw [← hf]; simpa using hfl
  have HF := Lib.hid hf
  clear hq
  obtain ⟨g, hg, hgl⟩ : ∃ g : Nat, bits .xor .u32 (f : Int) 2147483648 = (g : Int) ∧ Hid (g < 4294967296 ∧ ∀ i, i < 2 → g ≠ f + i) := by
    refine ⟨f ^^^ 2147483648, u32_xor_nat f 2147483648 (by omega) (by decide), Nat.xor_lt_two_pow (n := 32) (by omega) (by decide), fun i hi e => ?_⟩
    have h1 : (f ^^^ 2147483648).testBit 31 = (f + i).testBit 31 := by rw [e]
    have h2 : (f + i).testBit 31 = f.testBit 31 := by
      rw [Nat.testBit_eq_decide_div_mod_eq, Nat.testBit_eq_decide_div_mod_eq]
      have : (f + i) / 2 ^ 31 = f / 2 ^ 31 := by rw [hf]; simp; omega
      rw [this]
    rw [Nat.testBit_xor, h2, show (2147483648 : Nat).testBit 31 = true by decide] at h1
    cases hb : f.testBit 31 <;> rw [hb] at h1 <;> simp at h1
  clear hf
  have hnj := fun j hj => nodesJ_all 1 j (by decide) hj
  have HN : Hid (∀ j, j ≤ 2 → nodesJ j ≤ 34 ∧ nodesJ 2 = 34) := fun j hj => by simpa using hnj j (by simpa using hj)
  clear hnj
  go_enter Try.func7, Try.ntmps7
  go_wp2_with fail
  refine (alive_calls _).mono ?_
  rintro e w1 ⟨rfl, hb⟩
  go_wp2_with fail
  refine (s_new w1 34 1 (fun _ => 0) (by decide) (by decide)).mono ?_
  rintro e w2 ⟨pt, χ2, rfl, -, ag, ht, hb2⟩
  have L2 := Lw.start hb (fun _ _ => rfl) ag ht hb2
  clear ag ht hb hb2
  go_wp2
  go_loopw [33] (fun i wr => ∃ (j : Nat) (χ : Col), j ≤ 2 ∧ i = .int .u32 j ∧ Lw w χ wr pt 34 (rowJ f j) ((List.range j).reverse.map (fun i => f + i)) (nodesJ j)) (fun i _ => 2 - (intOf i).toNat)
  case atStart => exact ⟨0, χ2, by omega, rfl, L2⟩
  case round =>
    obtain ⟨j, χ, hj, rfl, L⟩ := hrel
    by_cases hlt : j < 2
    · have hfj : ((f : Int) + (j : Int)) % 4294967296 = ((f + j : Nat) : Int) := by omega
      have hm : lackL ((List.range j).reverse.map (fun i => f + i)) (f + j) = lackL (List.range j).reverse j := by
        rw [HF.out]
        exact lackL_shift _ (fun k hk => by simp at hk ⊢; omega) (by simpa using hlt) hqn
      have hn := (HN.out (j + 1) hlt).1
      have hev : ∀ k ∈ (List.range j).reverse.map (fun i => f + i), k < 4294967296 := fun k hk => by simp at hk; obtain ⟨i, hi, rfl⟩ := hk; omega
      have HM := Lib.hid hm
      have hn2 : nodesJ j + lackL (List.range j).reverse j ≤ 34 := hn
      have HE : Hid ((List.range (j + 1)).reverse.map (fun i => f + i) = (f + j) :: (List.range j).reverse.map (fun i => f + i)) := by show _ = _; rw [HF.out]; exact evJ q 1 j
      clear hm hn
      have HEV := Lib.hid hev
      clear hev
      go_wp2_with fail
      refine (s_putok wr (f + j) (lackL (List.range j).reverse j) 1 L HEV.out (by omega) (by unfold wrap64; omega) (by decide) HM.out (by omega)).mono ?_
      rw [rowJ_succ]
      rintro e w3 ⟨rfl, hs⟩
      obtain ⟨χ3, -, -, L3⟩ := L.put hs
      rw [← HE.out] at L3
      clear L hs
      go_wp2
      refine ⟨⟨j + 1, χ3, hlt, by go_num, L3⟩, by simp [intOf]; omega⟩
    · have hjp : j = 2 := by omega
      subst hjp
      obtain ⟨N1, hN1⟩ : ∃ N1, N1 = nodesJ 2 := ⟨_, rfl⟩
      have hnl : N1 = 34 := by rw [hN1]; exact (HN.out 2 (Nat.le_refl _)).2
      rw [← hN1] at L
      subst hnl
      obtain ⟨ev, hev⟩ : ∃ ev, ev = (List.range 2).reverse.map (fun i => f + i) := ⟨_, rfl⟩
      have HEV : Hid (∀ k ∈ ev, k < 4294967296) := fun k hk => by rw [hev] at hk; simp at hk; obtain ⟨i, hi, rfl⟩ := hk; omega
      have hlg : 1 ≤ lackL ev g := lackL_pos (fun hm => by rw [hev] at hm; obtain ⟨i, hi, e⟩ := List.mem_map.1 hm; exact hgl.out.2 i (List.mem_range.1 (List.mem_reverse.1 hi)) e.symm) HEV.out hgl.out.1
      have hlf : lackL ev f = 0 := lackL_mem (by rw [hev]; simp)
      rw [← hev] at L
      obtain ⟨m, hm⟩ : ∃ m, lackL ev g = m := ⟨_, rfl⟩
      rw [hm] at hlg
      have HM := Lib.hid hm
      have HLF := Lib.hid hlf
      have F1 : Hid ((rowJ f 2).filter (inS 0 4294967295) = rowJ f 2) := filter_whole L.tr.len.2
      obtain ⟨mn, mx, hag⟩ := agV_form (rowJ f 2)
      rw [rowJ_len, rowJ_sum] at hag
      have HA : Hid (agV (vals (rowJ f 2)) = ⟨2, 2, mn, mx⟩) := by show _ = _; rw [hag]; unfold wrap64; simp
      have F5 := rowJ_five f 2 (by decide)
      obtain ⟨r5, hr5⟩ : ∃ r5, r5 = putL f 5 (rowJ f 2) := ⟨_, rfl⟩
      have HR5 := Lib.hid hr5
      rw [← hr5] at F5
      clear hm hlf hev hag hN1 hr5 HN
      obtain ⟨row, hrow⟩ : ∃ row, row = rowJ f 2 := ⟨_, rfl⟩
      rw [← hrow] at L F1 HA HR5
      have HF5 := Lib.hid F5
      clear hrow F5
      go_wp2
      have hwP : IntKind.i64.wrap 2 = 2 := by decide
      have K9 := L.below (undrew_r (Below.refl _ wr)) 10
      clear L
      first
        | (go_region_held3 (fun _ => True)
            (exact trivial)
            (first
              | (go_at_call 18; have hS := K10; refine (s_fold _ 0 4294967295 K10.tr).mono ?_; rw [F1.out, HA.out]; rintro e w11 ⟨rfl, hs⟩; obtain ⟨χ11, ag, ch, K11⟩ := K10.call hs; simp only [Ag.val])
              | (go_at_call 13; refine (s_putfull _ g m 1 K9 HEV.out hgl.out.1 (by decide) HM.out (by omega)).mono ?_; rintro e w10 ⟨rfl, hs⟩; obtain ⟨χ10, ag10, ch10, K10⟩ := K9.call hs)
              | (go_at_call 20; refine (s_nodes _ K9.tr).mono ?_; rintro e w9 ⟨rfl, rfl⟩)))
        | fail
      clear K9 K10 ag10 ch10 ag ch F1 HA
      go_wp2
      have K19 := K11.below (undrew_r (Below.refl _ w11)) 10
      clear K11
      have HFL : Hid (f < 4294967296) := by show _ < _; omega
      clear hg hfx hfl hqn hlg
      have HF6 : Hid (∀ r : List (Nat × Int), r.length = 2 → (agV (vals r)).c = 2) := fun r hr => by rw [agV_len, List.length_map, hr]; rfl
      first
        | (go_region_held3 (fun _ => True)
            (exact trivial)
            (first
              | (go_at_call 20; have hS := K21; refine (s_nodes _ K21.tr).mono ?_; rintro e w22 ⟨rfl, rfl⟩)
              | (go_at_call 17; have hS := K20; refine (s_kill _ 0 4294967295 K20.tr).mono ?_; rw [filter_whole K20.tr.len.2, HF6.out _ HF5.out]; rintro e w21 ⟨rfl, hs⟩; obtain ⟨χ21, -, -, K21z⟩ := K20.call hs; obtain ⟨r6, K21⟩ : ∃ r6, Lw w χ21 w21 pt 34 r6 (f :: ev) 34 := ⟨_, K21z⟩; clear hs K21z)
              | (go_at_call 20; have hS := K20; refine (s_nodes _ K20.tr).mono ?_; rintro e w20b ⟨rfl, rfl⟩)
              | (go_at_call 13; refine (s_putok _ f 0 5 K19 HEV.out HFL.out (by unfold wrap64; omega) (by decide) HLF.out (by omega)).mono ?_; rw [← HR5.out]; rintro e w20 ⟨rfl, hs⟩; obtain ⟨χ20, -, -, K20z⟩ := K19.put hs; have K20 : Lw w χ20 w20 pt 34 r5 (f :: ev) 34 := K20z; clear K20z hs)))
        | fail
      go_wp2
      go_ret
      exact ⟨rfl, K21.bel⟩


set_option maxRecDepth 100000 in
set_option maxHeartbeats 4000000 in
theorem nodes_4 (w : World) (x : Nat) (y : Int) (hx0 : x < 4294967296) (hy : bits .and .i64 y 5 = 4) :
    Calls Try.prog 7 #[.int .u32 x, .int .i64 y] w fun e w' => e = .returned (.bool true) ∧ Below w.heap.size w w' := by
  obtain ⟨q, hq⟩ : ∃ q, q = x / 16 := ⟨_, rfl⟩
  obtain ⟨f, hf⟩ : ∃ f, f = q * 2 ^ 4 := ⟨_, rfl⟩
  have hfx : bits .andNot .u32 (x : Int) 15 = (f : Int) := by
    have h1 := u32_andNot_nat x 15 hx0 (by decide)
    have h2 := mask_nat x 4 hx0 (by decide)
    have h3 : ((15 : Nat) : Int) = 15 := rfl
    rw [h3] at h1
    rw [h1, hf, hq]
    exact congrArg Nat.cast h2
  have hfl : f + 16 ≤ 4294967296 := by rw [hf, hq]; simp; omega
  have hqn : q * 2 ^ 4 + 2 ^ 4 ≤ 4294967296 := by rw [← hf]; simpa using hfl
  have HF := Lib.hid hf
  clear hq
  obtain ⟨g, hg, hgl⟩ : ∃ g : Nat, bits .xor .u32 (f : Int) 2147483648 = (g : Int) ∧ Hid (g < 4294967296 ∧ ∀ i, i < 16 → g ≠ f + i) := by
    refine ⟨f ^^^ 2147483648, u32_xor_nat f 2147483648 (by omega) (by decide), Nat.xor_lt_two_pow (n := 32) (by omega) (by decide), fun i hi e => ?_⟩
    have h1 : (f ^^^ 2147483648).testBit 31 = (f + i).testBit 31 := by rw [e]
    have h2 : (f + i).testBit 31 = f.testBit 31 := by
      rw [Nat.testBit_eq_decide_div_mod_eq, Nat.testBit_eq_decide_div_mod_eq]
      have : (f + i) / 2 ^ 31 = f / 2 ^ 31 := by rw [hf]; simp; omega
      rw [this]
    rw [Nat.testBit_xor, h2, show (2147483648 : Nat).testBit 31 = true by decide] at h1
    cases hb : f.testBit 31 <;> rw [hb] at h1 <;> simp at h1
  clear hf
  have hnj := fun j hj => nodesJ_all 4 j (by decide) hj
  have HN : Hid (∀ j, j ≤ 16 → nodesJ j ≤ 59 ∧ nodesJ 16 = 59) := fun j hj => by simpa using hnj j (by simpa using hj)
  clear hnj
  go_enter Try.func7, Try.ntmps7
  go_wp2_with fail
  refine (alive_calls _).mono ?_
  rintro e w1 ⟨rfl, hb⟩
  go_wp2_with fail
  refine (s_new w1 59 1 (fun _ => 0) (by decide) (by decide)).mono ?_
  rintro e w2 ⟨pt, χ2, rfl, -, ag, ht, hb2⟩
  have L2 := Lw.start hb (fun _ _ => rfl) ag ht hb2
  clear ag ht hb hb2
  go_wp2
  go_loopw [33] (fun i wr => ∃ (j : Nat) (χ : Col), j ≤ 16 ∧ i = .int .u32 j ∧ Lw w χ wr pt 59 (rowJ f j) ((List.range j).reverse.map (fun i => f + i)) (nodesJ j)) (fun i _ => 16 - (intOf i).toNat)
  case atStart => exact ⟨0, χ2, by omega, rfl, L2⟩
  case round =>
    obtain ⟨j, χ, hj, rfl, L⟩ := hrel
    by_cases hlt : j < 16
    · have hfj : ((f : Int) + (j : Int)) % 4294967296 = ((f + j : Nat) : Int) := by omega
      have hm : lackL ((List.range j).reverse.map (fun i => f + i)) (f + j) = lackL (List.range j).reverse j := by
        rw [HF.out]
        exact lackL_shift _ (fun k hk => by simp at hk ⊢; omega) (by simpa using hlt) hqn
      have hn := (HN.out (j + 1) hlt).1
      have hev : ∀ k ∈ (List.range j).reverse.map (fun i => f + i), k < 4294967296 := fun k hk => by simp at hk; obtain ⟨i, hi, rfl⟩ := hk; omega
      have HM := Lib.hid hm
      have hn2 : nodesJ j + lackL (List.range j).reverse j ≤ 59 := hn
      have HE : Hid ((List.range (j + 1)).reverse.map (fun i => f + i) = (f + j) :: (List.range j).reverse.map (fun i => f + i)) := by show _ = _; rw [HF.out]; exact evJ q 4 j
      clear hm hn
      have HEV := Lib.hid hev
      clear hev
      go_wp2_with fail
      refine (s_putok wr (f + j) (lackL (List.range j).reverse j) 1 L HEV.out (by omega) (by unfold wrap64; omega) (by decide) HM.out (by omega)).mono ?_
      rw [rowJ_succ]
      rintro e w3 ⟨rfl, hs⟩
      obtain ⟨χ3, -, -, L3⟩ := L.put hs
      rw [← HE.out] at L3
      clear L hs
      go_wp2
      refine ⟨⟨j + 1, χ3, hlt, by go_num, L3⟩, by simp [intOf]; omega⟩
    · have hjp : j = 16 := by omega
      subst hjp
      obtain ⟨N1, hN1⟩ : ∃ N1, N1 = nodesJ 16 := ⟨_, rfl⟩
      have hnl : N1 = 59 := by rw [hN1]; exact (HN.out 16 (Nat.le_refl _)).2
      rw [← hN1] at L
      subst hnl
      obtain ⟨ev, hev⟩ : ∃ ev, ev = (List.range 16).reverse.map (fun i => f + i) := ⟨_, rfl⟩
      have HEV : Hid (∀ k ∈ ev, k < 4294967296) := fun k hk => by rw [hev] at hk; simp at hk; obtain ⟨i, hi, rfl⟩ := hk; omega
      have hlg : 1 ≤ lackL ev g := lackL_pos (fun hm => by rw [hev] at hm; obtain ⟨i, hi, e⟩ := List.mem_map.1 hm; exact hgl.out.2 i (List.mem_range.1 (List.mem_reverse.1 hi)) e.symm) HEV.out hgl.out.1
      have hlf : lackL ev f = 0 := lackL_mem (by rw [hev]; simp)
      rw [← hev] at L
      obtain ⟨m, hm⟩ : ∃ m, lackL ev g = m := ⟨_, rfl⟩
      rw [hm] at hlg
      have HM := Lib.hid hm
      have HLF := Lib.hid hlf
      have F1 : Hid ((rowJ f 16).filter (inS 0 4294967295) = rowJ f 16) := filter_whole L.tr.len.2
      obtain ⟨mn, mx, hag⟩ := agV_form (rowJ f 16)
      rw [rowJ_len, rowJ_sum] at hag
      have HA : Hid (agV (vals (rowJ f 16)) = ⟨16, 16, mn, mx⟩) := by show _ = _; rw [hag]; unfold wrap64; simp
      have F5 := rowJ_five f 16 (by decide)
      obtain ⟨r5, hr5⟩ : ∃ r5, r5 = putL f 5 (rowJ f 16) := ⟨_, rfl⟩
      have HR5 := Lib.hid hr5
      rw [← hr5] at F5
      clear hm hlf hev hag hN1 hr5 HN
      obtain ⟨row, hrow⟩ : ∃ row, row = rowJ f 16 := ⟨_, rfl⟩
      rw [← hrow] at L F1 HA HR5
      have HF5 := Lib.hid F5
      clear hrow F5
      go_wp2
      have hwP : IntKind.i64.wrap 16 = 16 := by decide
      have K9 := L.below (undrew_r (Below.refl _ wr)) 10
      clear L
      first
        | (go_region_held3 (fun _ => True)
            (exact trivial)
            (first
              | (go_at_call 18; have hS := K10; refine (s_fold _ 0 4294967295 K10.tr).mono ?_; rw [F1.out, HA.out]; rintro e w11 ⟨rfl, hs⟩; obtain ⟨χ11, ag, ch, K11⟩ := K10.call hs; simp only [Ag.val])
              | (go_at_call 13; refine (s_putfull _ g m 1 K9 HEV.out hgl.out.1 (by decide) HM.out (by omega)).mono ?_; rintro e w10 ⟨rfl, hs⟩; obtain ⟨χ10, ag10, ch10, K10⟩ := K9.call hs)
              | (go_at_call 20; refine (s_nodes _ K9.tr).mono ?_; rintro e w9 ⟨rfl, rfl⟩)))
        | fail
      clear K9 K10 ag10 ch10 ag ch F1 HA
      go_wp2
      have K19 := K11.below (undrew_r (Below.refl _ w11)) 10
      clear K11
      have HFL : Hid (f < 4294967296) := by show _ < _; omega
      clear hg hfx hfl hqn hlg
      have HF6 : Hid (∀ r : List (Nat × Int), r.length = 16 → (agV (vals r)).c = 16) := fun r hr => by rw [agV_len, List.length_map, hr]; rfl
      first
        | (go_region_held3 (fun _ => True)
            (exact trivial)
            (first
              | (go_at_call 20; have hS := K21; refine (s_nodes _ K21.tr).mono ?_; rintro e w22 ⟨rfl, rfl⟩)
              | (go_at_call 17; have hS := K20; refine (s_kill _ 0 4294967295 K20.tr).mono ?_; rw [filter_whole K20.tr.len.2, HF6.out _ HF5.out]; rintro e w21 ⟨rfl, hs⟩; obtain ⟨χ21, -, -, K21z⟩ := K20.call hs; obtain ⟨r6, K21⟩ : ∃ r6, Lw w χ21 w21 pt 59 r6 (f :: ev) 59 := ⟨_, K21z⟩; clear hs K21z)
              | (go_at_call 20; have hS := K20; refine (s_nodes _ K20.tr).mono ?_; rintro e w20b ⟨rfl, rfl⟩)
              | (go_at_call 13; refine (s_putok _ f 0 5 K19 HEV.out HFL.out (by unfold wrap64; omega) (by decide) HLF.out (by omega)).mono ?_; rw [← HR5.out]; rintro e w20 ⟨rfl, hs⟩; obtain ⟨χ20, -, -, K20z⟩ := K19.put hs; have K20 : Lw w χ20 w20 pt 59 r5 (f :: ev) 59 := K20z; clear K20z hs)))
        | fail
      go_wp2
      go_ret
      exact ⟨rfl, K21.bel⟩


set_option maxRecDepth 100000 in
set_option maxHeartbeats 4000000 in
theorem nodes_5 (w : World) (x : Nat) (y : Int) (hx0 : x < 4294967296) (hy : bits .and .i64 y 5 = 5) :
    Calls Try.prog 7 #[.int .u32 x, .int .i64 y] w fun e w' => e = .returned (.bool true) ∧ Below w.heap.size w w' := by
  obtain ⟨q, hq⟩ : ∃ q, q = x / 32 := ⟨_, rfl⟩
  obtain ⟨f, hf⟩ : ∃ f, f = q * 2 ^ 5 := ⟨_, rfl⟩
  have hfx : bits .andNot .u32 (x : Int) 31 = (f : Int) := by
    have h1 := u32_andNot_nat x 31 hx0 (by decide)
    have h2 := mask_nat x 5 hx0 (by decide)
    have h3 : ((31 : Nat) : Int) = 31 := rfl
    rw [h3] at h1
    rw [h1, hf, hq]
    exact congrArg Nat.cast h2
  have hfl : f + 32 ≤ 4294967296 := by rw [hf, hq]; simp; omega
  have hqn : q * 2 ^ 5 + 2 ^ 5 ≤ 4294967296 := by rw [← hf]; simpa using hfl
  have HF := Lib.hid hf
  clear hq
  obtain ⟨g, hg, hgl⟩ : ∃ g : Nat, bits .xor .u32 (f : Int) 2147483648 = (g : Int) ∧ Hid (g < 4294967296 ∧ ∀ i, i < 32 → g ≠ f + i) := by
    refine ⟨f ^^^ 2147483648, u32_xor_nat f 2147483648 (by omega) (by decide), Nat.xor_lt_two_pow (n := 32) (by omega) (by decide), fun i hi e => ?_⟩
    have h1 : (f ^^^ 2147483648).testBit 31 = (f + i).testBit 31 := by rw [e]
    have h2 : (f + i).testBit 31 = f.testBit 31 := by
      rw [Nat.testBit_eq_decide_div_mod_eq, Nat.testBit_eq_decide_div_mod_eq]
      have : (f + i) / 2 ^ 31 = f / 2 ^ 31 := by rw [hf]; simp; omega
      rw [this]
    rw [Nat.testBit_xor, h2, show (2147483648 : Nat).testBit 31 = true by decide] at h1
    cases hb : f.testBit 31 <;> rw [hb] at h1 <;> simp at h1
  clear hf
  have hnj := fun j hj => nodesJ_all 5 j (by decide) hj
  have HN : Hid (∀ j, j ≤ 32 → nodesJ j ≤ 90 ∧ nodesJ 32 = 90) := fun j hj => by simpa using hnj j (by simpa using hj)
  clear hnj
  go_enter Try.func7, Try.ntmps7
  go_wp2_with fail
  refine (alive_calls _).mono ?_
  rintro e w1 ⟨rfl, hb⟩
  go_wp2_with fail
  refine (s_new w1 90 1 (fun _ => 0) (by decide) (by decide)).mono ?_
  rintro e w2 ⟨pt, χ2, rfl, -, ag, ht, hb2⟩
  have L2 := Lw.start hb (fun _ _ => rfl) ag ht hb2
  clear ag ht hb hb2
  go_wp2
  go_loopw [33] (fun i wr => ∃ (j : Nat) (χ : Col), j ≤ 32 ∧ i = .int .u32 j ∧ Lw w χ wr pt 90 (rowJ f j) ((List.range j).reverse.map (fun i => f + i)) (nodesJ j)) (fun i _ => 32 - (intOf i).toNat)
  case atStart => exact ⟨0, χ2, by omega, rfl, L2⟩
  case round =>
    obtain ⟨j, χ, hj, rfl, L⟩ := hrel
    by_cases hlt : j < 32
    · have hfj : ((f : Int) + (j : Int)) % 4294967296 = ((f + j : Nat) : Int) := by omega
      have hm : lackL ((List.range j).reverse.map (fun i => f + i)) (f + j) = lackL (List.range j).reverse j := by
        rw [HF.out]
        exact lackL_shift _ (fun k hk => by simp at hk ⊢; omega) (by simpa using hlt) hqn
      have hn := (HN.out (j + 1) hlt).1
      have hev : ∀ k ∈ (List.range j).reverse.map (fun i => f + i), k < 4294967296 := fun k hk => by simp at hk; obtain ⟨i, hi, rfl⟩ := hk; omega
      have HM := Lib.hid hm
      have hn2 : nodesJ j + lackL (List.range j).reverse j ≤ 90 := hn
      have HE : Hid ((List.range (j + 1)).reverse.map (fun i => f + i) = (f + j) :: (List.range j).reverse.map (fun i => f + i)) := by show _ = _; rw [HF.out]; exact evJ q 5 j
      clear hm hn
      have HEV := Lib.hid hev
      clear hev
      go_wp2_with fail
      refine (s_putok wr (f + j) (lackL (List.range j).reverse j) 1 L HEV.out (by omega) (by unfold wrap64; omega) (by decide) HM.out (by omega)).mono ?_
      rw [rowJ_succ]
      rintro e w3 ⟨rfl, hs⟩
      obtain ⟨χ3, -, -, L3⟩ := L.put hs
      rw [← HE.out] at L3
      clear L hs
      go_wp2
      refine ⟨⟨j + 1, χ3, hlt, by go_num, L3⟩, by simp [intOf]; omega⟩
    · have hjp : j = 32 := by omega
      subst hjp
      obtain ⟨N1, hN1⟩ : ∃ N1, N1 = nodesJ 32 := ⟨_, rfl⟩
      have hnl : N1 = 90 := by rw [hN1]; exact (HN.out 32 (Nat.le_refl _)).2
      rw [← hN1] at L
      subst hnl
      obtain ⟨ev, hev⟩ : ∃ ev, ev = (List.range 32).reverse.map (fun i => f + i) := ⟨_, rfl⟩
      have HEV : Hid (∀ k ∈ ev, k < 4294967296) := fun k hk => by rw [hev] at hk; simp at hk; obtain ⟨i, hi, rfl⟩ := hk; omega
      have hlg : 1 ≤ lackL ev g := lackL_pos (fun hm => by rw [hev] at hm; obtain ⟨i, hi, e⟩ := List.mem_map.1 hm; exact hgl.out.2 i (List.mem_range.1 (List.mem_reverse.1 hi)) e.symm) HEV.out hgl.out.1
      have hlf : lackL ev f = 0 := lackL_mem (by rw [hev]; simp)
      rw [← hev] at L
      obtain ⟨m, hm⟩ : ∃ m, lackL ev g = m := ⟨_, rfl⟩
      rw [hm] at hlg
      have HM := Lib.hid hm
      have HLF := Lib.hid hlf
      have F1 : Hid ((rowJ f 32).filter (inS 0 4294967295) = rowJ f 32) := filter_whole L.tr.len.2
      obtain ⟨mn, mx, hag⟩ := agV_form (rowJ f 32)
      rw [rowJ_len, rowJ_sum] at hag
      have HA : Hid (agV (vals (rowJ f 32)) = ⟨32, 32, mn, mx⟩) := by show _ = _; rw [hag]; unfold wrap64; simp
      have F5 := rowJ_five f 32 (by decide)
      obtain ⟨r5, hr5⟩ : ∃ r5, r5 = putL f 5 (rowJ f 32) := ⟨_, rfl⟩
      have HR5 := Lib.hid hr5
      rw [← hr5] at F5
      clear hm hlf hev hag hN1 hr5 HN
      obtain ⟨row, hrow⟩ : ∃ row, row = rowJ f 32 := ⟨_, rfl⟩
      rw [← hrow] at L F1 HA HR5
      have HF5 := Lib.hid F5
      clear hrow F5
      go_wp2
      have hwP : IntKind.i64.wrap 32 = 32 := by decide
      have K9 := L.below (undrew_r (Below.refl _ wr)) 10
      clear L
      first
        | (go_region_held3 (fun _ => True)
            (exact trivial)
            (first
              | (go_at_call 18; have hS := K10; refine (s_fold _ 0 4294967295 K10.tr).mono ?_; rw [F1.out, HA.out]; rintro e w11 ⟨rfl, hs⟩; obtain ⟨χ11, ag, ch, K11⟩ := K10.call hs; simp only [Ag.val])
              | (go_at_call 13; refine (s_putfull _ g m 1 K9 HEV.out hgl.out.1 (by decide) HM.out (by omega)).mono ?_; rintro e w10 ⟨rfl, hs⟩; obtain ⟨χ10, ag10, ch10, K10⟩ := K9.call hs)
              | (go_at_call 20; refine (s_nodes _ K9.tr).mono ?_; rintro e w9 ⟨rfl, rfl⟩)))
        | fail
      clear K9 K10 ag10 ch10 ag ch F1 HA
      go_wp2
      have K19 := K11.below (undrew_r (Below.refl _ w11)) 10
      clear K11
      have HFL : Hid (f < 4294967296) := by show _ < _; omega
      clear hg hfx hfl hqn hlg
      have HF6 : Hid (∀ r : List (Nat × Int), r.length = 32 → (agV (vals r)).c = 32) := fun r hr => by rw [agV_len, List.length_map, hr]; rfl
      first
        | (go_region_held3 (fun _ => True)
            (exact trivial)
            (first
              | (go_at_call 20; have hS := K21; refine (s_nodes _ K21.tr).mono ?_; rintro e w22 ⟨rfl, rfl⟩)
              | (go_at_call 17; have hS := K20; refine (s_kill _ 0 4294967295 K20.tr).mono ?_; rw [filter_whole K20.tr.len.2, HF6.out _ HF5.out]; rintro e w21 ⟨rfl, hs⟩; obtain ⟨χ21, -, -, K21z⟩ := K20.call hs; obtain ⟨r6, K21⟩ : ∃ r6, Lw w χ21 w21 pt 90 r6 (f :: ev) 90 := ⟨_, K21z⟩; clear hs K21z)
              | (go_at_call 20; have hS := K20; refine (s_nodes _ K20.tr).mono ?_; rintro e w20b ⟨rfl, rfl⟩)
              | (go_at_call 13; refine (s_putok _ f 0 5 K19 HEV.out HFL.out (by unfold wrap64; omega) (by decide) HLF.out (by omega)).mono ?_; rw [← HR5.out]; rintro e w20 ⟨rfl, hs⟩; obtain ⟨χ20, -, -, K20z⟩ := K19.put hs; have K20 : Lw w χ20 w20 pt 90 r5 (f :: ev) 90 := K20z; clear K20z hs)))
        | fail
      go_wp2
      go_ret
      exact ⟨rfl, K21.bel⟩


theorem nodes_law (w : World) (x y : Int) (hx : (Lit.int .u32 x).wf = true) (_hy : (Lit.int .i64 y).wf = true) :
    Calls Try.prog 7 #[.int .u32 x, .int .i64 y] w fun e w' => e = .returned (.bool true) ∧ Below w.heap.size w w' := by
  obtain ⟨x, rfl, hx2⟩ := u32_nat hx
  rcases i64_and5 y with h | h | h | h
  · exact nodes_0 w x y hx2 h
  · exact nodes_1 w x y hx2 h
  · exact nodes_4 w x y hx2 h
  · exact nodes_5 w x y hx2 h
end Go.Proofs.Ytcdldjiogoapkaa
