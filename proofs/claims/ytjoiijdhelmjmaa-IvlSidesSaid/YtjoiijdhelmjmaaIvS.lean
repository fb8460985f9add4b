import Derived.Test.YtjoiijdhelmjmaaIvL
namespace Go.Proofs.Ytjoiijdhelmjmaa
open Go.RowKit
attribute [local go_sem] World.cell?_alloc_some frozen_alloc_some

theorem szB_one (k : Nat) (h : k < 4294967296) : szB [(k, k)] = 1 := by
  rw [← szB_set (a := [(k, k)]) ⟨⟨by simp; omega, by simp⟩, fun _ => Iff.rfl⟩]; simp [sizeL]
theorem szB_nil : szB [] = 0 := by
  rw [← szB_set (a := []) ⟨NF.nil, fun _ => Iff.rfl⟩]; rfl
theorem mem_self (k : Nat) : Mem k [(k, k)] := mem_one.2 ⟨Nat.le_refl _, Nat.le_refl _⟩
theorem mem_pt {q k : Nat} : Mem q [(k, k)] ↔ q = k := by rw [mem_one]; show k ≤ q ∧ q ≤ k ↔ _; omega
theorem rdS_ati {w : World} {b : Nat} {t : TypeId} {fr : Nat × Nat} {cs : Array Value} (l : List Sp) (h : w.heap[b]? = some (.cells cs t fr)) (hc : cs = (l.flatMap spc).toArray) (hw : ∀ s ∈ l, s.1 < 4294967296 ∧ s.2 < 4294967296) (hl : l.length ≤ 1000000) (n : Nat) (hn : n = l.length) : RdS w (.slice (some ⟨b, 0, none⟩) n n) l := by
  subst hc; exact rdS_at l h hw hl n hn
set_option maxRecDepth 100000 in
set_option maxHeartbeats 32000000 in
theorem keys_yes (w : World) (v : Value) (a : List Sp) (key : Nat) (ha : RdS w v a) (la : a.length ≤ 40) (hkey : key < 4294967296) :
    Calls Try.prog 5 #[v, .int .u32 key] w fun e w' => e = .returned (.bool true) ∧ Below w.heap.size w w' := by
  obtain ⟨A_a, c_a, rfl, ka1_a, ka2_a, ka3_a, -⟩ := id ha
  unfold maxLen at ka2_a
  have HL0 : Hid (RdAll w [(.slice A_a a.length c_a, a)]) := (RdAll.nil.cons ha)
  clear ha
  go_enter Try.func5, Try.ntmps5
  go_wp2_with fail
  refine (alive_calls _).mono ?_
  rintro e W0 ⟨rfl, hbw⟩
  have HL := Lib.hid (HL0.out.keep hbw)
  have hbK := (Below.refl W0.heap.size W0).alloc (Nat.le_refl _) (.cells #[.int .u32 key, .int .u32 0, .int .u32 4294967295] 23)
  have HK : Hid (∀ j : Nat, j < 3 → ∃ k : Nat, (W0.alloc (.cells #[.int .u32 key, .int .u32 0, .int .u32 4294967295] 23)).cell? ⟨W0.heap.size, j, none⟩ = some (.int .u32 k) ∧ k < 4294967296) := by
    intro j hj
    obtain ⟨⟨x0, x1, x2⟩, -⟩ := cells3 (heap_alloc_at W0 (.cells #[.int .u32 key, .int .u32 0, .int .u32 4294967295] 23))
    have : j = 0 ∨ j = 1 ∨ j = 2 := by omega
    rcases this with rfl | rfl | rfl
    · exact ⟨key, x0, hkey⟩
    · exact ⟨0, x1, by omega⟩
    · exact ⟨4294967295, x2, by omega⟩
  have HLK := Lib.hid (HL.out.keep hbK)
  have hbw0 := hbw.trans (hbK.mono hbw.size)
  clear hbw
  go_wp2
  go_loopw [20] (fun i wr => ∃ j : Nat, j ≤ 3 ∧ i = .int .i64 j ∧ Below (W0.alloc (.cells #[.int .u32 key, .int .u32 0, .int .u32 4294967295] 23)).heap.size (W0.alloc (.cells #[.int .u32 key, .int .u32 0, .int .u32 4294967295] 23)) wr) (fun i _ => 3 - (intOf i).toNat)
  case atStart => exact ⟨0, by omega, rfl, Below.refl _ _⟩
  case round =>
    obtain ⟨j, hj, rfl, hbr⟩ := hrel
    by_cases hlt : j < 3
    · obtain ⟨k, hk0, hk⟩ := HK.out j hlt
      have hkc : wr.cell? ⟨W0.heap.size, j, none⟩ = some (.int .u32 k) := (hbr.cell (by simp)).trans hk0
      clear hk0
      have hbO := (Below.refl wr.heap.size wr).alloc (Nat.le_refl _) (.cells #[.int .u32 k, .int .u32 k] 38)
      have HO := Lib.hid (rdS_ati [(k, k)] (heap_alloc_at wr (.cells #[.int .u32 k, .int .u32 k] 38)) (by simp [spc]) (by simp; omega) (by simp) 1 rfl)
      have HL := Lib.hid (((HLK.out.keep hbr).keep hbO).cons HO.out)
      have hbw := hbr.trans (hbO.mono hbr.size)
      have SZ1 := Lib.hid (szB_one k hk)
      rcases Bool.eq_false_or_eq_true (memB k a) with ha | ha
      · have HA := Lib.hid ha
        clear ha
        go_wp2_with fail
        refine (has_calls _ _ a k (HL.out.at_ 1 rfl)).mono ?_
        rintro e W1 ⟨rfl, hb⟩
        rw [HA.out]
        have HL := Lib.hid (HL.out.keep hb)
        have hbw := hbw.trans (hb.mono hbw.size)
        clear hb
        go_wp2_with fail
        refine (union_calls _ _ _  a [(k, k)] (HL.out.at_ 1 rfl) (HL.out.at_ 0 rfl) (by first | omega | (simp; done) | (simp; omega)) (by first | omega | (simp; done) | (simp; omega))).mono ?_
        rintro e W2 ⟨vmore, more, rfl, N, hset, l_more, hb⟩
        try simp only [List.length_cons, List.length_nil] at l_more
        obtain ⟨A_more, c_more, rfl⟩ : ∃ A c, vmore = .slice A more.length c := N.form
        have HL := Lib.hid ((HL.out.keep hb).cons N.rd)
        have hbw := hbw.trans (hb.mono hbw.size)
        have S_more := Lib.hid hset
        clear hset N hb
        go_wp2_with fail
        refine (minus_calls _ _ _  a [(k, k)] (HL.out.at_ 2 rfl) (HL.out.at_ 1 rfl) (by first | omega | (simp; done) | (simp; omega)) (by first | omega | (simp; done) | (simp; omega))).mono ?_
        rintro e W3 ⟨vless, less, rfl, N, hset, l_less, hb⟩
        try simp only [List.length_cons, List.length_nil] at l_less
        obtain ⟨A_less, c_less, rfl⟩ : ∃ A c, vless = .slice A less.length c := N.form
        have HL := Lib.hid ((HL.out.keep hb).cons N.rd)
        have hbw := hbw.trans (hb.mono hbw.size)
        have S_less := Lib.hid hset
        clear hset N hb
        obtain ⟨n_a, z⟩ : ∃ n, n = szB a := ⟨_, rfl⟩
        have Z_a := Lib.hid z
        have zl_a : n_a ≤ 4294967296 := by rw [z]; exact szB_le _
        clear z
        obtain ⟨n_more, z⟩ : ∃ n, n = szB more := ⟨_, rfl⟩
        have Z_more := Lib.hid z
        have zl_more : n_more ≤ 4294967296 := by rw [z]; exact szB_le _
        clear z
        obtain ⟨n_less, z⟩ : ∃ n, n = szB less := ⟨_, rfl⟩
        have Z_less := Lib.hid z
        have zl_less : n_less ≤ 4294967296 := by rw [z]; exact szB_le _
        clear z
        have HM := Lib.hid (memB_iff.1 HA.out)
        have EQ1 := szB_congr (a := more) (b := a) fun q => by rw [S_more.out.iff, mem_pt]; have := HM.out; grind
        have EQ2 := szB_sub S_less.out (m := [(k, k)]) ⟨⟨by simp; omega, by simp⟩, fun q => by rw [mem_pt]; have := HM.out; grind⟩
        rw [← Z_more.out, ← Z_a.out] at EQ1
        rw [← Z_less.out, ← Z_a.out, SZ1.out] at EQ2
        have h1 : 1 ≤ n_a := by omega
        have E1 : ((n_more : Int) != (n_a : Int)) = false := by simp; omega
        have E2 : ((n_less : Int) != (n_a : Int) - 1) = false := by simp; omega
        clear EQ1 EQ2
        go_wp2_with fail
        refine (size2_calls _ _ a (HL.out.at_ 3 rfl) (by first | omega | (simp; done) | (simp; omega))).mono ?_
        rintro e W4 ⟨rfl, hb⟩
        have HL := Lib.hid (HL.out.keep hb)
        have hbw := hbw.trans (hb.mono hbw.size)
        clear hb
        rw [← Z_a.out]
        go_wp2_with fail
        refine (has2_calls _ _ more k (HL.out.at_ 1 rfl)).mono ?_
        rintro e W5 ⟨q, rfl, hq, hb⟩
        obtain rfl : q = true := hq.2 ((S_more.out.iff _).2 (.inr (mem_self k)))
        clear hq
        have HL := Lib.hid (HL.out.keep hb)
        have hbw := hbw.trans (hb.mono hbw.size)
        clear hb
        go_wp2_with fail
        refine (has2_calls _ _ less k (HL.out.at_ 0 rfl)).mono ?_
        rintro e W6 ⟨q, rfl, hq, hb⟩
        obtain rfl : q = false := Bool.eq_false_iff.2 fun h => (fun h => ((S_less.out.iff k).1 h).2 (mem_self k)) (hq.1 h)
        clear hq
        have HL := Lib.hid (HL.out.keep hb)
        have hbw := hbw.trans (hb.mono hbw.size)
        clear hb
        go_wp2_with fail
        refine (size2_calls _ _ more (HL.out.at_ 1 rfl) (by first | omega | (simp; done) | (simp; omega))).mono ?_
        rintro e W7 ⟨rfl, hb⟩
        have HL := Lib.hid (HL.out.keep hb)
        have hbw := hbw.trans (hb.mono hbw.size)
        clear hb
        rw [← Z_more.out]
        go_wp2_with fail
        refine (size2_calls _ _ less (HL.out.at_ 0 rfl) (by first | omega | (simp; done) | (simp; omega))).mono ?_
        rintro e W8 ⟨rfl, hb⟩
        have HL := Lib.hid (HL.out.keep hb)
        have hbw := hbw.trans (hb.mono hbw.size)
        clear hb
        rw [← Z_less.out]
        go_wp2_with fail
        refine (within_calls _ _ _ [(k, k)] a (HL.out.at_ 2 rfl) (HL.out.at_ 3 rfl) (by first | omega | (simp; done) | (simp; omega)) (by first | omega | (simp; done) | (simp; omega))).mono ?_
        rintro e W9 ⟨q, rfl, hq, hb⟩
        obtain rfl : q = true := hq.2 (fun q h => by rw [mem_pt] at h; subst h; exact HM.out)
        clear hq
        have HL := Lib.hid (HL.out.keep hb)
        have hbw := hbw.trans (hb.mono hbw.size)
        clear hb
        go_wp2
        refine ⟨⟨j + 1, by omega, by go_num, hbw⟩, by simp [intOf]; omega⟩
      · have HA := Lib.hid ha
        clear ha
        go_wp2_with fail
        refine (has_calls _ _ a k (HL.out.at_ 1 rfl)).mono ?_
        rintro e W1 ⟨rfl, hb⟩
        rw [HA.out]
        have HL := Lib.hid (HL.out.keep hb)
        have hbw := hbw.trans (hb.mono hbw.size)
        clear hb
        go_wp2_with fail
        refine (union_calls _ _ _  a [(k, k)] (HL.out.at_ 1 rfl) (HL.out.at_ 0 rfl) (by first | omega | (simp; done) | (simp; omega)) (by first | omega | (simp; done) | (simp; omega))).mono ?_
        rintro e W2 ⟨vmore, more, rfl, N, hset, l_more, hb⟩
        try simp only [List.length_cons, List.length_nil] at l_more
        obtain ⟨A_more, c_more, rfl⟩ : ∃ A c, vmore = .slice A more.length c := N.form
        have HL := Lib.hid ((HL.out.keep hb).cons N.rd)
        have hbw := hbw.trans (hb.mono hbw.size)
        have S_more := Lib.hid hset
        clear hset N hb
        go_wp2_with fail
        refine (minus_calls _ _ _  a [(k, k)] (HL.out.at_ 2 rfl) (HL.out.at_ 1 rfl) (by first | omega | (simp; done) | (simp; omega)) (by first | omega | (simp; done) | (simp; omega))).mono ?_
        rintro e W3 ⟨vless, less, rfl, N, hset, l_less, hb⟩
        try simp only [List.length_cons, List.length_nil] at l_less
        obtain ⟨A_less, c_less, rfl⟩ : ∃ A c, vless = .slice A less.length c := N.form
        have HL := Lib.hid ((HL.out.keep hb).cons N.rd)
        have hbw := hbw.trans (hb.mono hbw.size)
        have S_less := Lib.hid hset
        clear hset N hb
        obtain ⟨n_a, z⟩ : ∃ n, n = szB a := ⟨_, rfl⟩
        have Z_a := Lib.hid z
        have zl_a : n_a ≤ 4294967296 := by rw [z]; exact szB_le _
        clear z
        obtain ⟨n_more, z⟩ : ∃ n, n = szB more := ⟨_, rfl⟩
        have Z_more := Lib.hid z
        have zl_more : n_more ≤ 4294967296 := by rw [z]; exact szB_le _
        clear z
        obtain ⟨n_less, z⟩ : ∃ n, n = szB less := ⟨_, rfl⟩
        have Z_less := Lib.hid z
        have zl_less : n_less ≤ 4294967296 := by rw [z]; exact szB_le _
        clear z
        have HM : Hid (¬ Mem k a) := fun h => by rw [← memB_iff, HA.out] at h; cases h
        have EQ1 := szB_add S_more.out (m := []) ⟨NF.nil, fun q => by rw [mem_pt]; have := HM.out; have := @mem_nil q; grind⟩
        rw [← Z_more.out, ← Z_a.out, SZ1.out, szB_nil] at EQ1
        have E1 : ((n_more : Int) != (n_a : Int) + 1) = false := by simp; omega
        clear EQ1
        go_wp2_with fail
        refine (size2_calls _ _ a (HL.out.at_ 3 rfl) (by first | omega | (simp; done) | (simp; omega))).mono ?_
        rintro e W4 ⟨rfl, hb⟩
        have HL := Lib.hid (HL.out.keep hb)
        have hbw := hbw.trans (hb.mono hbw.size)
        clear hb
        rw [← Z_a.out]
        go_wp2_with fail
        refine (has2_calls _ _ more k (HL.out.at_ 1 rfl)).mono ?_
        rintro e W5 ⟨q, rfl, hq, hb⟩
        obtain rfl : q = true := hq.2 ((S_more.out.iff _).2 (.inr (mem_self k)))
        clear hq
        have HL := Lib.hid (HL.out.keep hb)
        have hbw := hbw.trans (hb.mono hbw.size)
        clear hb
        go_wp2_with fail
        refine (has2_calls _ _ less k (HL.out.at_ 0 rfl)).mono ?_
        rintro e W6 ⟨q, rfl, hq, hb⟩
        obtain rfl : q = false := Bool.eq_false_iff.2 fun h => (fun h => ((S_less.out.iff k).1 h).2 (mem_self k)) (hq.1 h)
        clear hq
        have HL := Lib.hid (HL.out.keep hb)
        have hbw := hbw.trans (hb.mono hbw.size)
        clear hb
        go_wp2_with fail
        refine (size2_calls _ _ more (HL.out.at_ 1 rfl) (by first | omega | (simp; done) | (simp; omega))).mono ?_
        rintro e W7 ⟨rfl, hb⟩
        have HL := Lib.hid (HL.out.keep hb)
        have hbw := hbw.trans (hb.mono hbw.size)
        clear hb
        rw [← Z_more.out]
        go_wp2_with fail
        refine (same2_calls _ _ _ less a (HL.out.at_ 0 rfl) (HL.out.at_ 3 rfl) (by first | omega | (simp; done) | (simp; omega)) (by first | omega | (simp; done) | (simp; omega))).mono ?_
        rintro e W8 ⟨q, rfl, hq, hb⟩
        obtain rfl : q = true := hq.2 (fun q => by rw [S_less.out.iff, mem_pt]; have := HM.out; grind)
        clear hq
        have HL := Lib.hid (HL.out.keep hb)
        have hbw := hbw.trans (hb.mono hbw.size)
        clear hb
        go_wp2_with fail
        refine (minus_calls _ _ _  more [(k, k)] (HL.out.at_ 1 rfl) (HL.out.at_ 2 rfl) (by first | omega | (simp; done) | (simp; omega)) (by first | omega | (simp; done) | (simp; omega))).mono ?_
        rintro e W9 ⟨vd, d, rfl, N, hset, l_d, hb⟩
        try simp only [List.length_cons, List.length_nil] at l_d
        obtain ⟨A_d, c_d, rfl⟩ : ∃ A c, vd = .slice A d.length c := N.form
        have HL := Lib.hid ((HL.out.keep hb).cons N.rd)
        have hbw := hbw.trans (hb.mono hbw.size)
        have S_d := Lib.hid hset
        clear hset N hb
        go_wp2_with fail
        refine (same2_calls _ _ _ d a (HL.out.at_ 0 rfl) (HL.out.at_ 4 rfl) (by first | omega | (simp; done) | (simp; omega)) (by first | omega | (simp; done) | (simp; omega))).mono ?_
        rintro e W10 ⟨q, rfl, hq, hb⟩
        obtain rfl : q = true := hq.2 (fun q => by rw [S_d.out.iff, S_more.out.iff, mem_pt]; have := HM.out; grind)
        clear hq
        have HL := Lib.hid (HL.out.keep hb)
        have hbw := hbw.trans (hb.mono hbw.size)
        clear hb
        go_wp2_with fail
        refine (within_calls _ _ _ [(k, k)] a (HL.out.at_ 3 rfl) (HL.out.at_ 4 rfl) (by first | omega | (simp; done) | (simp; omega)) (by first | omega | (simp; done) | (simp; omega))).mono ?_
        rintro e W11 ⟨q, rfl, hq, hb⟩
        obtain rfl : q = false := Bool.eq_false_iff.2 fun h => (fun h => HM.out (h k (mem_self k))) (hq.1 h)
        clear hq
        have HL := Lib.hid (HL.out.keep hb)
        have hbw := hbw.trans (hb.mono hbw.size)
        clear hb
        go_wp2
        refine ⟨⟨j + 1, by omega, by go_num, hbw⟩, by simp [intOf]; omega⟩
    · have hbb := hbw0.trans (hbr.mono hbw0.size)
      go_wp2
      go_ret
      exact ⟨rfl, hbb⟩
set_option maxRecDepth 100000 in
set_option maxHeartbeats 2000000 in
theorem keys_no (w : World) (v : Value) (a : List Sp) (key : Nat) (ha : RdS w v a) (hn : 40 < a.length) :
    Calls Try.prog 5 #[v, .int .u32 key] w fun e w' => e = .returned (.bool true) ∧ Below w.heap.size w w' := by
  obtain ⟨A_a, c_a, rfl, ka1_a, ka2_a, ka3_a, -⟩ := id ha
  unfold maxLen at ka2_a
  clear ha
  have k0 : decide ((40 : Int) < a.length) = true := by simp; omega
  clear hn
  go_enter Try.func5, Try.ntmps5
  go_wp2_with fail
  refine (alive_calls _).mono ?_
  rintro e W0 ⟨rfl, hbw⟩
  go_wp2
  go_ret
  exact ⟨rfl, hbw⟩
theorem keys_law (w : World) (v : Value) (a : List Sp) (key : Int) (ha : RdS w v a) (hk : (Lit.int .u32 key).wf = true) :
    Calls Try.prog 5 #[v, .int .u32 key] w fun e w' => e = .returned (.bool true) ∧ Below w.heap.size w w' := by
  obtain ⟨k, rfl, hk2⟩ := u32_nat hk
  by_cases h : 40 < a.length
  · exact keys_no w v a k ha h
  · exact keys_yes w v a k ha (by omega) hk2
end Go.Proofs.Ytjoiijdhelmjmaa
