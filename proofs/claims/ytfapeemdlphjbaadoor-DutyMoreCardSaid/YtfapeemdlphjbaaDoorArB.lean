import Derived.Test.YtfapeemdlphjbaaDoorArA
namespace Go.Proofs.YtfapeemdlphjbaaDoor
open Go.RowKit
attribute [local go_sem] World.cell?_alloc_some frozen_alloc_some

set_option maxRecDepth 100000 in
set_option maxHeartbeats 4000000 in
theorem each_union (w : World) (v u : Value) (a b : Ar) (na nb : Nat) (ha : RdA w v a) (hb : RdA w u b) (la : a.length ≤ 100) (lb : b.length ≤ 100) (sa : Sm na a) (sb : Sm nb b) (hna : na ≤ 450) (hnb : nb ≤ 450) :
    Calls Tryd.prog 23 #[v, u, .func (.func 45) #[] #[]] w fun e w' => ∃ v' r, e = .returned v' ∧ RdA w' v' r ∧ r.length = max a.length b.length ∧ (∀ i, IsSet (fun k => Mem k (atA a i) ∨ Mem k (atA b i)) (atA r i)) ∧ Sm (na + nb + 1) r ∧ Below w.heap.size w w' := by
  obtain ⟨A, cap, rfl, a1, a2, a3, -⟩ := id ha
  obtain ⟨B, bcap, rfl, b1, b2, b3, -⟩ := id hb
  unfold maxLen at a2 b2
  have HA := Lib.hid ha
  have HB := Lib.hid hb
  have SA := Lib.hid sa
  have SB := Lib.hid sb
  clear ha hb sa sb
  obtain ⟨N, hN⟩ : ∃ N, N = max a.length b.length := ⟨_, rfl⟩
  have hN1 : N ≤ 100 := by omega
  have HN := Lib.hid hN
  have hNc : max (a.length : Int) (b.length : Int) = (N : Int) := by omega
  rw [← hN]
  clear hN
  obtain ⟨i0, hi0, hz0, hz1, hz2⟩ := info_parts infoSl
  go_enter Tryd.func23, Tryd.ntmps23
  go_wp2
  clear hNc
  go_loopw [7, 14] (fun o i wr => ∃ (k : Nat) (χ : Col) (r : Ar), k ≤ N ∧ i = .int .i64 k ∧ r.length = k ∧ OwnA w.heap.size χ wr o r ∧ Hid (∀ i, i < k → IsSet (fun k => Mem k (atA a i) ∨ Mem k (atA b i)) (atA r i)) ∧ Hid (Sm (na + nb + 1) r) ∧ Below w.heap.size w wr) (fun _ i _ => N - (intOf i).toNat)
  case atStart => exact ⟨0, fun _ => 0, [], by omega, rfl, rfl, ⟨[], World.ownsRow_nil _ _ _ _, fun b e => (by cases e), fun i hi => by simp at hi⟩, fun i hi => by omega, fun l hl => by simp at hl, Below.refl _ _⟩
  case round =>
    obtain ⟨k, χ, r, hk, rfl, hrl, O, HS, HM, hbr⟩ := hrel
    by_cases hlt : k < N
    · have HAr := Lib.hid (HA.out.keep hbr)
      have HBr := Lib.hid (HB.out.keep hbr)
      have HO := Lib.hid O
      have hal := SA.out.at k
      have hbl := SB.out.at k
      have HRL := Lib.hid hrl
      have hrk : r.length ≤ 100 := by omega
      obtain ⟨vs0, o0, -⟩ := id O
      obtain ⟨A0, c0, rfl⟩ := owns_form o0
      clear O o0 hrl
      go_wp2_with fail
      refine (at_calls _ _ _ k HAr.out).mono ?_
      rintro e w1 ⟨u1, A1, c1, rfl, rfl, R1, rfl⟩
      have HR1 := Lib.hid R1
      clear R1
      go_wp2_with fail
      refine (at_calls _ _ _ k HBr.out).mono ?_
      rintro e w1 ⟨u2, A2, c2, rfl, rfl, R2, rfl⟩
      have HR2 := Lib.hid R2
      clear R2
      go_wp2_with fail
      refine (union_calls _ _ _ _ _ HR1.out HR2.out (by omega) (by omega)).mono ?_
      rintro e w5 ⟨v5, l5, rfl, N5, hset, hl5, hb5⟩
      obtain ⟨A5, c5, rfl⟩ := N5.form
      have O5 := HO.out.keep (χ' := paint χ wr.heap.size 2) (Same.below 2 hb5)
      have I5 := N5.col (c := 2) (χ := paint χ wr.heap.size 2) (fun b hb => paint_high hb)
      obtain ⟨vs, o1, o2, o3⟩ := O5
      have HS5 := Lib.hid hset
      have hz5 := hb5.size
      have hz0' := hbr.size
      have hbw := hbr.trans (hb5.mono hbr.size)
      clear N5 hset HO hb5
      go_wp2_with (at_builtin; refine wpList_append_own_at _ rfl _ _ 29 rfl w.heap.size 45 i0 _ 1 24 Tryd.underlying29 hi0 hz0 hz1 hz2 rfl (by decide) _ _ _ rfl (o1.alloc _) ⟨w5.heap.size, 0, none⟩ 1 1 [.slice A5 l5.length c5] rfl rfl (World.news_of_block (heap_alloc_new w5 _)) (by simp [Value.oneCell']) (by unfold maxLen; omega) (by omega) (by simp; omega) ?_; intro v' w6 hown' hgrow _ hat)
      have hb6 := hbw.trans (push_base o1 hgrow (N := w.heap.size) (Nat.le_refl _) (by omega))
      have O6 := OwnA.push o1 o2 o3 I5 hown' hgrow hat
      refine ⟨⟨k + 1, _, r ++ [l5], hlt, by go_num, by have := HRL.out; simp; omega, O6, fun i hi => ?_, fun l hl => ?_, hb6⟩, by simp [intOf]; omega⟩
      · by_cases hik : i < k
        · have e : atA (r ++ [l5]) i = atA r i := by unfold atA; simp [List.getElem?_append_left (show i < r.length by have := HRL.out; omega)]
          rw [e]; exact HS.out i hik
        · have hie : i = r.length := by have := HRL.out; omega
          have e : atA (r ++ [l5]) i = l5 := by unfold atA; simp [hie]
          have hke : i = k := by have := HRL.out; omega
          rw [e, hke]; exact HS5.out
      · rcases List.mem_append.1 hl with h | h
        · exact HM.out l h
        · simp at h; subst h; omega
    · have hkN : k = N := by omega
      have hR : Hid (RdA wr _ r) := O.rd (by omega)
      have hfin : Hid (∀ i, IsSet (fun k => Mem k (atA a i) ∨ Mem k (atA b i)) (atA r i)) := by
        intro i
        by_cases hik : i < k
        · exact HS.out i hik
        · rw [atA_ge (a := r) (by omega), atA_ge (a := a) (by have := HN.out; omega), atA_ge (a := b) (by have := HN.out; omega)]
          exact ⟨NF.nil, fun k => by have := @mem_nil k; grind⟩
      obtain ⟨vs0, o0, -⟩ := id O
      obtain ⟨A0, c0, rfl⟩ := owns_form o0
      have HRL := Lib.hid hrl
      clear O o0 hkN hrl
      go_wp2
      go_ret
      exact ⟨_, r, rfl, hR.out, by have := HRL.out; omega, hfin.out, HM.out, hbr⟩
theorem area_union (w : World) (v u : Value) (a b : Ar) (na nb : Nat) (ha : RdA w v a) (hb : RdA w u b) (la : a.length ≤ 100) (lb : b.length ≤ 100) (sa : Sm na a) (sb : Sm nb b) (hna : na ≤ 450) (hnb : nb ≤ 450) :
    Calls Tryd.prog 36 #[v, u] w fun e w' => ∃ v' r, e = .returned v' ∧ RdA w' v' r ∧ r.length = max a.length b.length ∧ (∀ i, IsSet (fun k => Mem k (atA a i) ∨ Mem k (atA b i)) (atA r i)) ∧ Sm (na + nb + 1) r ∧ Below w.heap.size w w' := by
  have HA := Lib.hid ha
  have HB := Lib.hid hb
  clear ha hb
  have HC := Lib.hid (each_union w v u a b na nb HA.out HB.out la lb sa sb hna hnb)
  clear sa sb hna hnb
  go_enter Tryd.func36, Tryd.ntmps36
  go_wp2_with fail
  refine HC.out.mono ?_
  rintro e w1 ⟨v1, r, rfl, R1, hrl, hset, hsm, hb1⟩
  obtain ⟨A1, c1, rfl, -⟩ := id R1
  have HR1 := Lib.hid R1
  have HS := Lib.hid hset
  have HM := Lib.hid hsm
  have HL := Lib.hid hrl
  clear R1 hset hsm hrl
  go_wp2
  go_ret
  exact ⟨_, r, rfl, HR1.out, HL.out, HS.out, HM.out, hb1⟩

set_option maxRecDepth 100000 in
set_option maxHeartbeats 4000000 in
theorem each_meet (w : World) (v u : Value) (a b : Ar) (na nb : Nat) (ha : RdA w v a) (hb : RdA w u b) (la : a.length ≤ 100) (lb : b.length ≤ 100) (sa : Sm na a) (sb : Sm nb b) (hna : na ≤ 450) (hnb : nb ≤ 450) :
    Calls Tryd.prog 23 #[v, u, .func (.func 24) #[] #[]] w fun e w' => ∃ v' r, e = .returned v' ∧ RdA w' v' r ∧ r.length = max a.length b.length ∧ (∀ i, IsSet (fun k => Mem k (atA a i) ∧ Mem k (atA b i)) (atA r i)) ∧ Sm (na + nb + 1) r ∧ Below w.heap.size w w' := by
  obtain ⟨A, cap, rfl, a1, a2, a3, -⟩ := id ha
  obtain ⟨B, bcap, rfl, b1, b2, b3, -⟩ := id hb
  unfold maxLen at a2 b2
  have HA := Lib.hid ha
  have HB := Lib.hid hb
  have SA := Lib.hid sa
  have SB := Lib.hid sb
  clear ha hb sa sb
  obtain ⟨N, hN⟩ : ∃ N, N = max a.length b.length := ⟨_, rfl⟩
  have hN1 : N ≤ 100 := by omega
  have HN := Lib.hid hN
  have hNc : max (a.length : Int) (b.length : Int) = (N : Int) := by omega
  rw [← hN]
  clear hN
  obtain ⟨i0, hi0, hz0, hz1, hz2⟩ := info_parts infoSl
  go_enter Tryd.func23, Tryd.ntmps23
  go_wp2
  clear hNc
  go_loopw [7, 14] (fun o i wr => ∃ (k : Nat) (χ : Col) (r : Ar), k ≤ N ∧ i = .int .i64 k ∧ r.length = k ∧ OwnA w.heap.size χ wr o r ∧ Hid (∀ i, i < k → IsSet (fun k => Mem k (atA a i) ∧ Mem k (atA b i)) (atA r i)) ∧ Hid (Sm (na + nb + 1) r) ∧ Below w.heap.size w wr) (fun _ i _ => N - (intOf i).toNat)
  case atStart => exact ⟨0, fun _ => 0, [], by omega, rfl, rfl, ⟨[], World.ownsRow_nil _ _ _ _, fun b e => (by cases e), fun i hi => by simp at hi⟩, fun i hi => by omega, fun l hl => by simp at hl, Below.refl _ _⟩
  case round =>
    obtain ⟨k, χ, r, hk, rfl, hrl, O, HS, HM, hbr⟩ := hrel
    by_cases hlt : k < N
    · have HAr := Lib.hid (HA.out.keep hbr)
      have HBr := Lib.hid (HB.out.keep hbr)
      have HO := Lib.hid O
      have hal := SA.out.at k
      have hbl := SB.out.at k
      have HRL := Lib.hid hrl
      have hrk : r.length ≤ 100 := by omega
      obtain ⟨vs0, o0, -⟩ := id O
      obtain ⟨A0, c0, rfl⟩ := owns_form o0
      clear O o0 hrl
      go_wp2_with fail
      refine (at_calls _ _ _ k HAr.out).mono ?_
      rintro e w1 ⟨u1, A1, c1, rfl, rfl, R1, rfl⟩
      have HR1 := Lib.hid R1
      clear R1
      go_wp2_with fail
      refine (at_calls _ _ _ k HBr.out).mono ?_
      rintro e w1 ⟨u2, A2, c2, rfl, rfl, R2, rfl⟩
      have HR2 := Lib.hid R2
      clear R2
      go_wp2_with fail
      refine (meet_calls _ _ _ _ _ HR1.out HR2.out (by omega) (by omega)).mono ?_
      rintro e w5 ⟨v5, l5, rfl, N5, hset, hl5, hb5⟩
      obtain ⟨A5, c5, rfl⟩ := N5.form
      have O5 := HO.out.keep (χ' := paint χ wr.heap.size 2) (Same.below 2 hb5)
      have I5 := N5.col (c := 2) (χ := paint χ wr.heap.size 2) (fun b hb => paint_high hb)
      obtain ⟨vs, o1, o2, o3⟩ := O5
      have HS5 := Lib.hid hset
      have hz5 := hb5.size
      have hz0' := hbr.size
      have hbw := hbr.trans (hb5.mono hbr.size)
      clear N5 hset HO hb5
      go_wp2_with (at_builtin; refine wpList_append_own_at _ rfl _ _ 29 rfl w.heap.size 45 i0 _ 1 24 Tryd.underlying29 hi0 hz0 hz1 hz2 rfl (by decide) _ _ _ rfl (o1.alloc _) ⟨w5.heap.size, 0, none⟩ 1 1 [.slice A5 l5.length c5] rfl rfl (World.news_of_block (heap_alloc_new w5 _)) (by simp [Value.oneCell']) (by unfold maxLen; omega) (by omega) (by simp; omega) ?_; intro v' w6 hown' hgrow _ hat)
      have hb6 := hbw.trans (push_base o1 hgrow (N := w.heap.size) (Nat.le_refl _) (by omega))
      have O6 := OwnA.push o1 o2 o3 I5 hown' hgrow hat
      refine ⟨⟨k + 1, _, r ++ [l5], hlt, by go_num, by have := HRL.out; simp; omega, O6, fun i hi => ?_, fun l hl => ?_, hb6⟩, by simp [intOf]; omega⟩
      · by_cases hik : i < k
        · have e : atA (r ++ [l5]) i = atA r i := by unfold atA; simp [List.getElem?_append_left (show i < r.length by have := HRL.out; omega)]
          rw [e]; exact HS.out i hik
        · have hie : i = r.length := by have := HRL.out; omega
          have e : atA (r ++ [l5]) i = l5 := by unfold atA; simp [hie]
          have hke : i = k := by have := HRL.out; omega
          rw [e, hke]; exact HS5.out
      · rcases List.mem_append.1 hl with h | h
        · exact HM.out l h
        · simp at h; subst h; omega
    · have hkN : k = N := by omega
      have hR : Hid (RdA wr _ r) := O.rd (by omega)
      have hfin : Hid (∀ i, IsSet (fun k => Mem k (atA a i) ∧ Mem k (atA b i)) (atA r i)) := by
        intro i
        by_cases hik : i < k
        · exact HS.out i hik
        · rw [atA_ge (a := r) (by omega), atA_ge (a := a) (by have := HN.out; omega), atA_ge (a := b) (by have := HN.out; omega)]
          exact ⟨NF.nil, fun k => by have := @mem_nil k; grind⟩
      obtain ⟨vs0, o0, -⟩ := id O
      obtain ⟨A0, c0, rfl⟩ := owns_form o0
      have HRL := Lib.hid hrl
      clear O o0 hkN hrl
      go_wp2
      go_ret
      exact ⟨_, r, rfl, hR.out, by have := HRL.out; omega, hfin.out, HM.out, hbr⟩
theorem area_meet (w : World) (v u : Value) (a b : Ar) (na nb : Nat) (ha : RdA w v a) (hb : RdA w u b) (la : a.length ≤ 100) (lb : b.length ≤ 100) (sa : Sm na a) (sb : Sm nb b) (hna : na ≤ 450) (hnb : nb ≤ 450) :
    Calls Tryd.prog 10 #[v, u] w fun e w' => ∃ v' r, e = .returned v' ∧ RdA w' v' r ∧ r.length = max a.length b.length ∧ (∀ i, IsSet (fun k => Mem k (atA a i) ∧ Mem k (atA b i)) (atA r i)) ∧ Sm (na + nb + 1) r ∧ Below w.heap.size w w' := by
  have HA := Lib.hid ha
  have HB := Lib.hid hb
  clear ha hb
  have HC := Lib.hid (each_meet w v u a b na nb HA.out HB.out la lb sa sb hna hnb)
  clear sa sb hna hnb
  go_enter Tryd.func10, Tryd.ntmps10
  go_wp2_with fail
  refine HC.out.mono ?_
  rintro e w1 ⟨v1, r, rfl, R1, hrl, hset, hsm, hb1⟩
  obtain ⟨A1, c1, rfl, -⟩ := id R1
  have HR1 := Lib.hid R1
  have HS := Lib.hid hset
  have HM := Lib.hid hsm
  have HL := Lib.hid hrl
  clear R1 hset hsm hrl
  go_wp2
  go_ret
  exact ⟨_, r, rfl, HR1.out, HL.out, HS.out, HM.out, hb1⟩

set_option maxRecDepth 100000 in
set_option maxHeartbeats 4000000 in
theorem each_minus (w : World) (v u : Value) (a b : Ar) (na nb : Nat) (ha : RdA w v a) (hb : RdA w u b) (la : a.length ≤ 100) (lb : b.length ≤ 100) (sa : Sm na a) (sb : Sm nb b) (hna : na ≤ 450) (hnb : nb ≤ 450) :
    Calls Tryd.prog 23 #[v, u, .func (.func 37) #[] #[]] w fun e w' => ∃ v' r, e = .returned v' ∧ RdA w' v' r ∧ r.length = max a.length b.length ∧ (∀ i, IsSet (fun k => Mem k (atA a i) ∧ ¬ Mem k (atA b i)) (atA r i)) ∧ Sm (na + nb + 1) r ∧ Below w.heap.size w w' := by
  obtain ⟨A, cap, rfl, a1, a2, a3, -⟩ := id ha
  obtain ⟨B, bcap, rfl, b1, b2, b3, -⟩ := id hb
  unfold maxLen at a2 b2
  have HA := Lib.hid ha
  have HB := Lib.hid hb
  have SA := Lib.hid sa
  have SB := Lib.hid sb
  clear ha hb sa sb
  obtain ⟨N, hN⟩ : ∃ N, N = max a.length b.length := ⟨_, rfl⟩
  have hN1 : N ≤ 100 := by omega
  have HN := Lib.hid hN
  have hNc : max (a.length : Int) (b.length : Int) = (N : Int) := by omega
  rw [← hN]
  clear hN
  obtain ⟨i0, hi0, hz0, hz1, hz2⟩ := info_parts infoSl
  go_enter Tryd.func23, Tryd.ntmps23
  go_wp2
  clear hNc
  go_loopw [7, 14] (fun o i wr => ∃ (k : Nat) (χ : Col) (r : Ar), k ≤ N ∧ i = .int .i64 k ∧ r.length = k ∧ OwnA w.heap.size χ wr o r ∧ Hid (∀ i, i < k → IsSet (fun k => Mem k (atA a i) ∧ ¬ Mem k (atA b i)) (atA r i)) ∧ Hid (Sm (na + nb + 1) r) ∧ Below w.heap.size w wr) (fun _ i _ => N - (intOf i).toNat)
  case atStart => exact ⟨0, fun _ => 0, [], by omega, rfl, rfl, ⟨[], World.ownsRow_nil _ _ _ _, fun b e => (by cases e), fun i hi => by simp at hi⟩, fun i hi => by omega, fun l hl => by simp at hl, Below.refl _ _⟩
  case round =>
    obtain ⟨k, χ, r, hk, rfl, hrl, O, HS, HM, hbr⟩ := hrel
    by_cases hlt : k < N
    · have HAr := Lib.hid (HA.out.keep hbr)
      have HBr := Lib.hid (HB.out.keep hbr)
      have HO := Lib.hid O
      have hal := SA.out.at k
      have hbl := SB.out.at k
      have HRL := Lib.hid hrl
      have hrk : r.length ≤ 100 := by omega
      obtain ⟨vs0, o0, -⟩ := id O
      obtain ⟨A0, c0, rfl⟩ := owns_form o0
      clear O o0 hrl
      go_wp2_with fail
      refine (at_calls _ _ _ k HAr.out).mono ?_
      rintro e w1 ⟨u1, A1, c1, rfl, rfl, R1, rfl⟩
      have HR1 := Lib.hid R1
      clear R1
      go_wp2_with fail
      refine (at_calls _ _ _ k HBr.out).mono ?_
      rintro e w1 ⟨u2, A2, c2, rfl, rfl, R2, rfl⟩
      have HR2 := Lib.hid R2
      clear R2
      go_wp2_with fail
      refine (minus_calls _ _ _ _ _ HR1.out HR2.out (by omega) (by omega)).mono ?_
      rintro e w5 ⟨v5, l5, rfl, N5, hset, hl5, hb5⟩
      obtain ⟨A5, c5, rfl⟩ := N5.form
      have O5 := HO.out.keep (χ' := paint χ wr.heap.size 2) (Same.below 2 hb5)
      have I5 := N5.col (c := 2) (χ := paint χ wr.heap.size 2) (fun b hb => paint_high hb)
      obtain ⟨vs, o1, o2, o3⟩ := O5
      have HS5 := Lib.hid hset
      have hz5 := hb5.size
      have hz0' := hbr.size
      have hbw := hbr.trans (hb5.mono hbr.size)
      clear N5 hset HO hb5
      go_wp2_with (at_builtin; refine wpList_append_own_at _ rfl _ _ 29 rfl w.heap.size 45 i0 _ 1 24 Tryd.underlying29 hi0 hz0 hz1 hz2 rfl (by decide) _ _ _ rfl (o1.alloc _) ⟨w5.heap.size, 0, none⟩ 1 1 [.slice A5 l5.length c5] rfl rfl (World.news_of_block (heap_alloc_new w5 _)) (by simp [Value.oneCell']) (by unfold maxLen; omega) (by omega) (by simp; omega) ?_; intro v' w6 hown' hgrow _ hat)
      have hb6 := hbw.trans (push_base o1 hgrow (N := w.heap.size) (Nat.le_refl _) (by omega))
      have O6 := OwnA.push o1 o2 o3 I5 hown' hgrow hat
      refine ⟨⟨k + 1, _, r ++ [l5], hlt, by go_num, by have := HRL.out; simp; omega, O6, fun i hi => ?_, fun l hl => ?_, hb6⟩, by simp [intOf]; omega⟩
      · by_cases hik : i < k
        · have e : atA (r ++ [l5]) i = atA r i := by unfold atA; simp [List.getElem?_append_left (show i < r.length by have := HRL.out; omega)]
          rw [e]; exact HS.out i hik
        · have hie : i = r.length := by have := HRL.out; omega
          have e : atA (r ++ [l5]) i = l5 := by unfold atA; simp [hie]
          have hke : i = k := by have := HRL.out; omega
          rw [e, hke]; exact HS5.out
      · rcases List.mem_append.1 hl with h | h
        · exact HM.out l h
        · simp at h; subst h; omega
    · have hkN : k = N := by omega
      have hR : Hid (RdA wr _ r) := O.rd (by omega)
      have hfin : Hid (∀ i, IsSet (fun k => Mem k (atA a i) ∧ ¬ Mem k (atA b i)) (atA r i)) := by
        intro i
        by_cases hik : i < k
        · exact HS.out i hik
        · rw [atA_ge (a := r) (by omega), atA_ge (a := a) (by have := HN.out; omega), atA_ge (a := b) (by have := HN.out; omega)]
          exact ⟨NF.nil, fun k => by have := @mem_nil k; grind⟩
      obtain ⟨vs0, o0, -⟩ := id O
      obtain ⟨A0, c0, rfl⟩ := owns_form o0
      have HRL := Lib.hid hrl
      clear O o0 hkN hrl
      go_wp2
      go_ret
      exact ⟨_, r, rfl, hR.out, by have := HRL.out; omega, hfin.out, HM.out, hbr⟩
theorem area_minus (w : World) (v u : Value) (a b : Ar) (na nb : Nat) (ha : RdA w v a) (hb : RdA w u b) (la : a.length ≤ 100) (lb : b.length ≤ 100) (sa : Sm na a) (sb : Sm nb b) (hna : na ≤ 450) (hnb : nb ≤ 450) :
    Calls Tryd.prog 26 #[v, u] w fun e w' => ∃ v' r, e = .returned v' ∧ RdA w' v' r ∧ r.length = max a.length b.length ∧ (∀ i, IsSet (fun k => Mem k (atA a i) ∧ ¬ Mem k (atA b i)) (atA r i)) ∧ Sm (na + nb + 1) r ∧ Below w.heap.size w w' := by
  have HA := Lib.hid ha
  have HB := Lib.hid hb
  clear ha hb
  have HC := Lib.hid (each_minus w v u a b na nb HA.out HB.out la lb sa sb hna hnb)
  clear sa sb hna hnb
  go_enter Tryd.func26, Tryd.ntmps26
  go_wp2_with fail
  refine HC.out.mono ?_
  rintro e w1 ⟨v1, r, rfl, R1, hrl, hset, hsm, hb1⟩
  obtain ⟨A1, c1, rfl, -⟩ := id R1
  have HR1 := Lib.hid R1
  have HS := Lib.hid hset
  have HM := Lib.hid hsm
  have HL := Lib.hid hrl
  clear R1 hset hsm hrl
  go_wp2
  go_ret
  exact ⟨_, r, rfl, HR1.out, HL.out, HS.out, HM.out, hb1⟩
end Go.Proofs.YtfapeemdlphjbaaDoor
