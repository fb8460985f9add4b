import Derived.Test.YtddpnldgfdooiaaTkO
namespace Go.Proofs.Ytddpnldgfdooiaa
open Go.RowKit Go.Maps
attribute [local go_sem] World.cell?_alloc_some frozen_alloc_some

/-! TokenSweeps. -/
/-- The first k sessions, opened till lst. -/
def KeysOk (F : Int → Option Ses) (k : Nat) (lst : Int) : Prop := ∀ x s, F x = some s → 1 ≤ x ∧ x ≤ k ∧ 0 ≤ s.2.2 ∧ s.2.2 ≤ lst ∧ s.2.1 = s.2.2
theorem swF_some {F : Int → Option Ses} {i a n x : Int} {s : Ses} (h : swF F i a n x = some s) : F x = some s ∧ endM i a s n = false := by
  unfold swF delF at h
  cases hF : F x with
  | none => rw [hF] at h; simp [Option.filter] at h
  | some t =>
    rw [hF] at h
    simp only [Option.filter] at h
    split at h
    · rename_i h2
      cases h
      exact ⟨rfl, by simpa using h2⟩
    · cases h
theorem swF_keep {F : Int → Option Ses} {i a n x : Int} {s : Ses} (h : F x = some s) (h2 : endM i a s n = false) : swF F i a n x = some s := by
  unfold swF delF
  rw [h]; simp [Option.filter, h2]
theorem swF_gone {F : Int → Option Ses} {i a n x : Int} (h : ∀ s, F x = some s → endM i a s n = true) : swF F i a n x = none := by
  unfold swF delF
  cases hF : F x with
  | none => rfl
  | some s => simp [Option.filter, h s hF]
theorem KeysOk.sw {F : Int → Option Ses} {k : Nat} {lst : Int} (h : KeysOk F k lst) (i a n : Int) : KeysOk (swF F i a n) k lst := fun x s e => h x s (swF_some e).1
theorem KeysOk.up {F : Int → Option Ses} {k : Nat} {lst l2 : Int} (h : KeysOk F k lst) (p : Int) (h0 : 0 ≤ l2) (hl : lst ≤ l2) : KeysOk (upd F ((k : Int) + 1) (p, l2, l2)) (k + 1) l2 := fun x s e => by
  by_cases hx : x = (k : Int) + 1
  · subst hx
    rw [upd_at] at e
    cases e
    simp; omega
  · rw [upd_ne _ hx] at e
    have := h x s e
    omega
theorem KeysOk.card {F : Int → Option Ses} {k : Nat} {lst : Int} (h : KeysOk F k lst) {m : Nat} (hc : Card F m) : m ≤ k := by
  obtain ⟨ks, h1, h2, h3⟩ := hc
  have := nodup_le h1 (m := (List.range k).map fun (j : Nat) => ((j : Int) + 1)) fun x hx => by
    obtain ⟨s, hs⟩ := Option.isSome_iff_exists.1 ((h2 x).1 hx)
    have := h x s hs
    exact List.mem_map.2 ⟨(x - 1).toNat, List.mem_range.2 (by omega), by omega⟩
  simp at this
  omega
theorem KeysOk.next {F : Int → Option Ses} {k : Nat} {lst : Int} (h : KeysOk F k lst) : F ((k : Int) + 1) = none := by
  cases hF : F ((k : Int) + 1) with
  | none => rfl
  | some s => have := h _ _ hF; omega
/-- how many of the first k are there. -/
def cntF (F : Int → Option Ses) (k : Nat) : Nat := (List.range k).countP fun (j : Nat) => (F ((j : Int) + 1)).isSome
theorem cntF_succ (F : Int → Option Ses) (k : Nat) : cntF F (k + 1) = cntF F k + if (F ((k : Int) + 1)).isSome = true then 1 else 0 := by
  unfold cntF
  rw [List.range_succ, List.countP_append, List.countP_singleton]
theorem KeysOk.cnt {F : Int → Option Ses} {k : Nat} {lst : Int} (h : KeysOk F k lst) : Card F (cntF F k) := by
  refine ⟨((List.range k).filter fun (j : Nat) => (F ((j : Int) + 1)).isSome).map fun (j : Nat) => ((j : Int) + 1), ?_, fun x => ?_, by rw [List.length_map, ← List.countP_eq_length_filter]; rfl⟩
  · rw [List.nodup_iff_pairwise_ne, List.pairwise_map]
    exact (List.nodup_range.filter _).imp fun h e => h (by omega)
  · rw [List.mem_map]
    constructor
    · rintro ⟨j, hj, rfl⟩
      exact (List.mem_filter.1 hj).2
    · intro hx
      obtain ⟨s, hs⟩ := Option.isSome_iff_exists.1 hx
      have := h x s hs
      refine ⟨(x - 1).toNat, List.mem_filter.2 ⟨List.mem_range.2 (by omega), ?_⟩, by omega⟩
      rw [show (((x - 1).toNat : Nat) : Int) + 1 = x by omega]; exact hx
theorem keysOk_nil (lst : Int) : KeysOk nilF 0 lst := fun x s e => by simp [nilF] at e
theorem u64_wf {k : Nat} (hk : k ≤ 1000) : (Lit.int .u64 ((k : Int) + 1)).wf = true := by simp [Lit.wf, show IntKind.u64.min = 0 by decide, show IntKind.u64.max = 18446744073709551615 by decide]; omega
theorem open_next (W : World) {tb mb n : Nat} {i : Int} {F : Int → Option Ses} (h : TabAt W tb mb n 8 i 1000 F) {k : Nat} {lst : Int} (HK : KeysOk F k lst) (hk : k < 8) (hn : n ≤ k) (l2 : Int) (h0 : 0 ≤ l2) (hl : l2 ≤ 255) :
    Calls Try.prog 10 #[.pointer (some ⟨tb, 0, none⟩), .int .i64 k, .int .u64 ((k : Int) + 1), .int .i64 l2] W fun e w' => e = .returned (.int .i64 0) ∧ TabAt w' tb mb (k + 1) 8 i 1000 (upd (swF F i 1000 l2) ((k : Int) + 1) (k, l2, l2)) ∧ W.grownBy w' (some mb) := by
  have HK2 := HK.sw i 1000 l2
  exact (open_yes W h (by omega) k ((k : Int) + 1) l2 (by unfold I64; omega) (u64_wf (by omega)) (by unfold I64; omega) (by omega) HK2.next HK2.cnt (by have := HK2.card HK2.cnt; omega)).mono fun e w' ⟨h1, h2, h3⟩ => ⟨h1, h2.mono (by omega), h3⟩
theorem swF_idem (F : Int → Option Ses) (i a n : Int) : swF (swF F i a n) i a n = swF F i a n := by
  funext x
  cases hF : swF F i a n x with
  | none => exact swF_gone fun s hs => by rw [hF] at hs; cases hs
  | some s => exact swF_keep hF (swF_some hF).2
theorem swF_zero {F : Int → Option Ses} {k : Nat} {lst i : Int} (h : KeysOk F k lst) (hi : 1 ≤ i) : swF F i 1000 0 = F := by
  funext x
  cases hF : F x with
  | none => exact swF_gone fun s hs => by rw [hF] at hs; cases hs
  | some s => exact swF_keep hF (endM_false (by have := h x s hF; omega) (by have := h x s hF; omega))
theorem sweep_at (W : World) {tb mb n : Nat} {i now : Int} {F G : Int → Option Ses} (h : TabAt W tb mb n 8 i 1000 F) (hn : n ≤ 100) (hnow : I64 now) (hG : swF F i 1000 now = G) {c c' : Nat} (hc : Card F c) (hc' : Card G c') (d : Int) (hd : (c : Int) - c' = d) :
    Calls Try.prog 14 #[.pointer (some ⟨tb, 0, none⟩), .int .i64 now] W fun e w' => e = .returned (.int .i64 d) ∧ TabAt w' tb mb n 8 i 1000 G ∧ W.grownBy w' (some mb) :=
  (sweep_calls W h (by omega) now hnow).mono fun e w' ⟨a, b, h1, h2, h3, h4, h5⟩ => by
    rw [hG] at h2 h4
    rw [h3, h1.uniq hc fun _ => rfl, h2.uniq hc' fun _ => rfl, hd]
    exact ⟨rfl, h4, h5⟩
theorem len_at (W : World) {tb mb n : Nat} {most idle abs : Int} {F : Int → Option Ses} (h : TabAt W tb mb n most idle abs F) {c : Nat} (hc : Card F c) :
    Calls Try.prog 13 #[.pointer (some ⟨tb, 0, none⟩)] W fun e w' => e = .returned (.int .i64 c) ∧ w' = W :=
  (len_calls W h).mono fun e w' ⟨a, h1, _, h3, h4⟩ => by rw [h3, h1.uniq hc fun _ => rfl]; exact ⟨rfl, h4⟩
set_option maxRecDepth 100000 in
set_option maxHeartbeats 8000000 in
theorem sweeps_law (w : World) (v : Value) (ts : List Int) (idle now : Int) (hts : IsI 0 (fun _ => 0) w v ts) (_ : (Lit.int .i64 idle).wf = true) (_ : (Lit.int .i64 now).wf = true) :
    Calls Try.prog 6 #[v, .int .i64 idle, .int .i64 now] w fun e w' => e = .returned (.bool true) ∧ Below w.heap.size w w' := by
  obtain ⟨A, c, rfl, s1, s2, s3, -⟩ := id hts
  unfold maxLen at s2
  have HS := Lib.hid hts
  clear hts
  obtain ⟨i, hi, i1, i2⟩ : ∃ i, wrap64 (1 + bits .and .i64 idle 63) = i ∧ 1 ≤ i ∧ i ≤ 64 := by
    rw [and63]
    have := Int.emod_nonneg idle (show (64 : Int) ≠ 0 by omega)
    have := Int.emod_lt_of_pos idle (show (0 : Int) < 64 by omega)
    exact ⟨1 + idle % 64, by unfold wrap64; omega, by omega, by omega⟩
  obtain ⟨nw, hnw, w1, w2⟩ : ∃ nw, bits .and .i64 now 511 = nw ∧ 0 ≤ nw ∧ nw ≤ 511 := by
    rw [and511]
    have := Int.emod_nonneg now (show (512 : Int) ≠ 0 by omega)
    have := Int.emod_lt_of_pos now (show (0 : Int) < 512 by omega)
    exact ⟨_, rfl, by omega, by omega⟩
  have HOK : Hid (newOk 8 i 1000) := by show newOk _ _ _; unfold newOk; omega
  go_enter Try.func6, Try.ntmps6
  go_wp2_with fail
  refine (alive_calls _).mono ?_
  rintro e wa ⟨rfl, B1⟩
  by_cases h8 : 8 < ts.length
  · go_wp2
    go_ret
    exact ⟨rfl, B1⟩
  go_wp2_with fail
  refine (new_at _ 8 i 1000 HOK.out).mono ?_
  rintro e wb ⟨ta, ma, rfl, T2, b2, m1, m2⟩
  have hB := B1.size
  have hma : w.heap.size ≤ ma := by omega
  have hta := T2.lt
  have B2 := B1.trans (b2.mono hB)
  clear b2 m1 m2 hB B1
  go_wp2_with fail
  refine (new_at _ 8 i 1000 HOK.out).mono ?_
  rintro e wc ⟨tb, mb, rfl, U3, b3, m1, m2⟩
  have T3 := T2.below b3
  have hB := B2.size
  have B3 := B2.trans (b3.mono hB)
  have hmb : w.heap.size ≤ mb := by omega
  have n1 : ta ≠ mb := by omega
  have n2 : ma ≠ mb := by omega
  have n3 : tb ≠ ma := by omega
  clear b3 m1 m2 hB B2 T2 hta
  go_wp2
  go_loopw [12, 45] (fun la iv wr => ∃ (k na nb : Nat) (lst : Int) (F : Int → Option Ses), k ≤ ts.length ∧ iv = .int .i64 k ∧ la = .int .i64 lst ∧ 0 ≤ lst ∧ lst ≤ 255 ∧ na ≤ k ∧ nb ≤ k ∧ Hid (KeysOk F k lst) ∧ TabAt wr ta ma na 8 i 1000 F ∧ TabAt wr tb mb nb 8 i 1000 F ∧ Below w.heap.size w wr) (fun _ iv _ => ts.length - (intOf iv).toNat)
  case atStart => exact ⟨0, 0, 0, 0, nilF, by omega, rfl, rfl, by omega, by omega, by omega, by omega, keysOk_nil 0, T3, U3, B3⟩
  case round =>
    clear T3 U3 B3
    obtain ⟨k, na, nb, lst, F, hk, rfl, rfl, l1, l2, hna, hnb, HK, hT, hU, hB⟩ := hrel
    by_cases hlt : k < ts.length
    · obtain ⟨b1, o1, rfl, hc1⟩ := HS.out.getI k hlt
      have hc2 := (World.cell?_of_block (hB.block b1 (World.block_lt_of_cell? _ _ hc1))).trans hc1
      obtain ⟨t, ht⟩ : ∃ t, t = ts[k] := ⟨_, rfl⟩
      rw [← ht] at hc2
      clear hc1 ht
      obtain ⟨tt, htt, t1, t2⟩ : ∃ tt, bits .and .i64 t 255 = tt ∧ 0 ≤ tt ∧ tt ≤ 255 := by
        rw [and255]
        have := Int.emod_nonneg t (show (256 : Int) ≠ 0 by omega)
        have := Int.emod_lt_of_pos t (show (0 : Int) < 256 by omega)
        exact ⟨_, rfl, by omega, by omega⟩
      go_wp2_with fail
      all_goals
        refine (open_next _ hT HK.out (by omega) hna _ (by omega) (by omega)).mono ?_
        rintro e w5 ⟨rfl, T5, g5⟩
        have U5 := hU.kept g5 n3 (Ne.symm n2)
        have B5 := grownS hB g5 hma (Nat.le_refl _)
        clear hT hU g5 hB
        go_wp2_with fail
        refine (open_next _ U5 HK.out (by omega) hnb _ (by omega) (by omega)).mono ?_
        rintro e w6 ⟨rfl, U6, g6⟩
        have T6 := T5.kept g6 n1 n2
        have B6 := grownS B5 g6 hmb (Nat.le_refl _)
        clear T5 U5 g6 B5
        go_wp2
        exact ⟨⟨k + 1, _, _, _, _, hlt, by go_num, rfl, by omega, by omega, by omega, by omega, (HK.out.sw _ _ _).up _ (by omega) (by omega), T6, U6, B6⟩, by simp [intOf]; omega⟩
    · have hke : k = ts.length := by omega
      subst hke
      have HCF := Lib.hid HK.out.cnt
      have hcf := HK.out.card HCF.out
      by_cases hm : lst ≤ nw
      · have HCG := Lib.hid (HK.out.sw i 1000 nw).cnt
        have HZ : Hid (swF (swF F i 1000 nw) i 1000 0 = swF F i 1000 nw) := swF_zero (HK.out.sw i 1000 nw) i1
        have hcg := (HK.out.sw i 1000 nw).card HCG.out
        obtain ⟨cg, hcg2⟩ : ∃ cg, cg = cntF (swF F i 1000 nw) ts.length := ⟨_, rfl⟩
        obtain ⟨cf, hcf2⟩ : ∃ cf, cf = cntF F ts.length := ⟨_, rfl⟩
        have HCGE := Lib.hid hcg2
        rw [← hcg2] at HCG hcg
        rw [← hcf2] at HCF hcf
        obtain ⟨d, hd⟩ : ∃ d, (cf : Int) - cg = d := ⟨_, rfl⟩
        have hw7 : wrap64 ((cf : Int) - d) = cg := by unfold wrap64; omega
        have HD := Lib.hid hd
        clear hd
        clear hcg2 hcf2
        go_wp2_with fail
        refine (len_at _ hT HCF.out).mono ?_
        rintro e w5 ⟨rfl, rfl⟩
        go_wp2_with fail
        refine (sweep_at _ hT (by omega) (by unfold I64; omega) rfl HCF.out HCG.out d HD.out).mono ?_
        rintro e w6 ⟨rfl, T6, g6⟩
        have U6 := hU.kept g6 n3 (Ne.symm n2)
        have B6 := grownS hB g6 hma (Nat.le_refl _)
        clear hT hU g6 hB
        go_wp2_with fail
        refine (len_at _ T6 HCG.out).mono ?_
        rintro e w7 ⟨rfl, rfl⟩
        go_wp2_with fail
        refine (sweep_at _ T6 (by omega) (by unfold I64; omega) (swF_idem _ _ _ _) HCG.out HCG.out 0 (by omega)).mono ?_
        rintro e w8 ⟨rfl, T8, g8⟩
        have U8 := U6.kept g8 n3 (Ne.symm n2)
        have B8 := grownS B6 g8 hma (Nat.le_refl _)
        clear T6 U6 g8 B6
        go_wp2_with fail
        refine (sweep_at _ T8 (by omega) (by unfold I64; omega) HZ.out HCG.out HCG.out 0 (by omega)).mono ?_
        rintro e w9 ⟨rfl, T9, g9⟩
        have U9 := U8.kept g9 n3 (Ne.symm n2)
        have B9 := grownS B8 g9 hma (Nat.le_refl _)
        clear T8 U8 g9 B8
        go_wp2
        go_loopw [17, 96] (fun us iv wr => ∃ (j p1 p2 : Nat) (Fa Fb : Int → Option Ses), j ≤ ts.length ∧ iv = .int .i64 j ∧ us = .int .i64 (cntF (swF F i 1000 nw) j) ∧ p1 ≤ 8 + j ∧ p2 ≤ 8 + j ∧ Hid (∀ x, (j : Int) < x → Fa x = swF F i 1000 nw x ∧ Fb x = F x) ∧ TabAt wr ta ma p1 8 i 1000 Fa ∧ TabAt wr tb mb p2 8 i 1000 Fb ∧ Below w.heap.size w wr) (fun _ iv _ => ts.length - (intOf iv).toNat)
        case atStart => exact ⟨0, _, _, _, _, by omega, rfl, rfl, by omega, by omega, fun x _ => ⟨rfl, rfl⟩, T9, U9, B9⟩
        case round =>
          clear T9 U9 B9
          obtain ⟨j, p1, p2, Fa, Fb, hj, rfl, rfl, hp1, hp2, hF, hT, hU, hB⟩ := hrel
          by_cases hlt : j < ts.length
          · have hFx := hF.out ((j : Int) + 1) (by omega)
            have hcs := Lib.hid (cntF_succ (swF F i 1000 nw) j)
            have hcl : cntF (swF F i 1000 nw) j ≤ j := by unfold cntF; exact Nat.le_trans List.countP_le_length (by simp)
            have hF2 : ∀ (s t : Ses), Hid (∀ x, ((j + 1 : Nat) : Int) < x → upd Fa ((j : Int) + 1) s x = swF F i 1000 nw x ∧ upd Fb ((j : Int) + 1) t x = F x) := fun s t x hx => by
              rw [upd_ne _ (by omega), upd_ne _ (by omega)]; exact hF.out x (by omega)
            have hF3 : Hid (∀ x, ((j + 1 : Nat) : Int) < x → era Fa ((j : Int) + 1) x = swF F i 1000 nw x ∧ era Fb ((j : Int) + 1) x = F x) := fun x hx => by
              unfold era
              rw [if_neg (by omega), if_neg (by omega)]; exact hF.out x (by omega)
            by_cases hG : ∃ s, swF F i 1000 nw ((j : Int) + 1) = some s
            · obtain ⟨⟨p, b, l⟩, hG⟩ := hG
              obtain ⟨g1, g2⟩ := swF_some hG
              go_wp2_with fail
              refine (use_yes _ hU _ (u64_wf (by omega)) _ (by unfold I64; omega) (by omega) p b l (by rw [hFx.2]; exact g1) g2).mono ?_
              rintro e wx ⟨rfl, U1, gx⟩
              have T1 := hT.kept gx n1 n2
              have Bx := grownS hB gx hmb (Nat.le_refl _)
              clear hU hT gx hB
              go_wp2_with fail
              refine (use_yes _ T1 _ (u64_wf (by omega)) _ (by unfold I64; omega) (by omega) p b l (by rw [hFx.1]; exact hG) g2).mono ?_
              rintro e wy ⟨rfl, T2, gy⟩
              have U2 := U1.kept gy n3 (Ne.symm n2)
              have By := grownS Bx gy hma (Nat.le_refl _)
              have hc2 : Hid (cntF (swF F i 1000 nw) (j + 1) = cntF (swF F i 1000 nw) j + 1) := by show _ = _; rw [hcs.out, hG]; rfl
              clear T1 U1 gy Bx g2 g1 hG hFx hcs
              obtain ⟨cj, hcj⟩ : ∃ cj, cj = cntF (swF F i 1000 nw) j := ⟨_, rfl⟩
              rw [← hcj] at hcl hc2 ⊢
              clear hcj
              go_wp2
              exact ⟨⟨j + 1, _, _, _, _, hlt, by go_num, by rw [hc2.out]; go_num, by omega, by omega, hF2 _ _, T2, U2, By⟩, by simp [intOf]; omega⟩
            · have hGn : swF F i 1000 nw ((j : Int) + 1) = none := by
                cases hq : swF F i 1000 nw ((j : Int) + 1) with
                | none => rfl
                | some s => exact absurd ⟨s, hq⟩ hG
              go_wp2_with fail
              refine (use_no _ hU _ (u64_wf (by omega)) _ (by unfold I64; omega) (fun s hs => by
                rw [hFx.2] at hs
                cases he : endM i 1000 s nw with
                | true => rfl
                | false => exact absurd ⟨s, swF_keep hs he⟩ hG)).mono ?_
              rintro e wx ⟨rfl, U1, gx⟩
              have T1 := hT.kept gx n1 n2
              have Bx := grownS hB gx hmb (Nat.le_refl _)
              clear hU hT gx hB
              go_wp2_with fail
              refine (use_no _ T1 _ (u64_wf (by omega)) _ (by unfold I64; omega) (fun s hs => by rw [hFx.1, hGn] at hs; cases hs)).mono ?_
              rintro e wy ⟨rfl, T2, gy⟩
              have U2 := U1.kept gy n3 (Ne.symm n2)
              have By := grownS Bx gy hma (Nat.le_refl _)
              have hc2 : Hid (cntF (swF F i 1000 nw) (j + 1) = cntF (swF F i 1000 nw) j) := by show _ = _; rw [hcs.out, hGn]; rfl
              clear T1 U1 gy Bx hG hGn hFx hcs
              obtain ⟨cj, hcj⟩ : ∃ cj, cj = cntF (swF F i 1000 nw) j := ⟨_, rfl⟩
              rw [← hcj] at hcl hc2 ⊢
              clear hcj
              go_wp2
              exact ⟨⟨j + 1, _, _, _, _, hlt, by go_num, by rw [hc2.out], by omega, by omega, hF3, T2, U2, By⟩, by simp [intOf]; omega⟩
          · have hje : j = ts.length := by omega
            subst hje
            rw [← HCGE.out]
            go_wp2
            go_ret
            exact ⟨rfl, hB⟩
      · have HCG := Lib.hid (HK.out.sw i 1000 lst).cnt
        have HZ : Hid (swF (swF F i 1000 lst) i 1000 0 = swF F i 1000 lst) := swF_zero (HK.out.sw i 1000 lst) i1
        have hcg := (HK.out.sw i 1000 lst).card HCG.out
        obtain ⟨cg, hcg2⟩ : ∃ cg, cg = cntF (swF F i 1000 lst) ts.length := ⟨_, rfl⟩
        obtain ⟨cf, hcf2⟩ : ∃ cf, cf = cntF F ts.length := ⟨_, rfl⟩
        have HCGE := Lib.hid hcg2
        rw [← hcg2] at HCG hcg
        rw [← hcf2] at HCF hcf
        obtain ⟨d, hd⟩ : ∃ d, (cf : Int) - cg = d := ⟨_, rfl⟩
        have hw7 : wrap64 ((cf : Int) - d) = cg := by unfold wrap64; omega
        have HD := Lib.hid hd
        clear hd
        clear hcg2 hcf2
        go_wp2_with fail
        refine (len_at _ hT HCF.out).mono ?_
        rintro e w5 ⟨rfl, rfl⟩
        go_wp2_with fail
        refine (sweep_at _ hT (by omega) (by unfold I64; omega) rfl HCF.out HCG.out d HD.out).mono ?_
        rintro e w6 ⟨rfl, T6, g6⟩
        have U6 := hU.kept g6 n3 (Ne.symm n2)
        have B6 := grownS hB g6 hma (Nat.le_refl _)
        clear hT hU g6 hB
        go_wp2_with fail
        refine (len_at _ T6 HCG.out).mono ?_
        rintro e w7 ⟨rfl, rfl⟩
        go_wp2_with fail
        refine (sweep_at _ T6 (by omega) (by unfold I64; omega) (swF_idem _ _ _ _) HCG.out HCG.out 0 (by omega)).mono ?_
        rintro e w8 ⟨rfl, T8, g8⟩
        have U8 := U6.kept g8 n3 (Ne.symm n2)
        have B8 := grownS B6 g8 hma (Nat.le_refl _)
        clear T6 U6 g8 B6
        go_wp2_with fail
        refine (sweep_at _ T8 (by omega) (by unfold I64; omega) HZ.out HCG.out HCG.out 0 (by omega)).mono ?_
        rintro e w9 ⟨rfl, T9, g9⟩
        have U9 := U8.kept g9 n3 (Ne.symm n2)
        have B9 := grownS B8 g9 hma (Nat.le_refl _)
        clear T8 U8 g9 B8
        go_wp2
        go_loopw [17, 96] (fun us iv wr => ∃ (j p1 p2 : Nat) (Fa Fb : Int → Option Ses), j ≤ ts.length ∧ iv = .int .i64 j ∧ us = .int .i64 (cntF (swF F i 1000 lst) j) ∧ p1 ≤ 8 + j ∧ p2 ≤ 8 + j ∧ Hid (∀ x, (j : Int) < x → Fa x = swF F i 1000 lst x ∧ Fb x = F x) ∧ TabAt wr ta ma p1 8 i 1000 Fa ∧ TabAt wr tb mb p2 8 i 1000 Fb ∧ Below w.heap.size w wr) (fun _ iv _ => ts.length - (intOf iv).toNat)
        case atStart => exact ⟨0, _, _, _, _, by omega, rfl, rfl, by omega, by omega, fun x _ => ⟨rfl, rfl⟩, T9, U9, B9⟩
        case round =>
          clear T9 U9 B9
          obtain ⟨j, p1, p2, Fa, Fb, hj, rfl, rfl, hp1, hp2, hF, hT, hU, hB⟩ := hrel
          by_cases hlt : j < ts.length
          · have hFx := hF.out ((j : Int) + 1) (by omega)
            have hcs := Lib.hid (cntF_succ (swF F i 1000 lst) j)
            have hcl : cntF (swF F i 1000 lst) j ≤ j := by unfold cntF; exact Nat.le_trans List.countP_le_length (by simp)
            have hF2 : ∀ (s t : Ses), Hid (∀ x, ((j + 1 : Nat) : Int) < x → upd Fa ((j : Int) + 1) s x = swF F i 1000 lst x ∧ upd Fb ((j : Int) + 1) t x = F x) := fun s t x hx => by
              rw [upd_ne _ (by omega), upd_ne _ (by omega)]; exact hF.out x (by omega)
            have hF3 : Hid (∀ x, ((j + 1 : Nat) : Int) < x → era Fa ((j : Int) + 1) x = swF F i 1000 lst x ∧ era Fb ((j : Int) + 1) x = F x) := fun x hx => by
              unfold era
              rw [if_neg (by omega), if_neg (by omega)]; exact hF.out x (by omega)
            by_cases hG : ∃ s, swF F i 1000 lst ((j : Int) + 1) = some s
            · obtain ⟨⟨p, b, l⟩, hG⟩ := hG
              obtain ⟨g1, g2⟩ := swF_some hG
              go_wp2_with fail
              refine (use_yes _ hU _ (u64_wf (by omega)) _ (by unfold I64; omega) (by omega) p b l (by rw [hFx.2]; exact g1) g2).mono ?_
              rintro e wx ⟨rfl, U1, gx⟩
              have T1 := hT.kept gx n1 n2
              have Bx := grownS hB gx hmb (Nat.le_refl _)
              clear hU hT gx hB
              go_wp2_with fail
              refine (use_yes _ T1 _ (u64_wf (by omega)) _ (by unfold I64; omega) (by omega) p b l (by rw [hFx.1]; exact hG) g2).mono ?_
              rintro e wy ⟨rfl, T2, gy⟩
              have U2 := U1.kept gy n3 (Ne.symm n2)
              have By := grownS Bx gy hma (Nat.le_refl _)
              have hc2 : Hid (cntF (swF F i 1000 lst) (j + 1) = cntF (swF F i 1000 lst) j + 1) := by show _ = _; rw [hcs.out, hG]; rfl
              clear T1 U1 gy Bx g2 g1 hG hFx hcs
              obtain ⟨cj, hcj⟩ : ∃ cj, cj = cntF (swF F i 1000 lst) j := ⟨_, rfl⟩
              rw [← hcj] at hcl hc2 ⊢
              clear hcj
              go_wp2
              exact ⟨⟨j + 1, _, _, _, _, hlt, by go_num, by rw [hc2.out]; go_num, by omega, by omega, hF2 _ _, T2, U2, By⟩, by simp [intOf]; omega⟩
            · have hGn : swF F i 1000 lst ((j : Int) + 1) = none := by
                cases hq : swF F i 1000 lst ((j : Int) + 1) with
                | none => rfl
                | some s => exact absurd ⟨s, hq⟩ hG
              go_wp2_with fail
              refine (use_no _ hU _ (u64_wf (by omega)) _ (by unfold I64; omega) (fun s hs => by
                rw [hFx.2] at hs
                cases he : endM i 1000 s lst with
                | true => rfl
                | false => exact absurd ⟨s, swF_keep hs he⟩ hG)).mono ?_
              rintro e wx ⟨rfl, U1, gx⟩
              have T1 := hT.kept gx n1 n2
              have Bx := grownS hB gx hmb (Nat.le_refl _)
              clear hU hT gx hB
              go_wp2_with fail
              refine (use_no _ T1 _ (u64_wf (by omega)) _ (by unfold I64; omega) (fun s hs => by rw [hFx.1, hGn] at hs; cases hs)).mono ?_
              rintro e wy ⟨rfl, T2, gy⟩
              have U2 := U1.kept gy n3 (Ne.symm n2)
              have By := grownS Bx gy hma (Nat.le_refl _)
              have hc2 : Hid (cntF (swF F i 1000 lst) (j + 1) = cntF (swF F i 1000 lst) j) := by show _ = _; rw [hcs.out, hGn]; rfl
              clear T1 U1 gy Bx hG hGn hFx hcs
              obtain ⟨cj, hcj⟩ : ∃ cj, cj = cntF (swF F i 1000 lst) j := ⟨_, rfl⟩
              rw [← hcj] at hcl hc2 ⊢
              clear hcj
              go_wp2
              exact ⟨⟨j + 1, _, _, _, _, hlt, by go_num, by rw [hc2.out], by omega, by omega, hF3, T2, U2, By⟩, by simp [intOf]; omega⟩
          · have hje : j = ts.length := by omega
            subst hje
            rw [← HCGE.out]
            go_wp2
            go_ret
            exact ⟨rfl, hB⟩
end Go.Proofs.Ytddpnldgfdooiaa
