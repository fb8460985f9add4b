import Derived.Test.YtjlkkbjolfhobaaDoorArV
namespace Go.Proofs.YtjlkkbjolfhobaaDoor
open Go.RowKit
attribute [local go_sem] World.cell?_alloc_some frozen_alloc_some

theorem alikeT_calls (w : World) (v u : Value) (a : Ar) (ha : RdA w v a) (hb : RdA w u a) :
    Calls Tryd.prog 11 #[v, u] w fun e w' => e = .returned (.bool true) ∧ Below w.heap.size w w' :=
  (alike_calls w v u a a ha hb).mono fun e w' ⟨h, d, hd⟩ => ⟨by rw [h, decide_eq_true rfl], by rw [hd]; exact below_drewN _ _ _⟩
theorem bld_ext {a b r : Ar} {kind : Int} (l_r : r.length = max a.length b.length) (h : ∀ i, i < max a.length b.length → atA r i = buildL (atA a i) (atA b i) kind) : bldA a b kind (max a.length b.length) = r := by
  refine ar_ext (by rw [bldA_len, l_r]) fun i hi => ?_
  rw [l_r] at hi
  rw [bldA_at i hi, h i hi]
theorem union_bld {a b r : Ar} (wa : ∀ l ∈ a, WfS l) (wb : ∀ l ∈ b, WfS l) (l_r : r.length = max a.length b.length) (h : IsU a b r) : r = bldA a b 0 (max a.length b.length) :=
  (bld_ext l_r fun i _ => (h i).eq (build0_spec (atA_wf wa i) (atA_wf wb i)) fun _ => Iff.rfl).symm
theorem meet_bld {a b r : Ar} (wa : ∀ l ∈ a, WfS l) (wb : ∀ l ∈ b, WfS l) (l_r : r.length = max a.length b.length) (h : IsM a b r) : r = bldA a b 1 (max a.length b.length) :=
  (bld_ext l_r fun i _ => (h i).eq (build1_spec (atA_wf wa i) (atA_wf wb i)) fun _ => Iff.rfl).symm
theorem minus_bld {a b r : Ar} (wa : ∀ l ∈ a, WfS l) (wb : ∀ l ∈ b, WfS l) (l_r : r.length = max a.length b.length) (h : IsD a b r) : r = bldA a b 2 (max a.length b.length) :=
  (bld_ext l_r fun i _ => (h i).eq (build2_spec (atA_wf wa i) (atA_wf wb i)) fun _ => Iff.rfl).symm
/-- the call's own row of cells. -/
def OwnC (base : Nat) (χ : Col) (w : World) (v : Value) (xs : List (Nat × Sp)) : Prop :=
  w.ownsRow base 39 3 v xs.length (xs.flatMap ccells) ∧ ∀ b, v.ownBlock = some b → χ b = 1
theorem cellsTo_len {a : Ar} (wa : ∀ l ∈ a, WfS l) (hs : Sm 20 a) (k : Nat) : (cellsTo a k).length ≤ 20 * k := by
  induction k with
  | zero => simp [cellsTo]
  | succ k ih =>
    rw [cellsTo_succ, List.length_append, List.length_map]
    have := nf_len (atA_wf wa k)
    have := hs.at k
    omega
theorem or_step (al : List (Nat × Sp)) (k : Nat) (s : Sp) : bits .or .u32 ((maskN (al.map (·.1)) : Nat) : Int) ((2 : Int) ^ k % 4294967296) = ((maskN ((al ++ [(k, s)]).map (·.1)) : Nat) : Int) := by
  have e : (2 : Int) ^ k % (4294967296 : Int) = (((1 <<< k) % 4294967296 : Nat) : Int) := by rw [Nat.one_shiftLeft]; simp
  rw [e, or_u32_nat _ _ (maskN_lt _) (Nat.mod_lt _ (by decide)), List.map_append, List.map_cons, List.map_nil, maskN_snoc]
/-- a row of cells that can be read. -/
def rCc : Rp (Nat × Sp) := fun _ _ cs x => cs = ccells x
abbrev RdC (w : World) (v : Value) (l : List (Nat × Sp)) : Prop := IsL 3 rCc 0 (fun _ => 0) w v l
theorem RdC.of_own {w : World} {v : Value} {l : List (Nat × Sp)} (h : w.ownsRow 0 39 3 v l.length (l.flatMap ccells)) (hl : l.length ≤ 1000000) : RdC w v l :=
  IsL.of_owns (by omega) h (by omega) (fun _ _ => rfl) fun i hi => flat_chunk ccells 3 (fun _ => rfl) l i hi
theorem RdC.keep {w w' : World} {v : Value} {l : List (Nat × Sp)} (h : RdC w v l) (hb : Below w.heap.size w w') : RdC w' v l :=
  IsL.keep (D := fun _ => True) (by omega) (fun _ _ _ _ _ _ h _ => h) trivial h (Same.below' hb)
theorem RdC.get {w : World} {A : Option Addr} {cap n : Nat} {l : List (Nat × Sp)} (h : RdC w (.slice A n cap) l) (i : Nat) (hi : i < l.length) :
    ∃ b o, A = some ⟨b, o, none⟩ ∧ w.cell? ⟨b, o + i * 3, none⟩ = some (.int .i64 l[i].1) ∧ w.cell? ⟨b, o + i * 3 + 1, none⟩ = some (.int .u32 l[i].2.1) ∧ w.cell? ⟨b, o + i * 3 + 2, none⟩ = some (.int .u32 l[i].2.2) := by
  obtain ⟨A', c', e, h1, h2, h3, h4⟩ := h
  cases e
  obtain ⟨b, o, cs, e, hb, hl, rfl, hc⟩ := h4 i hi
  exact ⟨b, o, e, hc 0 (by simp [ccells]), hc 1 (by simp [ccells]), hc 2 (by simp [ccells])⟩
theorem refhasq_calls (w : World) (v : Value) (a : Ar) (lab : Int) (key : Nat) (q : Bool) (hr : RdA w v a) (hk : key < 4294967296) (hq : inA a lab key = q) :
    Calls Tryd.prog 21 #[v, .agg #[.int .i64 lab, .int .u32 key]] w fun e w' => e = .returned (.bool q) ∧ Below w.heap.size w w' := by
  rw [← hq]; exact refhas_calls w v a lab key hr hk
theorem withinq_calls (w : World) (v u : Value) (a b : Ar) (q : Bool) (ha : RdA w v a) (hb : RdA w u b) (la : a.length ≤ 100) (lb : b.length ≤ 100) (sa : Sm 400 a) (sb : Sm 400 b) (hq : subB a b = q) :
    Calls Tryd.prog 22 #[v, u] w fun e w' => e = .returned (.bool q) ∧ Below w.heap.size w w' := by
  rw [← hq]; exact within_b w v u a b ha hb la lb sa sb
theorem sameq_calls (w : World) (v u : Value) (a b : Ar) (q : Bool) (ha : RdA w v a) (hb : RdA w u b) (la : a.length ≤ 100) (lb : b.length ≤ 100) (sa : Sm 400 a) (sb : Sm 400 b) (hq : (subB a b && subB b a) = q) :
    Calls Tryd.prog 24 #[v, u] w fun e w' => e = .returned (.bool q) ∧ Below w.heap.size w w' := by
  rw [← hq]; exact same_b w v u a b ha hb la lb sa sb
theorem refsameq_calls (w : World) (v u : Value) (a b : Ar) (q : Bool) (ha : RdA w v a) (hb : RdA w u b) (la : a.length ≤ 100) (lb : b.length ≤ 100) (sa : Sm 400 a) (sb : Sm 400 b) (hq : (subB a b && subB b a) = q) :
    Calls Tryd.prog 25 #[v, u] w fun e w' => e = .returned (.bool q) ∧ Below w.heap.size w w' := by
  rw [← hq]; exact refsame_calls w v u a b ha hb la lb sa sb
theorem refemptyq_calls (w : World) (v : Value) (a : Ar) (q : Bool) (hr : RdA w v a) (hs : Sm 10000 a) (hq : emptyB a = q) :
    Calls Tryd.prog 23 #[v] w fun e w' => e = .returned (.bool q) ∧ Below w.heap.size w w' := by
  rw [← hq]; exact refempty_calls w v a hr hs
theorem maskq_calls (w : World) (v : Value) (a : Ar) (m : Nat) (hr : RdA w v a) (hs : Sm 400 a) (hal : a.length ≤ 100) (hm : maskA a = m) :
    Calls Tryd.prog 27 #[v] w fun e w' => e = .returned (.int .u32 m) ∧ Below w.heap.size w w' := by
  rw [← hm]; exact maska_calls w v a hr hs hal
theorem OwnC_keep {base : Nat} {χ χ' : Col} {w w' : World} {v : Value} {xs : List (Nat × Sp)} (h : OwnC base χ w v xs) (hs : Same (· = 1) χ χ' w w') : OwnC base χ' w' v xs :=
  ⟨owns_same h.1 fun b e => (hs b (h.1.lt b e).2 (h.2 b e)).2, fun b e => ((hs b (h.1.lt b e).2 (h.2 b e)).1).trans (h.2 b e)⟩

set_option maxRecDepth 100000 in
set_option maxHeartbeats 40000000 in
theorem setsA_law (w : World) (va vb : Value) (a b : Ar) (n : Int) (mask : Nat) (lab : Int) (key : Nat) (most : Int) (ha : RdA w va a) (hbr : RdA w vb b) (hm : mask < 4294967296) (hk : key < 4294967296) (hT : Tab w) :
    Calls Tryd.prog 3 #[va, vb, .int .i64 n, .int .u32 mask, .agg #[.int .i64 lab, .int .u32 key], .int .i64 most] w fun e w' => e = .returned (.bool true) ∧ Below w.heap.size w w' := by
  obtain ⟨Aa, ca, rfl, -⟩ := id ha
  obtain ⟨Ab, cb, rfl, -⟩ := id hbr
  have hb := (Below.refl w.heap.size w).alloc (Nat.le_refl _) (.cells #[.int .i64 lab, .int .u32 key] 25)
  have HL := Lib.hid (((RdAA.nil.cons ha).cons hbr).keep hb)
  have HT := Lib.hid (hT.keep hb)
  have HC : Hid (CellC w.heap.size lab key (w.alloc (.cells #[.int .i64 lab, .int .u32 key] 25))) := (cells2 (heap_alloc_at w (.cells #[.int .i64 lab, .int .u32 key] 25))).1
  have hbw := hb
  clear ha hbr hT hb
  go_enter Tryd.func3, Tryd.ntmps3
  go_wp2_with fail
  refine (alive_calls _ HT.out).mono ?_
  rintro e W0 ⟨rfl, hb⟩
  replace HL := Lib.hid (HL.out.keep hb)
  replace HC := Lib.hid (HC.out.keep hb)
  replace HT := Lib.hid (HT.out.keep hb)
  replace hbw := hbw.trans (hb.mono hbw.size)
  clear hb
  cases fa : fewB a with
  | false =>
    go_wp2_with fail
    refine (few_calls _ _ a (HL.out.at_ 1 rfl)).mono ?_
    rw [fa]
    rintro e W0 ⟨rfl, rfl⟩
    go_wp2
    go_ret
    exact ⟨rfl, hbw⟩
  | true =>
  go_wp2_with fail
  refine (few_calls _ _ a (HL.out.at_ 1 rfl)).mono ?_
  rw [fa]
  rintro e W0 ⟨rfl, rfl⟩
  cases fb : fewB b with
  | false =>
    go_wp2_with fail
    refine (few_calls _ _ b (HL.out.at_ 0 rfl)).mono ?_
    rw [fb]
    rintro e W0 ⟨rfl, rfl⟩
    go_wp2
    go_ret
    exact ⟨rfl, hbw⟩
  | true =>
  go_wp2_with fail
  refine (few_calls _ _ b (HL.out.at_ 0 rfl)).mono ?_
  rw [fb]
  rintro e W0 ⟨rfl, rfl⟩
  have S_a : Hid (Sm 20 a) := (fewB_iff.1 fa).1
  have S_b : Hid (Sm 20 b) := (fewB_iff.1 fb).1
  have K_a : Hid (a.length ≤ 20) := (fewB_iff.1 fa).2
  have L_a : Hid (a.length ≤ 100) := Nat.le_trans (fewB_iff.1 fa).2 (by omega)
  have L_b : Hid (b.length ≤ 100) := Nat.le_trans (fewB_iff.1 fb).2 (by omega)
  have W_a := Lib.hid (rdA_wf (HL.out.at_ 1 rfl : RdA W0 _ a))
  have W_b := Lib.hid (rdA_wf (HL.out.at_ 0 rfl : RdA W0 _ b))
  clear fa fb
  go_wp2_with fail
  refine (area_union _ _ _ a b 20 20 (HL.out.at_ 1 rfl) (HL.out.at_ 0 rfl) L_a.out L_b.out S_a.out S_b.out (by omega) (by omega)).mono ?_
  rintro e W1 ⟨v_r, r, rfl, R_r, l_r, h_r, -, hb⟩
  obtain ⟨A_r, c_r, rfl, -⟩ := id R_r
  obtain rfl := union_bld W_a.out W_b.out l_r h_r
  replace HL := Lib.hid ((HL.out.keep hb).cons R_r)
  replace HC := Lib.hid (HC.out.keep hb)
  replace HT := Lib.hid (HT.out.keep hb)
  replace hbw := hbw.trans (hb.mono hbw.size)
  clear R_r l_r h_r hb
  go_wp2_with fail
  refine (refbuild_calls _ _ _ a b 0 (HL.out.at_ 2 rfl) (HL.out.at_ 1 rfl) L_a.out L_b.out (S_a.out.mono (by omega)) (S_b.out.mono (by omega)) (by omega)).mono ?_
  rintro e W2 ⟨v_s, rfl, R_s, hb⟩
  obtain ⟨A_s, c_s, rfl, -⟩ := id R_s
  replace HL := Lib.hid ((HL.out.keep hb).cons R_s)
  replace HC := Lib.hid (HC.out.keep hb)
  replace HT := Lib.hid (HT.out.keep hb)
  replace hbw := hbw.trans (hb.mono hbw.size)
  clear R_s hb
  go_wp2_with fail
  refine (alikeT_calls _ _ _ _ (HL.out.at_ 1 rfl) (HL.out.at_ 0 rfl)).mono ?_
  rintro e W3 ⟨rfl, hb⟩
  replace HL := Lib.hid ((HL.out.keep hb))
  replace HC := Lib.hid (HC.out.keep hb)
  replace HT := Lib.hid (HT.out.keep hb)
  replace hbw := hbw.trans (hb.mono hbw.size)
  clear hb
  go_wp2_with fail
  refine (area_meet _ _ _ a b 20 20 (HL.out.at_ 3 rfl) (HL.out.at_ 2 rfl) L_a.out L_b.out S_a.out S_b.out (by omega) (by omega)).mono ?_
  rintro e W4 ⟨v_r, r, rfl, R_r, l_r, h_r, -, hb⟩
  obtain ⟨A_r, c_r, rfl, -⟩ := id R_r
  obtain rfl := meet_bld W_a.out W_b.out l_r h_r
  replace HL := Lib.hid ((HL.out.keep hb).cons R_r)
  replace HC := Lib.hid (HC.out.keep hb)
  replace HT := Lib.hid (HT.out.keep hb)
  replace hbw := hbw.trans (hb.mono hbw.size)
  clear R_r l_r h_r hb
  go_wp2_with fail
  refine (refbuild_calls _ _ _ a b 1 (HL.out.at_ 4 rfl) (HL.out.at_ 3 rfl) L_a.out L_b.out (S_a.out.mono (by omega)) (S_b.out.mono (by omega)) (by omega)).mono ?_
  rintro e W5 ⟨v_s, rfl, R_s, hb⟩
  obtain ⟨A_s, c_s, rfl, -⟩ := id R_s
  replace HL := Lib.hid ((HL.out.keep hb).cons R_s)
  replace HC := Lib.hid (HC.out.keep hb)
  replace HT := Lib.hid (HT.out.keep hb)
  replace hbw := hbw.trans (hb.mono hbw.size)
  clear R_s hb
  go_wp2_with fail
  refine (alikeT_calls _ _ _ _ (HL.out.at_ 1 rfl) (HL.out.at_ 0 rfl)).mono ?_
  rintro e W6 ⟨rfl, hb⟩
  replace HL := Lib.hid ((HL.out.keep hb))
  replace HC := Lib.hid (HC.out.keep hb)
  replace HT := Lib.hid (HT.out.keep hb)
  replace hbw := hbw.trans (hb.mono hbw.size)
  clear hb
  go_wp2_with fail
  refine (area_minus _ _ _ a b 20 20 (HL.out.at_ 5 rfl) (HL.out.at_ 4 rfl) L_a.out L_b.out S_a.out S_b.out (by omega) (by omega)).mono ?_
  rintro e W7 ⟨v_r, r, rfl, R_r, l_r, h_r, -, hb⟩
  obtain ⟨A_r, c_r, rfl, -⟩ := id R_r
  obtain rfl := minus_bld W_a.out W_b.out l_r h_r
  replace HL := Lib.hid ((HL.out.keep hb).cons R_r)
  replace HC := Lib.hid (HC.out.keep hb)
  replace HT := Lib.hid (HT.out.keep hb)
  replace hbw := hbw.trans (hb.mono hbw.size)
  clear R_r l_r h_r hb
  go_wp2_with fail
  refine (refbuild_calls _ _ _ a b 2 (HL.out.at_ 6 rfl) (HL.out.at_ 5 rfl) L_a.out L_b.out (S_a.out.mono (by omega)) (S_b.out.mono (by omega)) (by omega)).mono ?_
  rintro e W8 ⟨v_s, rfl, R_s, hb⟩
  obtain ⟨A_s, c_s, rfl, -⟩ := id R_s
  replace HL := Lib.hid ((HL.out.keep hb).cons R_s)
  replace HC := Lib.hid (HC.out.keep hb)
  replace HT := Lib.hid (HT.out.keep hb)
  replace hbw := hbw.trans (hb.mono hbw.size)
  clear R_s hb
  go_wp2_with fail
  refine (alikeT_calls _ _ _ _ (HL.out.at_ 1 rfl) (HL.out.at_ 0 rfl)).mono ?_
  rintro e W9 ⟨rfl, hb⟩
  replace HL := Lib.hid ((HL.out.keep hb))
  replace HC := Lib.hid (HC.out.keep hb)
  replace HT := Lib.hid (HT.out.keep hb)
  replace hbw := hbw.trans (hb.mono hbw.size)
  clear hb
  have hl0 : Hid ((atI a 0).length ≤ 20) := by have h := S_a.out.at 0; rw [← atI_nat] at h; exact h
  go_wp2_with fail
  refine (refat_calls _ _ a 0 (HL.out.at_ 7 rfl)).mono ?_
  rintro e W9 ⟨u0, A0, c0, rfl, rfl, R0, rfl⟩
  have HR0 := Lib.hid R0
  clear R0
  go_wp2_with fail
  refine (of_calls _ n mask _ _ HR0.out (Nat.le_trans hl0.out (by omega)) hm HT.out).mono ?_
  obtain ⟨NN, hNN⟩ : ∃ NN, NN = (min (max n 0) 16).toNat := ⟨_, rfl⟩
  have hNN16 : NN ≤ 16 := by omega
  rw [← hNN]
  have HNN := Lib.hid hNN
  clear hNN
  rintro e W10 ⟨χo, rfl, O_o, hb⟩
  have R_o := O_o.rd (by rw [ofL_len]; omega)
  replace HR0 := Lib.hid (HR0.out.keep hb)
  clear O_o
  replace HL := Lib.hid ((HL.out.keep hb).cons R_o)
  replace HC := Lib.hid (HC.out.keep hb)
  replace HT := Lib.hid (HT.out.keep hb)
  replace hbw := hbw.trans (hb.mono hbw.size)
  clear R_o hb HR0
  go_wp2_with fail
  refine (refat_calls _ _ a 0 (HL.out.at_ 8 rfl)).mono ?_
  rintro e W10 ⟨u0, A0, c0, rfl, rfl, R0, rfl⟩
  have HR0 := Lib.hid R0
  clear R0
  go_wp2_with fail
  refine (refof_calls _ n mask _ _ HR0.out (Nat.le_trans hl0.out (by omega)) hm).mono ?_
  rw [← HNN.out]
  rintro e W11 ⟨v_s, rfl, R_s, hb⟩
  obtain ⟨A_s, c_s, rfl, -⟩ := id R_s
  replace HL := Lib.hid ((HL.out.keep hb).cons R_s)
  replace HC := Lib.hid (HC.out.keep hb)
  replace hbw := hbw.trans (hb.mono hbw.size)
  clear R_s hb HR0
  go_wp2_with fail
  refine (alikeT_calls _ _ _ _ (HL.out.at_ 1 rfl) (HL.out.at_ 0 rfl)).mono ?_
  rintro e W12 ⟨rfl, hb⟩
  replace HL := Lib.hid ((HL.out.keep hb))
  replace HC := Lib.hid (HC.out.keep hb)
  replace hbw := hbw.trans (hb.mono hbw.size)
  clear hb
  replace HL := Lib.hid ((RdAA.nil.cons (HL.out.at_ 9 rfl : RdA W12 _ a)).cons (HL.out.at_ 8 rfl : RdA W12 _ b))
  clear hl0 HT
  go_wp2
  obtain ⟨WB, hWB⟩ : ∃ WB, WB = W12 := ⟨_, rfl⟩
  rw [← hWB] at HL HC hbw ⊢
  clear hWB
  obtain ⟨i1, hi1, hy0, hy1, hy2⟩ := info_parts infoCell
  go_loopw [14, 15, 80] (fun al wa i wr => ∃ (k : Nat) (χ : Col), k ≤ a.length ∧ i = .int .i64 k ∧ wa = .int .u32 (maskN ((cellsTo a k).map (·.1)) : Nat) ∧ OwnC WB.heap.size χ wr al (cellsTo a k) ∧ Below WB.heap.size WB wr) (fun _ _ i _ => a.length - (intOf i).toNat)
  case atStart =>
    exact ⟨0, fun _ => 1, by omega, rfl, rfl, ⟨⟨rfl, .inr ⟨_, 0, #[], rfl, Nat.le_refl _, heap_alloc_at _ _, Nat.le_refl _, Nat.zero_le _, rfl, rfl⟩⟩, fun _ _ => rfl⟩, (Below.refl WB.heap.size WB).alloc (Nat.le_refl _) _⟩
  case round =>
    obtain ⟨k, χ, hk', rfl, rfl, O, hbr⟩ := hrel
    have HLr := Lib.hid (HL.out.keep hbr)
    obtain ⟨A9, c9, rfl⟩ := owns_form O.1
    by_cases hlt : k < a.length
    · obtain ⟨gb, go, u, rfl, hc, hu⟩ := (HLr.out.at_ 1 rfl : RdA wr _ a).get k hlt
      have hll := S_a.out.at k
      have hk20 : k < 20 := by have := K_a.out; omega
      have hka : atA a k = a[k] := atA_lt hlt
      rw [← hka] at hu
      obtain ⟨A', c', rfl, -⟩ := id hu
      have HU := Lib.hid hu
      have HCS := Lib.hid (cellsTo_succ a k)
      have HWF := Lib.hid (atA_wf W_a.out k)
      have HO := Lib.hid O
      obtain ⟨pre, hpre⟩ : ∃ pre, pre = cellsTo a k := ⟨_, rfl⟩
      rw [← hpre] at HO HCS ⊢
      have hprel : pre.length ≤ 400 := by rw [hpre]; exact (Nat.le_trans (cellsTo_len W_a.out S_a.out k) (by have := K_a.out; omega))
      clear hu hka O hpre
      go_wp2_with fail
      refine (refMake_calls _ _ _ HU.out (by omega)).mono ?_
      rintro e W20 ⟨v1, rfl, N1, hb1⟩
      obtain ⟨A1, c1, rfl⟩ := N1.form
      have N1 : NewS wr.heap.size W20 (.slice A1 (nf (atA a k)).length c1) (nf (atA a k)) := N1
      have hml : (nf (atA a k)).length ≤ 20 := Nat.le_trans (nf_len HWF.out) hll
      have hb20 := hbr.trans (hb1.mono hbr.size)
      have O1 := OwnC_keep (χ' := paint χ wr.heap.size 2) HO.out (Same.below 2 hb1)
      have I1 := N1.col (c := 2) (χ := paint χ wr.heap.size 2) (fun b hb => paint_high hb)
      obtain ⟨m, hmm⟩ : ∃ m, m = nf (atA a k) := ⟨_, rfl⟩
      rw [← hmm] at I1 hml HCS
      have HME := Lib.hid hmm
      have hst : Hid (pre ++ (m.take 0).map (fun s => (k, s)) = pre) := by show _ = _; simp
      clear HLr HU HO hb1 hbr N1
      rw [show buildL (atA a k) [] 0 = m from hmm.symm]
      clear hmm
      go_wp2
      go_loopw [14, 15, 88] (fun al wa i wr => ∃ (q : Nat) (χ : Col), q ≤ m.length ∧ i = .int .i64 q ∧ wa = .int .u32 (maskN ((pre ++ (m.take q).map fun s => (k, s)).map (·.1)) : Nat) ∧ OwnC WB.heap.size χ wr al (pre ++ (m.take q).map fun s => (k, s)) ∧ IsL 2 rSpan 2 χ wr (.slice A1 m.length c1) m ∧ Below WB.heap.size WB wr) (fun _ _ i _ => m.length - (intOf i).toNat)
      case atStart =>
        exact ⟨0, _, by omega, rfl, by rw [hst.out], by rw [hst.out]; exact O1, I1, hb20⟩
      case round =>
        clear O1 I1 hb20
        obtain ⟨wo, rfl⟩ : ∃ wo, wo = wr := ⟨_, rfl⟩
        obtain ⟨q, χ, hq', rfl, rfl, O, I, hbr⟩ := hrel
        by_cases hq : q < m.length
        · obtain ⟨gm, go2, rfl, p0, p1, s1, s2⟩ := I.blind.get q hq
          have HTK : Hid (m.take (q + 1) = m.take q ++ [m[q]]) := List.take_succ_eq_append_getElem hq
          obtain ⟨s, hs⟩ : ∃ s, s = m[q] := ⟨_, rfl⟩
          rw [← hs] at p0 p1 s1 s2 HTK
          have HO := Lib.hid O
          have HI := Lib.hid I
          obtain ⟨al, hal⟩ : ∃ al, al = pre ++ (m.take q).map fun s => (k, s) := ⟨_, rfl⟩
          have hall : al.length ≤ 420 := by rw [hal]; simp; omega
          rw [← hal] at HO ⊢
          obtain ⟨A9, c9, rfl⟩ := owns_form HO.out.1
          have hal2 : Hid (pre ++ (m.take (q + 1)).map (fun s => (k, s)) = al ++ [(k, s)]) := by show _ = _; rw [HTK.out, hal]; simp
          clear hs O I hal
          have hbA := (Below.refl wo.heap.size wo).alloc (Nat.le_refl _) (.cells #[.int .u32 s.1, .int .u32 s.2] 37)
          have hbrA := hbr.trans (hbA.mono hbr.size)
          have I2 := Lib.hid (IsL.keep (D := fun x => x = 2) (by omega) (rSpan_on _) rfl HI.out (Same.below' hbA))
          have hblk := alloc2_at wo (.cells #[.int .u32 s.1, .int .u32 s.2] 37) (.cells #[.int .i64 k, .int .u32 s.1, .int .u32 s.2] 39)
          have hown := HO.out.1.alloc (.cells #[.int .u32 s.1, .int .u32 s.2] 37)
          have hzr := hbr.size
          have hor : bits .or .u32 ((maskN (al.map (·.1)) : Nat) : Int) ((2 : Int) ^ k % 4294967296) = ((maskN ((al ++ [(k, s)]).map (·.1)) : Nat) : Int) := or_step al k s
          have HOC := Lib.hid HO.out.2
          clear HI hbA HO
          go_wp2_with (at_builtin; refine wpList_append_own_at _ rfl _ _ 34 rfl WB.heap.size 39 i1 _ 3 16 Tryd.underlying34 hi1 hy0 hy1 hy2 rfl (by decide) _ _ _ rfl (hown.alloc _) ⟨wo.heap.size + 1, 0, none⟩ 1 1 (ccells (k, s)) rfl rfl (World.news_of_block hblk) (by simp [ccells, Value.oneCell']) (by unfold maxLen; omega) (by omega) (by simp; omega) ?_; intro v' w6 hown' hgrow _ hat)
          obtain ⟨k1, k2⟩ := own_push hown HOC.out hgrow hat
          have hs2 : Same (fun x => x = 2) χ (paint χ (wo.alloc (.cells #[.int .u32 s.1, .int .u32 s.2] 37)).heap.size 1) (wo.alloc (.cells #[.int .u32 s.1, .int .u32 s.2] 37)) w6 := Same.chg 1 k2 fun x e => by omega
          have hb6 := hbrA.trans (push_base hown hgrow (N := WB.heap.size) (Nat.le_refl _) (by simp only [World.size_alloc]; omega))
          refine ⟨⟨q + 1, paint χ (wo.alloc (.cells #[.int .u32 s.1, .int .u32 s.2] 37)).heap.size 1, by omega, by go_num, by rw [hal2.out]; simp, by rw [hal2.out]; exact ⟨by simpa using hown', k1⟩, IsL.keep (D := fun x => x = 2) (by omega) (rSpan_on _) rfl I2.out hs2, hb6⟩, by simp [intOf]; omega⟩
        · have hqe : q = m.length := by omega
          subst hqe
          have hE : Hid (pre ++ (m.take m.length).map (fun s => (k, s)) = cellsTo a (k + 1)) := by show _ = _; rw [List.take_length, HCS.out]
          rw [hE.out] at O ⊢
          obtain ⟨A9, c9, rfl⟩ := owns_form O.1
          have HO := Lib.hid O
          clear O I
          go_wp2
          refine ⟨⟨k + 1, χ, hlt, by go_num, rfl, HO.out, hbr⟩, by simp [intOf]; omega⟩
    · have hke : k = a.length := by omega
      subst hke
      have O : OwnC WB.heap.size χ wr (.slice A9 (cellsL a).length c9) (cellsL a) := O
      have hcl : (cellsL a).length ≤ 400 := Nat.le_trans (cellsTo_len W_a.out S_a.out a.length) (by have := K_a.out; omega)
      have HM : Hid (maskN ((cellsL a).map (·.1)) = maskA a) := rfl
      have RC := Lib.hid (RdC.of_own (O.1.mono_base (Nat.zero_le _)) (by omega))
      replace HL := HLr
      replace HC := Lib.hid (HC.out.keep hbr)
      replace hbw := hbw.trans (hbr.mono hbw.size)
      have hcl2 : Hid ((cellsL a).length ≤ 1000000) := Nat.le_trans hcl (by omega)
      clear O HLr hbr hcl
      have E1 : Hid (maskN ((cellsTo a a.length).map (·.1)) = maskA a) := rfl
      rw [E1.out, show (cellsTo a a.length).length = (cellsL a).length from rfl]
      obtain ⟨cl, hcl⟩ : ∃ cl, cl = cellsL a := ⟨_, rfl⟩
      have HCL := Lib.hid hcl
      have hcl3 : cl.length ≤ 400 := by rw [hcl]; exact Nat.le_trans (cellsTo_len W_a.out S_a.out a.length) (by have := K_a.out; omega)
      rw [← hcl] at RC ⊢
      clear hcl
      go_wp2_with fail
      refine (lcells_calls _ _ a 10000 (HL.out.at_ 1 rfl) (S_a.out.mono (by omega)) hcl2.out).mono ?_
      rw [← HCL.out, show (10000 : Int).toNat = 10000 by rfl, List.take_of_length_le (by omega)]
      rintro e W30 ⟨ul, rfl, IC, hb⟩
      have RC2 := Lib.hid (RdC.of_own IC.1 (by omega))
      obtain ⟨Al, capl, rfl⟩ := owns_form IC.1
      replace HL := Lib.hid (HL.out.keep hb)
      replace HC := Lib.hid (HC.out.keep hb)
      replace RC := Lib.hid (RC.out.keep hb)
      replace hbw := hbw.trans (hb.mono hbw.size)
      clear IC hb
      obtain ⟨M, hM⟩ : ∃ M : Nat, bits .and .i64 most 15 = (M : Int) ∧ M < 16 := by
        have h := (i64_and_low most).1
        exact ⟨(most % 16).toNat, by rw [h]; omega, by omega⟩
      obtain ⟨hM1, hM2⟩ := hM
      go_wp2_with fail
      refine (lcells_calls _ _ a M (HL.out.at_ 1 rfl) (S_a.out.mono (by omega)) hcl2.out).mono ?_
      rw [← HCL.out, Int.toNat_natCast]
      rintro e W31 ⟨us, rfl, IC, hb⟩
      obtain ⟨As, caps, rfl⟩ := owns_form IC.1
      replace HL := Lib.hid (HL.out.keep hb)
      replace HC := Lib.hid (HC.out.keep hb)
      replace RC := Lib.hid (RC.out.keep hb)
      replace RC2 := Lib.hid (RC2.out.keep hb)
      replace hbw := hbw.trans (hb.mono hbw.size)
      have hmin : min (M : Int) (cl.length : Int) = (((cl.take M).length : Nat) : Int) := by rw [List.length_take]; omega
      have hmin2 : (cl.take M).length ≤ 16 := by rw [List.length_take]; omega
      obtain ⟨mn, hmn⟩ : ∃ mn, mn = (cl.take M).length := ⟨_, rfl⟩
      rw [← hmn] at hmin hmin2 ⊢
      clear IC hb hmn
      go_wp2
      clear hmin
      go_loopw [126] (fun i wr => ∃ k : Nat, k ≤ cl.length ∧ i = .int .i64 k ∧ Hid (∃ d, wr = W31.drewN d)) (fun i _ => cl.length - (intOf i).toNat)
      case atStart => exact ⟨0, by omega, rfl, 0, rfl⟩
      case round =>
        obtain ⟨wo, rfl⟩ : ∃ wo, wo = wr := ⟨_, rfl⟩
        obtain ⟨k, hk2, rfl, HD⟩ := hrel
        have HBd : Hid (Below W31.heap.size W31 wo) := HD.out.elim fun d h => by rw [h]; exact below_drewN _ _ d
        have RCw := RC.out.keep HBd.out
        have RC2w := RC2.out.keep HBd.out
        have HDn : Hid (∀ n, ∃ d, wo.drewN n = W31.drewN d) := fun n => HD.out.elim fun d h => by rw [h]; exact drewN_ex _ _ _
        by_cases hlt : k < cl.length
        · obtain ⟨g1, o1, rfl, p0, p1, p2⟩ := RCw.get k hlt
          obtain ⟨g2, o2, rfl, q0, q1, q2⟩ := RC2w.get k hlt
          obtain ⟨⟨x0, x1, x2⟩, hx⟩ : ∃ x, x = cl[k] := ⟨_, rfl⟩
          rw [← hx] at p0 p1 p2 q0 q1 q2
          clear hx RCw RC2w
          go_wp2
          go_quiet (fail)
          go_wp2
          refine ⟨⟨k + 1, hlt, by go_num, HDn.out _⟩, by simp [intOf]; omega⟩
        · clear RCw RC2w
          replace HL := Lib.hid (HL.out.keep HBd.out)
          replace HC := Lib.hid (HC.out.keep HBd.out)
          replace hbw := hbw.trans (HBd.out.mono hbw.size)
          clear RC RC2 HD HDn HBd
          go_wp2
          obtain ⟨qh, hqh⟩ : ∃ q, q = inA a lab key := ⟨_, rfl⟩
          obtain ⟨qw, hqw⟩ : ∃ q, q = subB a b := ⟨_, rfl⟩
          obtain ⟨qs, hqs⟩ : ∃ q, q = (subB a b && subB b a) := ⟨_, rfl⟩
          obtain ⟨qe, hqe⟩ : ∃ q, q = emptyB a := ⟨_, rfl⟩
          obtain ⟨qm, hqm⟩ : ∃ q, q = maskA a := ⟨_, rfl⟩
          rw [← hqm]
          have HQH := Lib.hid hqh.symm
          have HQW := Lib.hid hqw.symm
          have HQS := Lib.hid hqs.symm
          have HQE := Lib.hid hqe.symm
          have HQM := Lib.hid hqm.symm
          have HQE2 := Lib.hid ((empty_bld W_a.out W_b.out).trans hqw.symm)
          have M1 := Lib.hid (sm_bld (S_a.out.mono (by omega) : Sm 400 a) (S_b.out.mono (by omega) : Sm 400 b))
          clear hqh hqw hqs hqe hqm
          have cS : ∀ W2, (∃ d, W2 = wo.drewN d) → W2.cell? ⟨w.heap.size, 0, none⟩ = some (.int .i64 lab) ∧ W2.cell? ⟨w.heap.size, 1, none⟩ = some (.int .u32 key) := by
            rintro W2 ⟨d, rfl⟩; exact HC.out
          go_region_held3 (fun W2 => W2.cell? ⟨w.heap.size, 0, none⟩ = some (.int .i64 lab) ∧ W2.cell? ⟨w.heap.size, 1, none⟩ = some (.int .u32 key))
            (first | with_reducible exact k10 | with_reducible exact k9 | with_reducible exact k8 | with_reducible exact k7 | with_reducible exact k6 | with_reducible exact k5 | with_reducible exact k4 | with_reducible exact k3 | with_reducible exact k2 | with_reducible exact k1 | exact cS _ (by first | exact ⟨_, rfl⟩ | exact drewN_ex _ _ _ | exact drew_ex _ _))
            (first
              | (go_at_call 27; have hS := k9; refine (maskq_calls _ _ a _ (L9.out.at_ 2 rfl) (S_a.out.mono (by omega)) L_a.out HQM.out).mono ?_; rintro e X10 ⟨rfl, b10⟩; have k10 : X10.cell? ⟨w.heap.size, 0, none⟩ = some (.int .i64 lab) ∧ X10.cell? ⟨w.heap.size, 1, none⟩ = some (.int .u32 key) := CellC.keep k9 b10; have L10 := Lib.hid (L9.out.keep b10); have B10 := Lib.hid (B9.out.trans (b10.mono B9.out.size)))
              | (go_at_call 23; have hS := k8; refine (refemptyq_calls _ _ a _ (L8.out.at_ 2 rfl) (S_a.out.mono (by omega)) HQE.out).mono ?_; rintro e X9 ⟨rfl, b9⟩; have k9 : X9.cell? ⟨w.heap.size, 0, none⟩ = some (.int .i64 lab) ∧ X9.cell? ⟨w.heap.size, 1, none⟩ = some (.int .u32 key) := CellC.keep k8 b9; have L9 := Lib.hid (L8.out.keep b9); have B9 := Lib.hid (B8.out.trans (b9.mono B8.out.size)))
              | (go_at_call 26; have hS := k7; refine (emptyb_calls _ _ a _ (L7.out.at_ 2 rfl) (S_a.out.mono (by omega)) HQE.out).mono ?_; rintro e X8 ⟨rfl, b8⟩; have k8 : X8.cell? ⟨w.heap.size, 0, none⟩ = some (.int .i64 lab) ∧ X8.cell? ⟨w.heap.size, 1, none⟩ = some (.int .u32 key) := CellC.keep k7 b8; have L8 := Lib.hid (L7.out.keep b8); have B8 := Lib.hid (B7.out.trans (b8.mono B7.out.size)))
              | (go_at_call 25; have hS := k6; refine (refsameq_calls _ _ _ a b _ (L6.out.at_ 2 rfl) (L6.out.at_ 1 rfl) L_a.out L_b.out (S_a.out.mono (by omega)) (S_b.out.mono (by omega)) HQS.out).mono ?_; rintro e X7 ⟨rfl, b7⟩; have k7 : X7.cell? ⟨w.heap.size, 0, none⟩ = some (.int .i64 lab) ∧ X7.cell? ⟨w.heap.size, 1, none⟩ = some (.int .u32 key) := CellC.keep k6 b7; have L7 := Lib.hid (L6.out.keep b7); have B7 := Lib.hid (B6.out.trans (b7.mono B6.out.size)))
              | (go_at_call 24; have hS := k5; refine (sameq_calls _ _ _ a b _ (L5.out.at_ 2 rfl) (L5.out.at_ 1 rfl) L_a.out L_b.out (S_a.out.mono (by omega)) (S_b.out.mono (by omega)) HQS.out).mono ?_; rintro e X6 ⟨rfl, b6⟩; have k6 : X6.cell? ⟨w.heap.size, 0, none⟩ = some (.int .i64 lab) ∧ X6.cell? ⟨w.heap.size, 1, none⟩ = some (.int .u32 key) := CellC.keep k5 b6; have L6 := Lib.hid (L5.out.keep b6); have B6 := Lib.hid (B5.out.trans (b6.mono B5.out.size)))
              | (go_at_call 23; have hS := k4; refine (refemptyq_calls _ _ _ _ (L4.out.at_ 0 rfl) M1.out HQE2.out).mono ?_; rintro e X5 ⟨rfl, b5⟩; have k5 : X5.cell? ⟨w.heap.size, 0, none⟩ = some (.int .i64 lab) ∧ X5.cell? ⟨w.heap.size, 1, none⟩ = some (.int .u32 key) := CellC.keep k4 b5; have L5 := Lib.hid (L4.out.keep b5); have B5 := Lib.hid (B4.out.trans (b5.mono B4.out.size)))
              | (go_at_call 10; have hS := k3; refine (refbuild_calls _ _ _ a b 2 (L3.out.at_ 1 rfl) (L3.out.at_ 0 rfl) L_a.out L_b.out (S_a.out.mono (by omega)) (S_b.out.mono (by omega)) (by omega)).mono ?_; rintro e X4 ⟨v4, rfl, R4, b4⟩; obtain ⟨A4, c4, rfl, -⟩ := id R4; have k4 : X4.cell? ⟨w.heap.size, 0, none⟩ = some (.int .i64 lab) ∧ X4.cell? ⟨w.heap.size, 1, none⟩ = some (.int .u32 key) := CellC.keep k3 b4; have L4 := Lib.hid ((L3.out.keep b4).cons R4); have B4 := Lib.hid (B3.out.trans (b4.mono B3.out.size)))
              | (go_at_call 22; have hS := k2; refine (withinq_calls _ _ _ a b _ (L2.out.at_ 1 rfl) (L2.out.at_ 0 rfl) L_a.out L_b.out (S_a.out.mono (by omega)) (S_b.out.mono (by omega)) HQW.out).mono ?_; rintro e X3 ⟨rfl, b3⟩; have k3 : X3.cell? ⟨w.heap.size, 0, none⟩ = some (.int .i64 lab) ∧ X3.cell? ⟨w.heap.size, 1, none⟩ = some (.int .u32 key) := CellC.keep k2 b3; have L3 := Lib.hid (L2.out.keep b3); have B3 := Lib.hid (B2.out.trans (b3.mono B2.out.size)))
              | (go_at_call 21; have hS := k1; refine (refhasq_calls _ _ a lab key _ (L1.out.at_ 1 rfl) hk HQH.out).mono ?_; rintro e X2 ⟨rfl, b2⟩; have k2 : X2.cell? ⟨w.heap.size, 0, none⟩ = some (.int .i64 lab) ∧ X2.cell? ⟨w.heap.size, 1, none⟩ = some (.int .u32 key) := CellC.keep k1 b2; have L2 := Lib.hid (L1.out.keep b2); have B2 := Lib.hid (B1.out.trans (b2.mono B1.out.size)))
              | (go_at_call 20; refine (has_b _ _ a lab key _ ((HL.out.keep (below_drewN _ _ _)).at_ 1 rfl) HQH.out).mono ?_; rintro e X1 ⟨rfl, b1⟩; have k1 : X1.cell? ⟨w.heap.size, 0, none⟩ = some (.int .i64 lab) ∧ X1.cell? ⟨w.heap.size, 1, none⟩ = some (.int .u32 key) := CellC.keep (cS _ ⟨1, rfl⟩) b1; have L1 := Lib.hid ((HL.out.keep (below_drewN _ _ 1)).keep b1); have B1 := Lib.hid ((hbw.trans (below_drewN _ _ 1)).trans (b1.mono (hbw.trans (below_drewN _ _ 1)).size))))
          go_wp2
          go_ret
          exact ⟨rfl, B10.out⟩
theorem setsA_lawC (w : World) (va vb : Value) (a b : Ar) (n mask : Int) (lab : Int) (key : Nat) (most : Int) (ha : RdA w va a) (hbr : RdA w vb b) (_ : (Lit.int .i64 n).wf = true) (hm : (Lit.int .u32 mask).wf = true) (hc : wrap64 lab = lab ∧ key < 4294967296) (_ : (Lit.int .i64 most).wf = true) (hT : Tab w) :
    Calls Tryd.prog 3 #[va, vb, .int .i64 n, .int .u32 mask, .agg #[.int .i64 lab, .int .u32 key], .int .i64 most] w fun e w' => e = .returned (.bool true) ∧ Below w.heap.size w w' := by
  obtain ⟨m, rfl, hm2⟩ := u32_nat hm
  exact setsA_law w va vb a b n m lab key most ha hbr hm2 hc.2 hT
end Go.Proofs.YtjlkkbjolfhobaaDoor
