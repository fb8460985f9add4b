import Derived.Test.YtlaohilchcjffaaInAR
import Derived.Test.YtlaohilchcjffaaInAM
namespace Go.Proofs.Ytlaohilchcjffaa
open Go.RowKit
attribute [local go_sem] World.cell?_alloc_some frozen_alloc_some

/-! InferOne. -/
theorem step_append_own {P : Program} {w : World} {ops : Array Oper} {o : Oper} {a : Act} {K : Act → World → Prop} {Q : Exit → Act → World → Prop} {E : Prop} (hgd : o.guard = none) (s x : Operand) (t : TypeId)
    (ho : o.op = .call { callee := .builtin .append, args := #[s, x], argTypes := #[t, t] })
    (base : Nat) (e : TypeId) (i : TypeInfo) (z : Value) (size bytes : Nat) (ht : P.underlying t = some (.slice e)) (hi : P.info? e = some i) (hz : i.zero = some z)
    (hsize : i.size = size) (hby : i.bytes = bytes) (hzs : z.cells.size = size) (hsz : 0 < size)
    (v : Value) (n : Nat) (xs : List Value) (hs : a.eval s = v) (hown : w.ownsRow base e size v n xs)
    (ad : Addr) (m c : Nat) (news : List Value) (hx : a.eval x = .slice (some ad) m c) (hl : news.length = m * size) (hnews : ∀ j u, news[j]? = some u → w.cell? (ad.add j) = some u) (h1 : ∀ u ∈ news, u.oneCell' = true)
    (h63 : n + m ≤ maxLen) (hbytes : (n + m) * bytes ≤ 140737488355328) (hbase : base ≤ w.heap.size)
    (h : ∀ A cap w', w'.ownsRow base e size (.slice A (n + m) cap) (n + m) (xs ++ news) → w.grownBy w' v.ownBlock → K (a.put o.dst (.slice A (n + m) cap)) w') :
    if Region.wanted o (yielded ops a.tmps) = true then Oper.wp P o a w K Q else E := by
  have hw : Region.wanted o (yielded ops a.tmps) = true := by simp [Region.wanted, hgd]
  rw [if_pos hw]
  obtain ⟨v', w', hr, h2, h3, _, h5⟩ := run_append_own_at (P := P) w base t o.type e i z size bytes ht hi hz hsize hby hzs hsz v n xs hown ad m c news hl hnews h1 h63 hbytes hbase
  obtain ⟨A, cap, rfl⟩ := owns_form h2
  unfold Oper.wp execOp
  simp only [ho, resolve, invoke, builtin, Sem.run_bind, Sem.run_pure, Result.andThen_ok, List.map_toArray, List.map_cons, List.map_nil, hs, hx, hr]
  exact h A cap w' h2 h3
theorem grown_new {w w5 : World} {o : Obj} (hg : (w.alloc o).grownBy w5 (some w.heap.size)) : Below w.heap.size w w5 :=
  ⟨hg.os, hg.tape, hg.output, by have := hg.size; simp at this; omega, fun b hb => (hg.block b (by simp; omega) (fun e => by have := Option.some.inj e; omega)).trans (Below.heap_alloc _ _ _ hb)⟩
theorem i64_and255 (n : Int) : bits .and .i64 n 255 = n % 256 := by
  have h127 : (BitVec.ofInt 64 255).toNat = 2 ^ 8 - 1 := by decide
  have key : (BitVec.ofInt 64 n &&& BitVec.ofInt 64 255).toNat = (n % ((2 ^ 64 : Nat) : Int)).toNat % 2 ^ 8 := by
    rw [BitVec.toNat_and, BitVec.toNat_ofInt, h127, Nat.and_two_pow_sub_one_eq_mod]
  show IntKind.i64.wrap ((BitVec.ofInt 64 n &&& BitVec.ofInt 64 255).toNat : Nat) = n % 256
  rw [key, IntKind.wrap_i64]
  omega
theorem isII_lit1 {w : World} {b : Nat} {v : Value} {x : List Int} {t : TypeId} (h : IsI 0 (fun _ => 0) w v x) (hb : b = w.heap.size) :
    IsII 0 0 (fun _ => 0) (w.alloc (.cells #[v] t)) (.slice (some ⟨b, 0, none⟩) 1 1) [x] := by
  subst hb
  refine ⟨_, _, rfl, Nat.le_refl _, by unfold maxLen; omega, ⟨by simp, fun h => by cases h⟩, fun i hi => ⟨w.heap.size, 0, [v], rfl, rfl, rfl, ⟨v, rfl, ?_⟩, fun j hj => ?_⟩⟩
  · have : i = 0 := by simpa using hi
    subst this; exact h.alloc _
  · have : i = 0 := by simpa using hi
    have hj0 : j = 0 := by simpa using hj
    subst this; subst hj0; simp
theorem exp_single_calls (W : World) (v : Value) (x : Int) (hx : 0 < x) (h : IsII 0 0 (fun _ => 0) W v [[x]]) : Calls Try.prog 18 #[v] W fun e W' => e = .returned (.tuple #[.int .i64 x, .bool true]) ∧ Below W.heap.size W W' := by
  have := exposed_calls W v _ h (by simp) (by simp) (by simp [rightM]; omega) (by rw [names_single, mat_single]; exact bd_single)
  rwa [exp_single] at this
theorem exp_less_calls (W : World) (v : Value) (a : List Int) (ha : rightM 0 a = true) (hl : a.length ≤ 40) (i : Nat) (hi : i < a.length) (h : IsII 0 0 (fun _ => 0) W v [a, lessL a i]) : Calls Try.prog 18 #[v] W fun e W' => ∃ m : Int, e = .returned (.tuple #[.int .i64 m, .bool true]) ∧ Hid (m ≤ a[i] ∧ ((lessL a i).length ≠ 1 → m = a[i])) ∧ Below W.heap.size W W' := by
  have hp := ((rightM_iff 0 a).1 ha).2
  obtain ⟨m, e, h1, h2⟩ := exp_less hp hi
  have hbd : ∀ k ≤ (namesL [a, lessL a i]).length, ∀ r ∈ (redTo (matL [a, lessL a i]) k).1, Bd 500 r := by
    rw [mat_less hp hi, names_pair hp fun x hx => (less_sub a i).subset hx]
    intro k hk
    by_cases h0 : i = 0
    · subst h0; exact bdB (by omega) k hk
    · exact bdA (by omega) hi k
  have hll := less_len hi
  refine (exposed_calls W v _ h (by simp) (by simp; omega) (fun s hs => ?_) hbd).mono ?_
  · rcases List.mem_cons.1 hs with rfl | hs
    · exact ha
    · rw [List.mem_singleton.1 hs]; exact rightM_sub ha (less_sub a i)
  · rintro e2 W' ⟨rfl, hb⟩
    rw [e]
    exact ⟨m, rfl, ⟨h1, h2⟩, hb⟩
theorem exp_same_calls (W : World) (v : Value) (a : List Int) (ha : rightM 0 a = true) (hl : a.length ≤ 40) (hn : 0 < a.length) (h : IsII 0 0 (fun _ => 0) W v [a, a]) : Calls Try.prog 18 #[v] W fun e W' => ∃ m : Int, e = .returned (.tuple #[.int .i64 m, .bool (decide (a.length = 1))]) ∧ Below W.heap.size W W' := by
  have hp := ((rightM_iff 0 a).1 ha).2
  have hbd : ∀ k ≤ (namesL [a, a]).length, ∀ r ∈ (redTo (matL [a, a]) k).1, Bd 500 r := by
    rw [mat_same hp, names_pair hp fun x hx => hx]
    exact fun k hk => bdC hn k hk
  refine (exposed_calls W v _ h (by simp) (by simp; omega) (fun s hs => ?_) hbd).mono ?_
  · rcases List.mem_cons.1 hs with rfl | hs
    · exact ha
    · rw [List.mem_singleton.1 hs]; exact ha
  · rintro e2 W' ⟨rfl, hb⟩
    rw [exp_same hp hn]
    exact ⟨_, rfl, hb⟩
theorem exp_none_calls (W : World) : Calls Try.prog 18 #[.slice none 0 0] W fun e W' => e = .returned (.tuple #[.int .i64 0, .bool false]) ∧ Below W.heap.size W W' := by
  have h : IsII 0 0 (fun _ => 0) W (.slice none 0 0) [] := ⟨none, 0, rfl, by simp, by simp, ⟨by simp, fun _ => rfl⟩, fun i hi => by simp at hi⟩
  have := exposed_calls W _ [] h (by simp) (by simp) (by simp) (by rw [names_none]; intro k hk r hr; have hk0 : k = 0 := (by simpa using hk); rw [hk0] at hr; simp [matL, redTo] at hr)
  rwa [exp_none] at this
set_option maxRecDepth 100000 in
set_option maxHeartbeats 4000000 in
theorem one_no (w : World) (v : Value) (a : List Int) (ix : Int) (ha : IsI 0 (fun _ => 0) w v a) (hno : Hid (a.length = 0 ∨ (0 < a.length ∧ 40 < a.length) ∨ (0 < a.length ∧ a.length ≤ 40 ∧ rightM 0 a = false))) :
    Calls Try.prog 4 #[v, .int .i64 ix] w fun e w' => e = .returned (.bool true) ∧ Below w.heap.size w w' := by
  obtain ⟨A, c, rfl, a1, a2, a3, -⟩ := id ha
  unfold maxLen at a2
  have HA := Lib.hid ha
  clear ha
  go_enter Try.func4, Try.ntmps4
  go_wp2_with fail
  refine (alive_calls _).mono ?_
  rintro e w1 ⟨rfl, hbw⟩
  rcases hno.out with h | ⟨h, h2⟩ | ⟨h, h2, h3⟩
  · clear hno
    have h5 : ((a.length : Int) == 0) = true := by simpa using h
    clear h
    go_wp2
    go_ret
    exact ⟨rfl, hbw⟩
  · have h5 : ((a.length : Int) == 0) = false := by rw [beq_eq_false_iff_ne]; omega
    go_wp2
    go_ret
    exact ⟨rfl, hbw⟩
  · have h5 : ((a.length : Int) == 0) = false := by rw [beq_eq_false_iff_ne]; omega
    have HR := Lib.hid h3
    clear h3 hno
    go_wp2_with fail
    refine (right_calls _ _ _ (IsI.keep HA.out (Same.below' hbw))).mono ?_
    rintro e w2 ⟨rfl, rfl⟩
    rw [HR.out]
    go_wp2
    go_ret
    exact ⟨rfl, hbw⟩
set_option maxRecDepth 100000 in
set_option maxHeartbeats 16000000 in
theorem one_yes (w : World) (v : Value) (a : List Int) (ix : Int) (ha : IsI 0 (fun _ => 0) w v a) (hn : 0 < a.length) (h40 : a.length ≤ 40) (hr : Hid (rightM 0 a = true)) :
    Calls Try.prog 4 #[v, .int .i64 ix] w fun e w' => e = .returned (.bool true) ∧ Below w.heap.size w w' := by
  obtain ⟨A, c, rfl, a1, a2, a3, -⟩ := id ha
  unfold maxLen at a2
  have HA := Lib.hid ha
  obtain ⟨b, o, rfl, -⟩ := ha.getI 0 hn
  have h5 : ((a.length : Int) == 0) = false := by rw [beq_eq_false_iff_ne]; omega
  obtain ⟨i, hi, hix⟩ : ∃ i : Nat, i < a.length ∧ (bits .and .i64 ix 255).tmod (a.length : Int) = (i : Int) := by
    rw [i64_and255]
    refine ⟨((ix % 256).tmod (a.length : Int)).toNat, ?_, ?_⟩
    · have := Int.tmod_lt_of_pos (ix % 256) (show (0 : Int) < a.length by omega)
      omega
    · have := Int.tmod_nonneg (a := ix % 256) (a.length : Int) (by omega)
      omega
  obtain ⟨b', o', e, hc⟩ := ha.getI i hi
  cases e
  have hpos := rightM_pos 0 a hr.out _ (List.getElem_mem hi)
  have HLS := Lib.hid (fun (W : World) (v : Value) (h : IsII 0 0 (fun _ => 0) W v [a, lessL a i]) => exp_less_calls W v a hr.out h40 i hi h)
  obtain ⟨x, hx⟩ : ∃ x, x = a[i] := ⟨_, rfl⟩
  rw [← hx] at hc hpos HLS
  clear ha hx
  obtain ⟨i0, hi0, hz0, hz1, hz2⟩ := info_parts infoI
  have i1 : (0 : Int) ≤ (i : Int) := by omega
  have i2 : (i : Int) < (a.length : Int) := by omega
  go_enter Try.func4, Try.ntmps4
  go_wp2_with fail
  refine (alive_calls _).mono ?_
  rintro e w1 ⟨rfl, B1⟩
  have hc1 := below_cellA B1 hc
  go_wp2_with fail
  refine (right_calls _ _ _ (IsI.keep HA.out (Same.below' B1))).mono ?_
  rintro e w2 ⟨rfl, rfl⟩
  rw [hr.out]
  go_wp2_with fail
  refine (exp_single_calls _ _ x hpos (isII_lit1 (isI_lit [x] rfl rfl (by simp)) (by simp))).mono ?_
  rintro e w3 ⟨rfl, hq⟩
  have B3 := B1.trans ((below_lit (below_lit hq)).mono B1.size)
  have hc3 := below_cellA B3 hc
  clear hq hc1
  go_wp2_with fail
  have HT : Hid (∀ W, Below w3.heap.size w3 W → ∀ j u, ((a.take i).map vI)[j]? = some u → W.cell? ((⟨b, o, none⟩ : Addr).add j) = some u) := fun W hW j u hj => by
    have h1 := (IsI.keep HA.out (Same.below' (B3.trans (hW.mono B3.size)))).takeL i (by omega)
    obtain ⟨-, -, h2, -⟩ := h1.news (fun x => [vI x]) (fun _ _ _ _ h => h) (by omega) (rInt_one _)
    rw [flat_vI] at h2
    exact h2 j u hj
  have HD : Hid (∀ W, Below w3.heap.size w3 W → ∀ ad, (if c = i + 1 then some (⟨b, o, none⟩ : Addr) else some ⟨b, o + (i + 1), none⟩) = some ad → ∀ j u, ((a.drop (i + 1)).map vI)[j]? = some u → W.cell? (ad.add j) = some u) := fun W hW ad had j u hj => by
    have h1 := (IsI.keep HA.out (Same.below' (B3.trans (hW.mono B3.size)))).dropL (i + 1) (by omega)
    rw [Nat.mul_one, had] at h1
    obtain ⟨-, -, h2, -⟩ := h1.news (fun x => [vI x]) (fun _ _ _ _ h => h) (by omega) (rInt_one _)
    rw [flat_vI] at h2
    exact h2 j u hj
  have hone : ∀ (l : List Int), ∀ u ∈ l.map vI, u.oneCell' = true := fun l u hu => by obtain ⟨y, _, rfl⟩ := List.mem_map.1 hu; rfl
  have o5 := World.ownsRow_made (base := w3.heap.size) (e := 3) (size := 1) w3 #[] 0 (Nat.le_refl _) (Nat.zero_le _) rfl
  have hw1 : IntKind.i64.wrap ((i : Int) + 1) = (i : Int) + 1 := by rw [IntKind.wrap_i64]; omega
  have i3 : (i : Int) + 1 ≤ (a.length : Int) := by omega
  have i4 : (a.length : Int) ≤ (c : Int) := by omega
  have i5 : (0 : Int) ≤ (i : Int) + 1 := by omega
  have i6 : (i : Int) ≤ (c : Int) := by omega
  have i7 : (i : Int) ≤ (i : Int) + 1 := by omega
  have G0 : True := trivial
  obtain ⟨ad, had⟩ : ∃ ad, (if c = i + 1 then some (⟨b, o, none⟩ : Addr) else some ⟨b, o + (i + 1), none⟩) = some ad := by split <;> exact ⟨_, rfl⟩
  go_region_law (first | (clear G0; refine step_append_own (by rfl) _ _ _ (by rfl) w3.heap.size 3 i0 _ 1 8 Try.underlying23 hi0 hz0 hz1 hz2 rfl (by omega) _ 0 [] (by rfl) (by first | exact o5 | exact owns_drew o5) ⟨b, o, none⟩ i c ((a.take i).map vI) (by rfl) (by simp; omega) (HT.out _ (by first | exact ((Below.refl w3.heap.size w3).alloc (Nat.le_refl _) _).trans (below_drewN _ _ 1))) (hone _) (by unfold maxLen; omega) (by omega) (by simp) ?_; intro A5 c5 w5 ho5 hg5; have hB5 : Below w3.heap.size w3 w5 := (by first | exact grown_new hg5 | exact grown_new (o := .cells #[] 3) ⟨hg5.os, hg5.tape, hg5.output, hg5.size, hg5.block⟩); rw [Nat.zero_add, List.nil_append] at ho5; simp only [Nat.zero_add]) | (refine step_append_own (by rfl) _ _ _ (by rfl) w3.heap.size 3 i0 _ 1 8 Try.underlying23 hi0 hz0 hz1 hz2 rfl (by omega) _ i ((a.take i).map vI) (by rfl) (by exact ho5) ad (a.length - (i + 1)) (c - (i + 1)) ((a.drop (i + 1)).map vI) (by rfl) (by simp) (HD.out _ hB5 _ had) (hone _) (by unfold maxLen; omega) (by omega) (by have := hB5.size; omega) ?_; intro A7 c7 w7 ho7 hg7; have hB7 := hB5.trans (own_grownA ho5 hg7 (N := w3.heap.size) (Nat.le_refl _) hB5.size)))
  have hll := less_len hi
  obtain ⟨ln, hln⟩ : ∃ ln, ln = i + (a.length - (i + 1)) := ⟨_, rfl⟩
  rw [← hln] at ho7 ⊢
  have hL7 : w7.ownsRow w3.heap.size 3 1 (.slice A7 ln c7) (lessL a i).length ((lessL a i).map (Value.int .i64)) := by
    rw [hll, show a.length - 1 = ln by omega]
    rw [← List.map_append] at ho7
    exact ho7
  have hln1 : ln + 1 ≤ a.length := by omega
  have hln2 : a.length ≤ ln + 1 := by omega
  have HLl : Hid ((lessL a i).length = ln) := by show _ = _; omega
  have I7 := isI_owns (c := 0) (χ := fun _ => 0) hL7 (by omega) (fun _ _ => rfl)
  have B7 := B3.trans (hB7.mono B3.size)
  have hc7 := below_cellA B7 hc
  clear hL7 ho7 hg7 ho5 hg5 o5 hone hll hln hc3 had
  go_wp2_with fail
  refine (HLS.out _ _ (isII_lit2 (IsI.keep HA.out (Same.below' B7)) I7 rfl)).mono ?_
  rintro e w8 ⟨m, rfl, HM, hb8⟩
  have B8 := B7.trans ((below_lit hb8).mono B7.size)
  have hc8 := below_cellA B8 hc
  have hm1 := HM.out.1
  have hm2 := HM.out.2
  rw [HLl.out] at hm2
  clear hb8 hc7 I7
  have hm3 : ¬ x < m := by omega
  have hg8 : (ln = 1 ∧ ((ln : Int) != 1) = false) ∨ (((ln : Int) != 1) = true ∧ m = x) := by
    by_cases h1 : ln = 1
    · exact .inl ⟨h1, by simp [h1]⟩
    · exact .inr ⟨by simp; omega, hm2 h1⟩
  clear hm2 hm1
  rcases hg8 with ⟨-, hg8⟩ | ⟨hg8, rfl⟩
  all_goals
    go_wp2_with fail
    refine (exp_same_calls _ _ a hr.out h40 hn (isII_lit2 (IsI.keep HA.out (Same.below' B8)) (IsI.keep HA.out (Same.below' B8)) rfl)).mono ?_
    rintro e w9 ⟨m9, rfl, hb9⟩
    have B9 := B8.trans ((below_lit hb9).mono B8.size)
    clear hb9
    go_wp2_with fail
    refine (exp_none_calls _).mono ?_
    rintro e w10 ⟨rfl, hb10⟩
    have B10 := B9.trans (hb10.mono B9.size)
    clear hb10
    have hdec : decide (a.length = 1) = ((a.length : Int) == 1) := by rw [Bool.eq_iff_iff]; simp only [decide_eq_true_eq, beq_iff_eq]; omega
    have hbb : (((a.length : Int) == 1) == ((a.length : Int) == 1)) = true := by simp
    rw [hdec]
    go_wp2
    go_ret
    exact ⟨rfl, B10⟩
theorem one_law (w : World) (v : Value) (a : List Int) (ix : Int) (ha : IsI 0 (fun _ => 0) w v a) (_ : (Lit.int .i64 ix).wf = true) :
    Calls Try.prog 4 #[v, .int .i64 ix] w fun e w' => e = .returned (.bool true) ∧ Below w.heap.size w w' := by
  by_cases h0 : a.length = 0
  · exact one_no w v a ix ha (.inl h0)
  by_cases h1 : a.length ≤ 40
  · by_cases h2 : rightM 0 a = true
    · exact one_yes w v a ix ha (by omega) h1 h2
    · exact one_no w v a ix ha (.inr (.inr ⟨by omega, h1, by simpa using h2⟩))
  · exact one_no w v a ix ha (.inr (.inl ⟨by omega, by omega⟩))
end Go.Proofs.Ytlaohilchcjffaa
