import Derived.Test.YtpchodnknkdlgaaInZ
namespace Go.Proofs.Ytpchodnknkdlgaa
open Go.RowKit
attribute [local go_sem] World.cell?_alloc_some

/-! Rows are cleaned. -/
def combL (row p : List Int) (col : Nat) : List Int := List.zipWith (fun x y => x * p.getD col 0 - y * row.getD col 0) row p
def rowL (M : List (List Int)) (at_ col i : Nat) (row : List Int) : List Int := if i = at_ ∨ row.getD col 0 = 0 then row else shrinkL (combL row (M.getD at_ []) col)
def cleanL (M : List (List Int)) (at_ col : Nat) : List (List Int) := M.mapIdx fun i row => rowL M at_ col i row
theorem cleanL_len (M : List (List Int)) (a c : Nat) : (cleanL M a c).length = M.length := by simp [cleanL]
theorem shrinkL_len (xs : List Int) : (shrinkL xs).length = xs.length := by unfold shrinkL; split <;> simp
/-- between: the first k rows are cleaned. -/
def cleanTo (M : List (List Int)) (a c k : Nat) : List (List Int) := (cleanL M a c).take k ++ M.drop k
theorem cleanTo_len (M : List (List Int)) (a c k : Nat) (hk : k ≤ M.length) : (cleanTo M a c k).length = M.length := by
  unfold cleanTo; rw [List.length_append, List.length_take, List.length_drop, cleanL_len]; omega
theorem cleanTo_at (M : List (List Int)) (a c k j : Nat) (hk : k ≤ M.length) (hj : j < M.length) : (cleanTo M a c k)[j]? = some (if j < k then rowL M a c j M[j] else M[j]) := by
  unfold cleanTo
  by_cases h : j < k
  · rw [if_pos h, List.getElem?_append_left (by rw [List.length_take, cleanL_len]; omega), List.getElem?_take_of_lt h]
    simp [cleanL, hj]
  · rw [if_neg h, List.getElem?_append_right (by rw [List.length_take, cleanL_len]; omega), List.length_take, cleanL_len, Nat.min_eq_left hk, List.getElem?_drop]
    rw [show k + (j - k) = j by omega]
    simp [hj]
theorem cleanTo_step (M : List (List Int)) (a c k : Nat) (hk : k < M.length) : (cleanTo M a c k).set k (rowL M a c k M[k]) = cleanTo M a c (k + 1) := by
  apply List.ext_getElem?
  intro j
  rcases Nat.lt_or_ge j M.length with hj | hj
  · rw [List.getElem?_set, cleanTo_at M a c (k + 1) j hk hj, cleanTo_len M a c k (by omega)]
    by_cases h : k = j
    · subst h; rw [if_pos rfl, if_pos hk, if_pos (by omega)]
    · rw [if_neg h, cleanTo_at M a c k j (by omega) hj]
      congr 1
      by_cases h2 : j < k
      · rw [if_pos h2, if_pos (by omega)]
      · rw [if_neg h2, if_neg (by omega)]
  · rw [List.getElem?_eq_none (by rw [List.length_set, cleanTo_len M a c k (by omega)]; omega), List.getElem?_eq_none (by rw [cleanTo_len M a c (k + 1) hk]; omega)]
theorem cleanTo_same (M : List (List Int)) (a c k : Nat) (hk : k < M.length) (h : rowL M a c k M[k] = M[k]) : cleanTo M a c k = cleanTo M a c (k + 1) := by
  rw [← cleanTo_step M a c k hk, h]
  have := cleanTo_at M a c k k (by omega) hk
  rw [if_neg (by omega)] at this
  obtain ⟨h1, h2⟩ := List.getElem?_eq_some_iff.1 this
  rw [← h2, List.set_getElem_self]
theorem combL_len {row p : List Int} {c : Nat} (h : row.length = p.length) : (combL row p c).length = row.length := by simp [combL, h]
theorem combL_bd {row p : List Int} {c : Nat} (h1 : Bd 16777216 row) (h2 : Bd 16777216 p) : Bd 1125899906842624 (combL row p c) := by
  have gb : ∀ (xs : List Int), Bd 16777216 xs → (xs.getD c 0).natAbs ≤ 16777216 := fun xs h => by
    simp only [List.getD]
    cases hx : xs[c]? with
    | none => simp
    | some x => exact h x (List.mem_of_getElem? hx)
  have g1 := gb row h1
  have g2 := gb p h2
  intro x hx
  unfold combL at hx
  obtain ⟨i, hi, rfl⟩ := List.getElem_of_mem hx
  simp only [List.getElem_zipWith]
  simp only [List.length_zipWith] at hi
  have b1 := h1 _ (List.getElem_mem (show i < row.length by omega))
  have b2 := h2 _ (List.getElem_mem (show i < p.length by omega))
  have m1 : (row[i] * p.getD c 0).natAbs ≤ 16777216 * 16777216 := by rw [Int.natAbs_mul]; exact Nat.mul_le_mul b1 g2
  have m2 : (p[i] * row.getD c 0).natAbs ≤ 16777216 * 16777216 := by rw [Int.natAbs_mul]; exact Nat.mul_le_mul b2 g1
  omega
/-- a row's cells, by its header. -/
theorem MatAt.cells {base : Nat} {W : World} {v : Value} {vs : List Value} {M : List (List Int)} (h : MatAt base W v vs M) {i g m cap : Nat} {R : List Int} (hv : vs[i]? = some (.slice (some ⟨g, 0, none⟩) m cap)) (hR : M[i]? = some R) :
    m = R.length ∧ (∀ k (hk : k < R.length), W.cell? ⟨g, k, none⟩ = some (.int .i64 R[k])) ∧ (∀ k, W.frozen? ⟨g, k, none⟩ = false) ∧ W.ownsRow base 2 1 (.slice (some ⟨g, 0, none⟩) m cap) m (R.map vI) := by
  obtain ⟨hi, rfl⟩ := List.getElem?_eq_some_iff.1 hR
  obtain ⟨g2, c2, h1, h2⟩ := h.row i hi
  rw [hv] at h1
  cases h1
  refine ⟨rfl, fun k hk => ?_, fun k => owns_frozen h2 k, h2⟩
  have := h2.cells (g := g) rfl k (.int .i64 M[i][k]) (by simp [hk, vI])
  rwa [add0] at this
theorem MatAt.head {base ob n oc : Nat} {W : World} {vs : List Value} {M : List (List Int)} (h : MatAt base W (.slice (some ⟨ob, 0, none⟩) n oc) vs M) {i : Nat} {s : Value} (hv : vs[i]? = some s) : W.cell? ⟨ob, i, none⟩ = some s := by
  have ho := h.out
  obtain ⟨A, c2, e⟩ := owns_form ho
  cases e
  have := ho.cells (g := ob) rfl i s hv
  rwa [add0] at this
theorem MatAt.put2 {base : Nat} {W W' : World} {v : Value} {vs : List Value} {M : List (List Int)} (h : MatAt base W v vs M) {i g m cap : Nat} {R : List Int} (hv : vs[i]? = some (.slice (some ⟨g, 0, none⟩) m cap)) (hR : M[i]? = some R) {ys : List Int} (hl : ys.length = R.length)
    (ho : W'.ownsRow base 2 1 (.slice (some ⟨g, 0, none⟩) m cap) m (ys.map vI)) (hg : W.grownBy W' (some g)) : MatAt base W' v vs (M.set i ys) ∧ Below base W W' := by
  obtain ⟨hm, -⟩ := h.cells hv hR
  obtain ⟨hi, rfl⟩ := List.getElem?_eq_some_iff.1 hR
  subst hm
  exact h.put hi hv hl ho hg
/-- a row while it is written over. -/
def combTo (row p : List Int) (c k : Nat) : List Int := (combL row p c).take k ++ row.drop k

theorem combTo_len {row p : List Int} {c k : Nat} (h : row.length = p.length) (hk : k ≤ row.length) : (combTo row p c k).length = row.length := by
  unfold combTo; rw [List.length_append, List.length_take, List.length_drop, combL_len h]; omega
theorem combTo_at {row p : List Int} {c k : Nat} (h : row.length = p.length) (hk : k < row.length) : (combTo row p c k)[k]? = some row[k] := by
  unfold combTo
  rw [List.getElem?_append_right (by rw [List.length_take, combL_len h]; omega), List.length_take, combL_len h, Nat.min_eq_left (by omega), Nat.sub_self, List.getElem?_drop]
  simp [hk]
theorem combTo_step {row p : List Int} {c k : Nat} (h : row.length = p.length) (hk : k < row.length) : (combTo row p c k).set k (row[k] * p.getD c 0 - (p[k]'(by omega)) * row.getD c 0) = combTo row p c (k + 1) := by
  have hl := combL_len (c := c) h
  apply List.ext_getElem?
  intro j
  rw [List.getElem?_set]
  by_cases hj : k = j
  · subst hj
    rw [if_pos rfl, if_pos (by rw [combTo_len h (by omega)]; exact hk)]
    unfold combTo
    rw [List.getElem?_append_left (by rw [List.length_take, hl]; omega), List.getElem?_take_of_lt (by omega)]
    unfold combL
    rw [List.getElem?_zipWith]
    simp [hk, show k < p.length by omega]
  · rw [if_neg hj]
    unfold combTo
    rcases Nat.lt_or_ge j k with h1 | h1
    · rw [List.getElem?_append_left (by rw [List.length_take, hl]; omega), List.getElem?_append_left (by rw [List.length_take, hl]; omega), List.getElem?_take_of_lt h1, List.getElem?_take_of_lt (by omega)]
    · rw [List.getElem?_append_right (by rw [List.length_take, hl]; omega), List.getElem?_append_right (by rw [List.length_take, hl]; omega), List.length_take, List.length_take, hl, List.getElem?_drop, List.getElem?_drop]
      congr 1; omega
set_option maxRecDepth 100000 in
set_option maxHeartbeats 8000000 in
theorem clean_calls (W : World) (base : Nat) (v : Value) (vs : List Value) (M : List (List Int)) (a c n : Nat) (hM : MatAt base W v vs M) (hn : ∀ r ∈ M, r.length = n) (ha : a < M.length) (hc : c < n) (hb : ∀ r ∈ M, Bd 16777216 r) (hl : M.length ≤ 100) (hl2 : n ≤ 1000) :
    Calls Try.prog 33 #[v, .int .i64 a, .int .i64 c] W fun e W' => e = .returned (.tuple #[]) ∧ MatAt base W' v vs (cleanL M a c) ∧ Below base W W' := by
  obtain ⟨ob, oc, ga, ca, rfl, -⟩ := hM.cell a ha
  have HM := Lib.hid hM
  have HN := Lib.hid hn
  have HB := Lib.hid hb
  clear hM hn hb
  go_enter Try.func33, Try.ntmps33
  go_wp2
  go_loopw [13] (fun i wr => ∃ k : Nat, k ≤ M.length ∧ i = .int .i64 k ∧ Hid (MatAt base wr (.slice (some ⟨ob, 0, none⟩) M.length oc) vs (cleanTo M a c k)) ∧ Below base W wr) (fun i _ => M.length - (intOf i).toNat)
  case atStart => exact ⟨0, by omega, rfl, by show MatAt _ _ _ _ _; simpa [cleanTo] using HM.out, Below.refl _ _⟩
  case round =>
    obtain ⟨k, hk, rfl, HK, hbr⟩ := hrel
    obtain ⟨wo, rfl⟩ : ∃ wo, wo = wr := ⟨_, rfl⟩
    have hkl := cleanTo_len M a c k hk
    by_cases hlt : k < M.length
    · have hRk := cleanTo_at M a c k k hk hlt
      rw [if_neg (by omega)] at hRk
      have hRa := cleanTo_at M a c k a hk ha
      have hra : (if a < k then rowL M a c a M[a] else M[a]) = M[a] := by
        split
        · unfold rowL; rw [if_pos (.inl rfl)]
        · rfl
      rw [hra] at hRa
      have HS1 := Lib.hid (cleanTo_step M a c k hlt)
      have HS2 := Lib.hid (cleanTo_same M a c k hlt)
      have hrb := Lib.hid (HB.out _ (List.getElem_mem hlt))
      have hpb := Lib.hid (HB.out _ (List.getElem_mem ha))
      have hrl : M[k].length = n := HN.out _ (List.getElem_mem hlt)
      have hpl : M[a].length = n := HN.out _ (List.getElem_mem ha)
      have hMa : M.getD a [] = M[a] := by simp [List.getD, ha]
      have hrowE : ∀ (h1 : k ≠ a) (h2 : M[k].getD c 0 ≠ 0), rowL M a c k M[k] = shrinkL (combL M[k] M[a] c) := fun h1 h2 => by unfold rowL; rw [if_neg (by rintro (h | h) <;> contradiction), hMa]
      have hrow0 : k = a ∨ M[k].getD c 0 = 0 → rowL M a c k M[k] = M[k] := fun h => by unfold rowL; rw [if_pos h]
      have HRE := Lib.hid (And.intro hrowE hrow0)
      clear hrowE hrow0 hMa hra
      obtain ⟨R, hR⟩ : ∃ R, R = M[k] := ⟨_, rfl⟩
      obtain ⟨P, hP⟩ : ∃ P, P = M[a] := ⟨_, rfl⟩
      rw [← hR] at hRk hrl HS1 HS2 hrb HRE
      rw [← hP] at hRa hpl hpb HRE
      clear hR hP
      obtain ⟨g, cap, hv, -⟩ := HK.out.row k (by omega)
      obtain ⟨ga, capa, hva, -⟩ := HK.out.row a (by omega)
      obtain ⟨m1, hm1⟩ : ∃ m, m = ((cleanTo M a c k)[k]'(by omega)).length := ⟨_, rfl⟩
      obtain ⟨m2, hm2⟩ : ∃ m, m = ((cleanTo M a c k)[a]'(by omega)).length := ⟨_, rfl⟩
      rw [← hm1] at hv
      rw [← hm2] at hva
      obtain ⟨e1, hcs, -, -⟩ := HK.out.cells hv hRk
      obtain ⟨e2, hcsa, -, -⟩ := HK.out.cells hva hRa
      rw [hrl] at e1
      rw [hpl] at e2
      subst e1
      have e2 : m2 = m1 := e2
      subst e2
      have hh := HK.out.head hv
      have hha := HK.out.head hva
      clear hm1 hm2
      have hcc := hcs c (by omega)
      have hca := hcsa c (by omega)
      have hgd : R.getD c 0 = R[c]'(by omega) := by simp [List.getD, show c < R.length by omega]
      have hgp : P.getD c 0 = P[c]'(by omega) := by simp [List.getD, show c < P.length by omega]
      obtain ⟨bb, hbb⟩ : ∃ b, b = R[c]'(by omega) := ⟨_, rfl⟩
      obtain ⟨aa, haa⟩ : ∃ b, b = P[c]'(by omega) := ⟨_, rfl⟩
      rw [← hbb] at hcc hgd
      rw [← haa] at hca hgp
      rw [hgd] at HRE
      have hbbd : bb.natAbs ≤ 16777216 := by rw [hbb]; exact hrb.out _ (List.getElem_mem _)
      have hab : aa.natAbs ≤ 16777216 := by rw [haa]; exact hpb.out _ (List.getElem_mem _)
      have HGD := Lib.hid (And.intro hgd hgp)
      have HRK := Lib.hid (And.intro hRk hRa)
      have HV := Lib.hid (And.intro hv hva)
      have HCS := Lib.hid (And.intro hcs hcsa)
      clear hbb haa hgd hgp hRk hRa hv hva hcs hcsa
      by_cases hka : k = a
      · have HN2 : Hid (MatAt base wo (.slice (some ⟨ob, 0, none⟩) M.length oc) vs (cleanTo M a c (k + 1))) := by
          show MatAt _ _ _ _ _; rw [← HS2.out (HRE.out.2 (.inl hka))]; exact HK.out
        clear HS1 HS2 HK HRE
        subst hka
        go_wp2
        exact ⟨⟨k + 1, hlt, by go_num, HN2, hbr⟩, by simp [intOf]; omega⟩
      · by_cases h0 : bb = 0
        · have HN2 : Hid (MatAt base wo (.slice (some ⟨ob, 0, none⟩) M.length oc) vs (cleanTo M a c (k + 1))) := by
            show MatAt _ _ _ _ _; rw [← HS2.out (HRE.out.2 (.inr h0))]; exact HK.out
          clear HS1 HS2 HK HRE
          obtain rfl := h0
          go_wp2
          exact ⟨⟨k + 1, hlt, by go_num, HN2, hbr⟩, by simp [intOf]; omega⟩
        · have hne : (bb == 0) = false := by simpa using h0
          have hkC : k < (cleanTo M a c k).length := by omega
          have HC0 : Hid ((cleanTo M a c k).set k (combTo R P c 0) = cleanTo M a c k) := by
            show _ = _
            obtain ⟨h1, h2⟩ := List.getElem?_eq_some_iff.1 HRK.out.1
            unfold combTo
            rw [List.take_zero, List.drop_zero, List.nil_append, ← h2, List.set_getElem_self]
          go_wp2
          go_quiet (fail)
          go_wp2
          clear hcc hca hh hha
          go_loopw [41] (fun j wr => ∃ q : Nat, q ≤ m2 ∧ j = .int .i64 q ∧ Hid (MatAt base wr (.slice (some ⟨ob, 0, none⟩) M.length oc) vs ((cleanTo M a c k).set k (combTo R P c q))) ∧ Below base W wr) (fun j _ => m2 - (intOf j).toNat)
          case atStart => exact ⟨0, by omega, rfl, by show MatAt _ _ _ _ _; rw [HC0.out]; exact HK.out.drewN _, hbr.trans (below_drewN _ _ _)⟩
          case round =>
            obtain ⟨q, hq, rfl, HT, hb2⟩ := hrel
            by_cases hlq : q < m2
            · have hT1 : ((cleanTo M a c k).set k (combTo R P c q))[k]? = some (combTo R P c q) := by rw [List.getElem?_set_self hkC]
              have hT2 : ((cleanTo M a c k).set k (combTo R P c q))[a]? = some P := by rw [List.getElem?_set_ne hka]; exact HRK.out.2
              obtain ⟨-, t1, t2, town⟩ := HT.out.cells HV.out.1 hT1
              obtain ⟨-, p1, -, -⟩ := HT.out.cells HV.out.2 hT2
              have hrp : R.length = P.length := by omega
              have hcl := combTo_len (c := c) hrp (show q ≤ R.length by omega)
              have tq := t1 q (by omega)
              have pq := p1 q (by omega)
              have tf := t2 q
              have e3 : (combTo R P c q)[q]'(by omega) = R[q]'(by omega) := (List.getElem?_eq_some_iff.1 (combTo_at hrp (by omega))).2
              rw [e3] at tq
              have hst := combTo_step (c := c) hrp (show q < R.length by omega)
              rw [HGD.out.1, HGD.out.2] at hst
              have xb : (R[q]'(by omega)).natAbs ≤ 16777216 := hrb.out _ (List.getElem_mem _)
              have yb : (P[q]'(by omega)).natAbs ≤ 16777216 := hpb.out _ (List.getElem_mem _)
              obtain ⟨x, hx⟩ : ∃ x, x = R[q]'(by omega) := ⟨_, rfl⟩
              obtain ⟨y, hy⟩ : ∃ y, y = P[q]'(by omega) := ⟨_, rfl⟩
              rw [← hx] at tq hst xb
              rw [← hy] at pq hst yb
              have hh2 := HT.out.head HV.out.1
              have hha2 := HT.out.head HV.out.2
              have HST := Lib.hid hst
              have HTO := Lib.hid town
              have HT1 := Lib.hid hT1
              clear hx hy e3 hst town hT1 hT2 t1 t2 p1
              have m1 : (x * aa).natAbs ≤ 281474976710656 := by rw [Int.natAbs_mul]; exact Nat.mul_le_mul xb hab
              have m2' : (y * bb).natAbs ≤ 281474976710656 := by rw [Int.natAbs_mul]; exact Nat.mul_le_mul yb hbbd
              have w1 : IntKind.i64.wrap (x * aa) = x * aa := by rw [IntKind.wrap_i64]; omega
              have w2 : IntKind.i64.wrap (y * bb) = y * bb := by rw [IntKind.wrap_i64]; omega
              have w3 : IntKind.i64.wrap (x * aa - y * bb) = x * aa - y * bb := by rw [IntKind.wrap_i64]; omega
              go_wp2
              go_region
              go_wp2
              have hown : (wr.setCell ⟨g, q, none⟩ (.int .i64 (x * aa - y * bb))).ownsRow base 2 1 (.slice (some ⟨g, 0, none⟩) m2 cap) m2 (((combTo R P c q).set q (x * aa - y * bb)).map vI) := by
                rw [List.map_set]
                exact owns_setCell (o := q) (v := .int .i64 (x * aa - y * bb)) HTO.out
              obtain ⟨n1, n2⟩ := HT.out.put2 HV.out.1 HT1.out (by simp) hown ⟨rfl, rfl, rfl, by simp [World.setCell], fun b _ hne => Below.heap_setCell _ _ _ _ (fun e => hne (by rw [e]))⟩
              rw [List.set_set, HST.out] at n1
              exact ⟨⟨q + 1, hlq, by go_num, n1.drewN 1, (hb2.trans n2).trans (below_drewN _ _ 1)⟩, by simp [intOf]; omega⟩
            · have hqe : q = m2 := by omega
              subst hqe
              have hrp : R.length = P.length := by omega
              have hfin : combTo R P c q = combL R P c := by
                unfold combTo
                rw [List.drop_eq_nil_of_le (by omega), List.append_nil, List.take_of_length_le (by rw [combL_len hrp]; omega)]
              have hT0 := HT.out
              rw [hfin] at hT0
              have HT2 := Lib.hid hT0
              have hT1 : ((cleanTo M a c k).set k (combL R P c))[k]? = some (combL R P c) := by rw [List.getElem?_set_self hkC]
              have HT1 := Lib.hid hT1
              obtain ⟨-, -, -, town⟩ := HT2.out.cells HV.out.1 hT1
              have HTO := Lib.hid town
              have HRP := Lib.hid hrp
              clear hT0 hT1 town hfin HT hrp
              go_wp2_with fail
              refine (shrink_calls _ base g q cap (combL R P c) HTO.out (by rw [combL_len HRP.out]; omega) hl2 (combL_bd hrb.out hpb.out)).mono ?_
              rintro e w1 ⟨rfl, ho, hg⟩
              obtain ⟨n1, n2⟩ := HT2.out.put2 HV.out.1 HT1.out (shrinkL_len _) ho hg
              rw [List.set_set, ← HRE.out.1 hka h0, HS1.out] at n1
              have HN2 := Lib.hid n1
              have hb3 := hb2.trans n2
              clear n1 n2 ho hg HS1 HS2 HK HRE HT2 HTO HT1 HC0
              go_wp2
              exact ⟨⟨k + 1, hlt, by go_num, HN2, hb3⟩, by simp [intOf]; omega⟩
    · have hke : k = M.length := by omega
      subst hke
      have HF : Hid (MatAt base wo (.slice (some ⟨ob, 0, none⟩) M.length oc) vs (cleanL M a c)) := by
        have := HK.out
        unfold cleanTo at this
        rwa [List.drop_length, List.append_nil, ← cleanL_len M a c, List.take_length, cleanL_len] at this
      clear HK hkl
      go_wp2
      go_end0
      exact ⟨rfl, HF.out, hbr⟩
end Go.Proofs.Ytpchodnknkdlgaa
