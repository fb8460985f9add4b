import Derived.Test.YtpchodnknkdlgaaInAA
namespace Go.Proofs.Ytpchodnknkdlgaa
open Go.RowKit
attribute [local go_sem] World.cell?_alloc_some

/-! Rows are reduced. -/
/-- an entry. -/
def ent (M : List (List Int)) (j c : Nat) : Int := (M.getD j []).getD c 0
/-- the first row from i on that has something in a column. -/
def findRow (M : List (List Int)) (c i : Nat) : Option Nat := (List.range M.length).find? fun j => decide (i ≤ j) && (ent M j c != 0)
def swapL (M : List (List Int)) (a i : Nat) : List (List Int) := (M.set a (M.getD i [])).set i (M.getD a [])
def redStep (s : List (List Int) × Nat) (c : Nat) : List (List Int) × Nat := match findRow s.1 c s.2 with
  | none => s
  | some i => (cleanL (swapL s.1 s.2 i) s.2 c, s.2 + 1)
def redTo (M : List (List Int)) (k : Nat) : List (List Int) × Nat := (List.range k).foldl redStep (M, 0)
theorem redTo_succ (M : List (List Int)) (k : Nat) : redTo M (k + 1) = redStep (redTo M k) k := by unfold redTo; rw [List.range_succ, List.foldl_append]; rfl
theorem findRow_some {M : List (List Int)} {c i j : Nat} (h1 : i ≤ j) (h2 : j < M.length) (h3 : ent M j c ≠ 0) (h4 : ∀ k, i ≤ k → k < j → ent M k c = 0) : findRow M c i = some j := by
  unfold findRow
  rw [List.find?_eq_some_iff_getElem]
  refine ⟨by simp [h1, h3], j, by simpa using h2, by simp, fun k hk => ?_⟩
  have hk2 : k < j := hk
  rw [List.getElem_range]
  by_cases hik : i ≤ k
  · simp [h4 k hik hk2]
  · simp [hik]
theorem findRow_none {M : List (List Int)} {c i : Nat} (h : ∀ k, i ≤ k → k < M.length → ent M k c = 0) : findRow M c i = none := by
  unfold findRow
  rw [List.find?_eq_none]
  intro k hk
  have hk := List.mem_range.1 hk
  by_cases hik : i ≤ k
  · simp [h k hik hk]
  · simp [hik]
theorem swapL_len (M : List (List Int)) (a i : Nat) : (swapL M a i).length = M.length := by simp [swapL]
/-- where a row comes from. -/
def sw (a i j : Nat) : Nat := if j = i then a else if j = a then i else j
theorem sw_lt {a i j n : Nat} (ha : a < n) (hi : i < n) (hj : j < n) : sw a i j < n := by unfold sw; split <;> (try split) <;> omega
theorem sw_inj {a i j k : Nat} (h : sw a i j = sw a i k) : j = k := by
  unfold sw at h; split at h <;> split at h <;> (try split at h) <;> (try split at h) <;> omega
theorem swap_at {α : Type} (l : List α) (a i j : Nat) (x y : α) (hx : l[i]? = some x) (hy : l[a]? = some y) : ((l.set a x).set i y)[j]? = l[sw a i j]? := by
  obtain ⟨hi, -⟩ := List.getElem?_eq_some_iff.1 hx
  obtain ⟨ha, -⟩ := List.getElem?_eq_some_iff.1 hy
  unfold sw
  rw [List.getElem?_set]
  by_cases h : i = j
  · subst h; rw [if_pos rfl, if_pos rfl, if_pos (by simpa using hi), hy]
  · rw [if_neg h, if_neg (fun e => h e.symm), List.getElem?_set]
    by_cases h2 : a = j
    · subst h2; rw [if_pos rfl, if_pos rfl, if_pos ha, hx]
    · rw [if_neg h2, if_neg (fun e => h2 e.symm)]
theorem swapL_at {M : List (List Int)} {a i : Nat} (ha : a < M.length) (hi : i < M.length) (j : Nat) : (swapL M a i)[j]? = M[sw a i j]? := by
  unfold swapL
  rw [show M.getD i [] = M[i] by simp [List.getD, hi], show M.getD a [] = M[a] by simp [List.getD, ha]]
  exact swap_at M a i j _ _ (List.getElem?_eq_getElem hi) (List.getElem?_eq_getElem ha)
theorem MatAt.swap {base ob n oc : Nat} {W : World} {vs : List Value} {M : List (List Int)} (h : MatAt base W (.slice (some ⟨ob, 0, none⟩) n oc) vs M) {a i : Nat} {sa si : Value} (ha : vs[a]? = some sa) (hi : vs[i]? = some si) :
    MatAt base ((W.setCell ⟨ob, a, none⟩ si).setCell ⟨ob, i, none⟩ sa) (.slice (some ⟨ob, 0, none⟩) n oc) ((vs.set a si).set i sa) (swapL M a i) ∧ Below base W ((W.setCell ⟨ob, a, none⟩ si).setCell ⟨ob, i, none⟩ sa) := by
  have hl := h.len
  obtain ⟨hal, -⟩ := List.getElem?_eq_some_iff.1 ha
  obtain ⟨hil, -⟩ := List.getElem?_eq_some_iff.1 hi
  have ho := h.out
  obtain ⟨A, c2, e⟩ := owns_form ho
  cases e
  have hob : base ≤ ob := (ho.lt ob rfl).1
  have kb : ∀ b, b ≠ ob → ((W.setCell ⟨ob, a, none⟩ si).setCell ⟨ob, i, none⟩ sa).heap[b]? = W.heap[b]? := fun b hb => (Below.heap_setCell _ _ _ _ hb).trans (Below.heap_setCell _ _ _ _ hb)
  refine ⟨⟨?_, fun j hj => ?_, fun j k s t hs ht hjk b e => ?_, fun j s hs b e => ?_⟩, ⟨rfl, rfl, rfl, by simp [World.setCell], fun b hb => kb b (by omega)⟩⟩
  · rw [swapL_len]
    exact owns_setCell (owns_setCell ho)
  · rw [swapL_len] at hj
    have hM := swapL_at (M := M) (a := a) (i := i) (by omega) (by omega) j
    have hs := sw_lt (a := a) (i := i) (j := j) (show a < M.length by omega) (by omega) hj
    rw [List.getElem?_eq_getElem hs, List.getElem?_eq_getElem (by rw [swapL_len]; exact hj)] at hM
    have hM := Option.some.inj hM
    obtain ⟨g, cap, h1, h2⟩ := h.row _ hs
    refine ⟨g, cap, ?_, ?_⟩
    · rw [swap_at vs a i j _ _ hi ha, h1, hM]
    · rw [hM]
      exact owns_same h2 fun b e => kb b fun e2 => h.no _ _ h1 b e (by rw [e2]; rfl)
  · rw [swap_at vs a i j _ _ hi ha] at hs
    rw [swap_at vs a i k _ _ hi ha] at ht
    exact h.ne _ _ s t hs ht (fun e2 => hjk (sw_inj e2)) b e
  · rw [swap_at vs a i j _ _ hi ha] at hs
    exact h.no _ s hs b e

theorem swapL_mem {M : List (List Int)} {a i : Nat} (ha : a < M.length) (hi : i < M.length) {r : List Int} (h : r ∈ swapL M a i) : r ∈ M := by
  obtain ⟨j, hj, rfl⟩ := List.getElem_of_mem h
  have e := swapL_at ha hi j
  rw [List.getElem?_eq_getElem hj] at e
  exact List.mem_of_getElem? e.symm
theorem ent_eq {C : List (List Int)} {j k : Nat} (hj : j < C.length) (hk : k < C[j].length) : ent C j k = C[j][k] := by
  unfold ent; simp [List.getD, hj, hk]
set_option maxRecDepth 100000 in
set_option maxHeartbeats 8000000 in
theorem reduce_calls (W : World) (base : Nat) (v : Value) (vs : List Value) (M : List (List Int)) (n : Nat) (hM : MatAt base W v vs M) (hn : ∀ k, ∀ r ∈ (redTo M k).1, r.length = n) (hb : ∀ k, k ≤ n → ∀ r ∈ (redTo M k).1, Bd 16777216 r) (hm : ∀ k, (redTo M k).1.length = M.length) (hl : M.length ≤ 100) (hl2 : n ≤ 1000) :
    Calls Try.prog 21 #[v, .int .i64 n] W fun e W' => ∃ vs', e = .returned v ∧ MatAt base W' v vs' (redTo M n).1 ∧ Below base W W' := by
  obtain ⟨A, oc, rfl⟩ := owns_form hM.out
  have HM := Lib.hid hM
  have HN := Lib.hid hn
  have HB := Lib.hid hb
  have HL := Lib.hid hm
  clear hM hn hb hm
  go_enter Try.func21, Try.ntmps21
  go_wp2
  go_step3
  go_wp2
  go_step3
  go_wp2
  go_loopw [5, 9] (fun a i wr => ∃ (k : Nat) (vs' : List Value), k ≤ n ∧ i = .int .i64 k ∧ a = .int .i64 (redTo M k).2 ∧ Hid (MatAt base wr (.slice A M.length oc) vs' (redTo M k).1) ∧ (redTo M k).2 ≤ k ∧ Below base W wr) (fun _ i _ => n - (intOf i).toNat)
  case atStart => exact ⟨0, vs, by omega, rfl, rfl, HM.out, Nat.le_refl _, Below.refl _ _⟩
  case round =>
    obtain ⟨k, vs', hk, rfl, rfl, HK, hak, hbr⟩ := hrel
    obtain ⟨wo, rfl⟩ : ∃ wo, wo = wr := ⟨_, rfl⟩
    have hCl := HL.out k
    have HS := Lib.hid (redTo_succ M k)
    have HCN := Lib.hid (HN.out k)
    obtain ⟨C, hC⟩ : ∃ C, C = (redTo M k).1 := ⟨_, rfl⟩
    obtain ⟨a, ha⟩ : ∃ a, a = (redTo M k).2 := ⟨_, rfl⟩
    have hpair : redTo M k = (C, a) := by rw [hC, ha]
    rw [hpair] at HS
    rw [← hC] at HK hCl HCN
    rw [← ha] at hak ⊢
    by_cases hlt : k < n
    · have HCB := Lib.hid (HB.out k hk)
      rw [← hC] at HCB
      clear hC ha hpair
      go_wp2
      go_loopw [5, 7] (fun s i wr => ∃ j : Nat, s = .int .i64 a ∧ a ≤ j ∧ (j ≤ C.length ∨ j = a) ∧ i = .int .i64 j ∧ Hid (∀ q, a ≤ q → q < j → ent C q k = 0) ∧ ∃ d, wr = wo.drewN d) (fun _ i _ => C.length - (intOf i).toNat)
      case atStart => exact ⟨a, rfl, Nat.le_refl _, .inr rfl, rfl, fun q h1 h2 => by omega, 0, rfl⟩
      case round =>
        obtain ⟨j, rfl, hj1, hj2, rfl, HZ, d, rfl⟩ := hrel
        by_cases hjl : j < C.length
        · obtain ⟨ob, oc2, g, cap, e, hv, hh, hf, hcs, -, -⟩ := HK.out.cell j hjl
          injection e with e1 e2 e3
          subst e1 e3
          clear e2
          have hrl : C[j].length = n := HCN.out _ (List.getElem_mem hjl)
          have hck := hcs k (by omega)
          have hek := ent_eq hjl (show k < C[j].length by omega)
          obtain ⟨x, hx⟩ : ∃ x, x = ent C j k := ⟨_, rfl⟩
          rw [← hek, ← hx] at hck
          rw [hrl] at hh hv
          have HX := Lib.hid hx
          have HV := Lib.hid hv
          clear hx hek hv hcs
          by_cases h0 : x = 0
          · have HZ2 : Hid (∀ q, a ≤ q → q < j + 1 → ent C q k = 0) := fun q h1 h2 => by
              by_cases hqj : q = j
              · subst hqj; rw [← HX.out, h0]
              · exact HZ.out q h1 (by omega)
            obtain rfl := h0
            have c1 : (wo.drewN d).cell? ⟨ob, j, none⟩ = some (.slice (some ⟨g, 0, none⟩) n cap) := hh
            have c2 : (wo.drewN d).cell? ⟨g, k, none⟩ = some (.int .i64 0) := hck
            clear HZ hh hck hf
            go_wp2
            exact ⟨⟨j + 1, rfl, by omega, .inl (by omega), by go_num, HZ2, d, rfl⟩, by simp [intOf]; omega⟩
          · have hfr : Hid (redTo M (k + 1) = (cleanL (swapL C a j) a k, a + 1)) := by
              show _ = _
              rw [HS.out]
              unfold redStep
              rw [findRow_some hj1 hjl (by rw [← HX.out]; exact h0) HZ.out]
            have hne : (x != 0) = true := by simpa using h0
            have hal : a < C.length := by omega
            obtain ⟨ga, capa, hva, -⟩ := HK.out.row a hal
            have hra : C[a].length = n := HCN.out _ (List.getElem_mem hal)
            rw [hra] at hva
            have hha := HK.out.head hva
            have HVA := Lib.hid hva
            have hfa : wo.frozen? ⟨ob, a, none⟩ = false := by have ho := HK.out.out; rw [hCl] at ho; exact owns_frozen ho a
            have hfj : wo.frozen? ⟨ob, j, none⟩ = false := by have ho := HK.out.out; rw [hCl] at ho; exact owns_frozen ho j
            have c1 : (wo.drewN d).cell? ⟨ob, j, none⟩ = some (.slice (some ⟨g, 0, none⟩) n cap) := hh
            have c2 : (wo.drewN d).cell? ⟨g, k, none⟩ = some (.int .i64 x) := hck
            have c3 : (wo.drewN (d + 1)).cell? ⟨ob, j, none⟩ = some (.slice (some ⟨g, 0, none⟩) n cap) := hh
            have c4 : (wo.drewN (d + 1)).cell? ⟨ob, a, none⟩ = some (.slice (some ⟨ga, 0, none⟩) n capa) := hha
            have c5 : (wo.drewN (d + 1)).frozen? ⟨ob, a, none⟩ = false := hfa
            obtain ⟨z, c6⟩ : ∃ z, ((wo.drewN (d + 1)).setCell ⟨ob, a, none⟩ (.slice (some ⟨g, 0, none⟩) n cap)).cell? ⟨ob, j, none⟩ = some z := by
              by_cases hja : a = j
              · subst hja; exact ⟨_, World.cell?_setCell_same _ _ _ c4⟩
              · exact ⟨_, (World.cell?_setCell_other _ _ _ _ (fun e => hja (by injection e))).trans c3⟩
            have c7 : ((wo.drewN (d + 1)).setCell ⟨ob, a, none⟩ (.slice (some ⟨g, 0, none⟩) n cap)).frozen? ⟨ob, j, none⟩ = false := by
              rw [World.frozen?_setCell]; exact hfj
            clear hva HZ hf
            go_wp2
            go_region
            go_wp2_with fail
            have hsl := swapL_len C a j
            have HSW := Lib.hid ((HK.out.drewN (d + 1)).swap HVA.out HV.out)
            refine (clean_calls _ base (.slice (some ⟨ob, 0, none⟩) M.length oc) _ (swapL C a j) a k n HSW.out.1 (fun r hr => HCN.out r (swapL_mem hal hjl hr)) (by omega) hlt (fun r hr => HCB.out r (swapL_mem hal hjl hr)) (by omega) hl2).mono ?_
            rintro e Wn ⟨rfl, R1, R2⟩
            have HR := Lib.hid R1
            have hb3 : Below base W Wn := ((hbr.trans (below_drewN _ _ _)).trans HSW.out.2).trans R2
            clear R1 R2 c1 c2 c3 c4 c5 c6 c7 hfa hha hh hck hfj
            go_wp2
            exact ⟨⟨k + 1, _, by omega, by go_num, by rw [hfr.out]; go_num, by show MatAt _ _ _ _ _; rw [hfr.out]; exact HR.out, by rw [hfr.out]; exact Nat.succ_le_succ hak, hb3⟩, by simp [intOf]; omega⟩
        · have hfr : Hid (redTo M (k + 1) = (C, a)) := by
            show _ = _
            rw [HS.out]
            unfold redStep
            rw [findRow_none (fun q h1 h2 => HZ.out q h1 (by omega))]
          go_wp2
          exact ⟨⟨k + 1, _, by omega, by go_num, by rw [hfr.out], by show MatAt _ _ _ _ _; rw [hfr.out]; exact HK.out.drewN d, by rw [hfr.out]; exact Nat.le_succ_of_le hak, hbr.trans (below_drewN _ _ _)⟩, by simp [intOf]; omega⟩
    · have hkn : k = n := by omega
      go_wp2
      rw [Exit.noGoto_ret]
      go_ret
      subst hkn
      exact ⟨_, rfl, by rw [← hC]; exact HK.out, hbr⟩
end Go.Proofs.Ytpchodnknkdlgaa
