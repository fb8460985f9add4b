import Derived.Test.YtcdldjiogoapkaaSgAG
namespace Go.Proofs.Ytcdldjiogoapkaa
open Go.RowKit
attribute [local go_sem] World.cell?_alloc_some frozen_alloc_some field_na field_ac field_as

theorem refMerge_calls (w : World) (a b : Ag) :
    Calls Try.prog 24 #[a.val, b.val] w fun e w' => e = .returned (Ag.merge a b).val ∧ Below w.heap.size w w' := by
  go_enter Try.func24, Try.ntmps24
  go_wp2
  all_goals
    refine bodyPost_ret (v := (Ag.merge a b).val) (by simp [results, Try.results24, go_sem]; unfold Ag.merge Ag.zero; split <;> (try split) <;> (try split) <;> (try split) <;> first | (exfalso; omega) | simp_all) rfl ⟨rfl, ?_⟩
    repeat' first
      | exact Below.refl _ _
      | refine Below.alloc ?_ (by simp <;> omega) _
      | refine Below.setCell ?_ (by simp [World.setCell] <;> omega) _

theorem agV_snoc (xs : List Int) (v : Int) : agV (xs ++ [v]) = ⟨(xs.length : Int) + 1, wrap64 ((agV xs).s + v), if xs.length = 0 ∨ v < (agV xs).mn then v else (agV xs).mn, if xs.length = 0 ∨ (agV xs).mx < v then v else (agV xs).mx⟩ := by
  cases xs with
  | nil => simp [agV, Ag.zero, sumV, minV, maxV]
  | cons x xs =>
    simp only [List.cons_append, agV, sumV_append, minV_append, maxV_append, List.length_append, List.length_cons, List.length_nil, sumV, minV, maxV]
    have e : wrap64 (wrap64 (x + sumV xs) + v) = wrap64 (x + (sumV xs + (v + 0))) := by unfold wrap64; omega
    rw [e]
    simp
theorem agV_len (xs : List Int) : (agV xs).c = xs.length := by cases xs <;> simp [agV, Ag.zero]

set_option maxRecDepth 100000 in
set_option maxHeartbeats 4000000 in
theorem refOf_calls (w : World) (v : Value) (vs : List Int) {ca : Nat} {χ : Col} (ha : IsI ca χ w v vs) :
    Calls Try.prog 26 #[v] w fun e w' => e = .returned (agV vs).val ∧ Below w.heap.size w w' := by
  obtain ⟨A, c, rfl, a1, a2, a3, -⟩ := id ha
  unfold maxLen at a2
  have HA := Lib.hid ha
  go_enter Try.func26, Try.ntmps26
  go_wp2
  go_loopw [4] (fun i wr => ∃ k : Nat, k ≤ vs.length ∧ i = .int .i64 k ∧ wr.heap[w.heap.size]? = some (BoxA Ag.zero) ∧ wr.heap[w.heap.size + 1]? = some (BoxA ⟨vs.length, (agV (vs.take k)).s, (agV (vs.take k)).mn, (agV (vs.take k)).mx⟩) ∧ Below w.heap.size w wr) (fun i _ => vs.length - (intOf i).toNat)
  case atStart =>
    have h1 := heap_alloc_at (w.alloc (BoxA Ag.zero)) (BoxA ⟨vs.length, 0, 0, 0⟩)
    simp only [World.size_alloc] at h1
    exact ⟨0, by omega, rfl, kept_at ((Below.refl _ _).alloc (Nat.le_refl _) _) (heap_alloc_at w _), h1, ((Below.refl _ w).alloc (Nat.le_refl _) _).alloc (by simp) _⟩
  case round =>
    obtain ⟨k, hk, rfl, hz, hat, hb⟩ := hrel
    by_cases hlt : k < vs.length
    · have hI := ha.keep (Same.below' hb)
      obtain ⟨gb, go, rfl, hcell⟩ := hI.getI k hlt
      obtain ⟨⟨x0, x1, x2, x3⟩, y0, y1, y2, y3⟩ := cells4 hat
      have hS := Lib.hid (agV_snoc (vs.take k) vs[k])
      have hT : Hid (vs.take (k + 1) = vs.take k ++ [vs[k]]) := List.take_succ_eq_append_getElem hlt
      have hL : (vs.take k).length = k := by simp; omega
      obtain ⟨S, hSd⟩ : ∃ S, S = agV (vs.take k) := ⟨_, rfl⟩
      rw [← hSd] at hat x1 x2 x3 hS
      have hgb : gb < w.heap.size := by
        obtain ⟨b', o', e, hc'⟩ := HA.out.getI k hlt
        cases e
        exact World.block_lt_of_cell? w _ hc'
      have hne : gb ≠ w.heap.size + 1 := by omega
      clear hSd hI
      by_cases hk0 : k = 0
      · subst hk0
        rw [Nat.add_zero] at hcell
        go_wp2
        go_region
        go_wp2
        go_quiet (fail)
        go_wp2
        go_quiet (fail)
        go_wp2
        have hE : agV (vs.take 1) = ⟨((vs.take 0).length : Int) + 1, wrap64 (S.s + vs[0]), vs[0], vs[0]⟩ := by
          rw [hT.out, hS.out, if_pos (.inl hL), if_pos (.inl hL)]
        refine ⟨⟨1, by omega, rfl, ?_, ?_, ?_⟩, by simp [intOf]; omega⟩
        · exact hset_ne (hset_ne (hset_ne hz _ _ (by omega)) _ _ (by omega)) _ _ (by omega)
        · rw [hE]; exact hset (hset (hset hat _ _) _ _) _ _
        · exact ((((hb.setCell (by simp) _).trans (below_drewN _ _ _)).setCell (by simp) _).trans (below_drewN _ _ _)).setCell (by simp) _
      · have hkb : ((k : Int) == 0) = false := by simp; omega
        by_cases c1 : vs[k] < S.mn
        all_goals by_cases c2 : S.mx < vs[k]
        all_goals
          go_wp2
          go_region
          go_wp2
          go_quiet (fail)
          go_wp2
          go_quiet (fail)
          go_wp2
        all_goals refine ⟨⟨k + 1, by omega, by go_num, ?_, ?_, ?_⟩, by simp [intOf]; omega⟩
        all_goals try simp only [hdrewN]
        · exact hset_ne (hset_ne (hset_ne hz _ _ (by omega)) _ _ (by omega)) _ _ (by omega)
        · rw [hT.out, hS.out, if_pos (.inr c1), if_pos (.inr c2)]; exact hset (hset (hset hat _ _) _ _) _ _
        · exact ((((hb.setCell (by simp) _).trans (below_drewN _ _ _)).setCell (by simp) _).trans (below_drewN _ _ _)).setCell (by simp) _
        · exact hset_ne (hset_ne hz _ _ (by omega)) _ _ (by omega)
        · rw [hT.out, hS.out, if_pos (.inr c1), if_neg (by rw [hL]; omega)]; exact hset (hset hat _ _) _ _
        · exact ((((hb.setCell (by simp) _).trans (below_drewN _ _ _)).setCell (by simp) _).trans (below_drewN _ _ _))
        · exact hset_ne (hset_ne hz _ _ (by omega)) _ _ (by omega)
        · rw [hT.out, hS.out, if_neg (by rw [hL]; omega), if_pos (.inr c2)]; exact hset (hset hat _ _) _ _
        · refine Below.setCell ?_ (by simp) _
          repeat' first
            | exact hb
            | refine Below.setCell ?_ (by simp) _
            | refine Below.trans ?_ (below_drewN _ _ _)
        · exact hset_ne hz _ _ (by omega)
        · rw [hT.out, hS.out, if_neg (by rw [hL]; omega), if_neg (by rw [hL]; omega)]; exact hset hat _ _
        · repeat' first
            | exact hb
            | refine Below.setCell ?_ (by simp) _
            | refine Below.trans ?_ (below_drewN _ _ _)
    · have hkk : k = vs.length := by omega
      subst hkk
      obtain ⟨⟨x0, x1, x2, x3⟩, y0, y1, y2, y3⟩ := cells4 hat
      obtain ⟨⟨z0, z1, z2, z3⟩, u0, u1, u2, u3⟩ := cells4 hz
      rw [List.take_length] at x1 x2 x3
      have hal : Hid (agV vs = ⟨vs.length, (agV vs).s, (agV vs).mn, (agV vs).mx⟩) := by show _ = _; rw [← agV_len vs]
      obtain ⟨S, hSd⟩ : ∃ S, S = agV vs := ⟨_, rfl⟩
      rw [← hSd] at x1 x2 x3 hal
      have HSd := Lib.hid hSd
      clear hSd hat
      have hal2 : Hid (S.c = vs.length) := by show _ = _; rw [hal.out]
      go_wp2
      refine bodyPost_ret (v := S.val) (by simp only [Ag.val]; rw [hal2.out]; simp [results, Try.results26, go_sem, *]) rfl ⟨by rw [HSd.out], ?_⟩
      exact (((hb.setCell (by simp) _).setCell (by simp) _).setCell (by simp) _).setCell (by simp) _
end Go.Proofs.Ytcdldjiogoapkaa
