import Derived.Test.YtipdmnfkigoanaaIvF
namespace Go.Proofs.Ytipdmnfkigoanaa
open Go.RowKit
attribute [local go_sem] World.cell?_alloc_some frozen_alloc_some

set_option maxRecDepth 100000 in
set_option maxHeartbeats 4000000 in
theorem refHas_calls (w : World) (v : Value) (l : List Sp) (key : Nat) (hr : RdS w v l) :
    Calls Try.prog 30 #[v, .int .i64 key] w fun e w' => e = .returned (.bool (memB key l)) ∧ w' = w := by
  obtain ⟨A, cap, rfl, a1, a2, a3, -⟩ := id hr
  unfold maxLen at a2
  have HR := Lib.hid hr
  clear hr
  go_enter Try.func30, Try.ntmps30
  go_wp2
  go_loop [5] (fun i => ∃ k : Nat, k ≤ l.length ∧ i = .int .i64 k ∧ Hid (memB key (l.take k) = false)) (fun i => l.length - (intOf i).toNat)
  case atStart => exact ⟨0, by omega, rfl, rfl⟩
  case round =>
    obtain ⟨k, hk', rfl, HM⟩ := hrel
    by_cases hlt : k < l.length
    · obtain ⟨gb, go, rfl, p0, p1, q0, q1⟩ := HR.out.get k hlt
      have HT : Hid (l.take (k + 1) = l.take k ++ [l[k]]) := List.take_succ_eq_append_getElem hlt
      have HD := Lib.hid (split_at l k hlt)
      obtain ⟨s, hs⟩ : ∃ s, s = l[k] := ⟨_, rfl⟩
      rw [← hs] at p0 p1 HT HD q0 q1
      clear hs
      by_cases c1 : s.1 ≤ key
      · by_cases c2 : key ≤ s.2
        · have HE : Hid (memB key l = true) := by
            show _ = _; rw [HD.out]; unfold memB; rw [List.any_append, List.any_cons]; simp [c1, c2]
          go_wp2
          go_ret
          exact ⟨ret_bool HE.out.symm, rfl⟩
        · have HM2 : Hid (memB key (l.take (k + 1)) = false) := by
            show _ = _; rw [HT.out]; unfold memB at *; rw [List.any_append, HM.out]; simp [c2]
          go_wp2
          refine ⟨⟨k + 1, hlt, by go_num, HM2⟩, by simp [intOf]; omega⟩
      · have HM2 : Hid (memB key (l.take (k + 1)) = false) := by
          show _ = _; rw [HT.out]; unfold memB at *; rw [List.any_append, HM.out]; simp [c1]
        go_wp2
        refine ⟨⟨k + 1, hlt, by go_num, HM2⟩, by simp [intOf]; omega⟩
    · have HE : Hid (memB key l = false) := by
        show _ = _; have := HM.out; rwa [List.take_of_length_le (by omega)] at this
      go_wp2
      go_ret
      exact ⟨ret_bool HE.out.symm, rfl⟩

theorem rdN_at {w : World} {b : Nat} {t : TypeId} {fr : Nat × Nat} (l : List Nat) (h : w.heap[b]? = some (.cells (l.flatMap nc).toArray t fr)) (hl : l.length ≤ 1000000) (n : Nat) (hn : n = l.length) : RdN w (.slice (some ⟨b, 0, none⟩) n n) l := by
  subst hn
  refine ⟨_, _, rfl, Nat.le_refl _, by unfold maxLen; omega, ⟨by omega, fun h => by cases h⟩, fun i hi => ⟨b, 0, nc l[i], rfl, rfl, rfl, rfl, fun j hj => ?_⟩⟩
  have hj0 : j = 0 := by simpa [nc] using hj
  subst hj0
  have hc := flat_chunk nc 1 (fun _ => rfl) l i hi
  have hlen := flat_len nc 1 (fun _ => rfl) l
  simp only [World.cell?, h, Nat.zero_add, Nat.add_zero, Nat.mul_one] at *
  have e : (l.flatMap nc)[i]? = some (nc l[i])[0] := by
    have := congrArg (fun x => x[0]?) hc
    simpa [List.getElem?_take, List.getElem?_drop, nc] using this
  simpa using e

set_option maxRecDepth 100000 in
set_option maxHeartbeats 4000000 in
theorem cuts_calls (w : World) (v u : Value) (l m : List Sp) (B : Nat) (hB : w.heap[B]? = some (.cells #[v, u] 64)) (hr : RdS w v l) (hr2 : RdS w u m) (hn : l.length ≤ 10000) (hn2 : m.length ≤ 10000) :
    Calls Try.prog 39 #[.slice (some ⟨B, 0, none⟩) 2 2] w fun e w' => ∃ v', e = .returned v' ∧ RdN w' v' (cutsL (l ++ m)) ∧ Below w.heap.size w w' := by
  have hBlt : B < w.heap.size := (Array.getElem?_eq_some_iff.1 hB).1
  obtain ⟨⟨x0, x1⟩, -⟩ := cells2 hB
  have hpre : ∃ pre : Nat → List Sp, pre 0 = [] ∧ pre 2 = l ++ m ∧ ∀ i, i < 2 → ∃ x vx, w.cell? ⟨B, i, none⟩ = some vx ∧ RdS w vx x ∧ pre (i + 1) = pre i ++ x ∧ x.length ≤ 10000 ∧ (pre i).length ≤ 10000 := by
    refine ⟨fun i => if i = 0 then [] else if i = 1 then l else l ++ m, rfl, rfl, fun i hi => ?_⟩
    have : i = 0 ∨ i = 1 := by omega
    rcases this with rfl | rfl
    · exact ⟨l, v, x0, hr, rfl, hn, by simp⟩
    · exact ⟨m, u, x1, hr2, rfl, hn2, by simpa using hn⟩
  obtain ⟨pre, hp0, hp2, hpre⟩ := hpre
  have HP0 := Lib.hid hp0
  have HP2 := Lib.hid hp2
  have HPRE := Lib.hid hpre
  have HW := Lib.hid (WfS.append hr.wf hr2.wf)
  have HPW : Hid (∀ i, i ≤ 2 → WfS (pre i)) := by
    intro i hi
    have hw := HW.out
    rw [← HP2.out] at hw
    obtain ⟨x, vx, -, -, e1, -⟩ := HPRE.out 0 (by omega)
    obtain ⟨y, vy, -, -, e2, -⟩ := HPRE.out 1 (by omega)
    have : i = 0 ∨ i = 1 ∨ i = 2 := by omega
    rcases this with rfl | rfl | rfl
    · rw [HP0.out]; intro s hs; simp at hs
    · intro s hs; exact hw s (by rw [e2]; exact List.mem_append_left _ hs)
    · exact hw
  clear hp0 hp2 hpre hr hr2 x0 x1 hB
  go_enter Try.func39, Try.ntmps39
  go_wp2
  go_loopw [3, 4] (fun o i wr => ∃ k : Nat, k ≤ 2 ∧ i = .int .i64 k ∧ RdN wr o (cutsL (pre k)) ∧ Below w.heap.size w wr) (fun _ i _ => 2 - (intOf i).toNat)
  case atStart =>
    refine ⟨0, by omega, rfl, ?_, (Below.refl _ w).alloc (Nat.le_refl _) _⟩
    rw [HP0.out]
    exact rdN_at [0, 4294967296] (heap_alloc_at w _) (by simp) 2 rfl
  case round =>
    obtain ⟨k, hk, rfl, RO, hb⟩ := hrel
    by_cases hlt : k < 2
    · obtain ⟨x, vx, hx, hrx, hpk, hxl, hpl⟩ := HPRE.out k hlt
      have HPK := Lib.hid hpk
      obtain ⟨X, xcap, rfl, y1, y2, y3, -⟩ := id hrx
      unfold maxLen at y2
      have HRX := Lib.hid hrx
      have HX := Lib.hid hx
      have HPWx := HPW.out (k + 1) (by omega)
      rw [HPK.out] at HPWx
      have HPWX := Lib.hid HPWx
      have hcx : wr.cell? ⟨B, k, none⟩ = some (.slice X x.length xcap) := (hb.cell hBlt).trans HX.out
      clear hrx hx hpk HPWx
      obtain ⟨Y, ycap, rfl, -⟩ := id RO
      have HRO : Hid (RdN wr (.slice Y (cutsL (pre k)).length ycap) (cutsL (pre k ++ x.take 0))) := by show RdN _ _ _; simpa using RO
      obtain ⟨wo, rfl⟩ : ∃ wo : World, wo = wr := ⟨_, rfl⟩
      clear RO
      have hk2 : decide ((k : Int) < 2) = true := by simp; omega
      go_wp2
      go_loopw [3, 5] (fun o j wr => ∃ q : Nat, q ≤ x.length ∧ j = .int .i64 q ∧ RdN wr o (cutsL (pre k ++ x.take q)) ∧ Below w.heap.size w wr) (fun _ j _ => x.length - (intOf j).toNat)
      case atStart => exact ⟨0, by omega, rfl, HRO.out, hb⟩
      case round =>
        obtain ⟨q, hq, rfl, RO, hb2⟩ := hrel
        have hcx2 : wr.cell? ⟨B, k, none⟩ = some (.slice X x.length xcap) := (hb2.cell hBlt).trans HX.out
        by_cases hql : q < x.length
        · have HT : Hid (cutsL (pre k ++ x.take (q + 1)) = cutStep (cutsL (pre k ++ x.take q)) x[q]) := by
            show _ = _; rw [List.take_succ_eq_append_getElem hql, ← List.append_assoc, cutsL_snoc]
          have hok := cutsL_ok (pre k ++ x.take q) (fun s hs => HPWX.out s (by
            rcases List.mem_append.1 hs with h | h
            · exact List.mem_append_left _ h
            · exact List.mem_append_right _ (List.mem_of_mem_take h)))
          have hclen := hok.len
          simp only [List.length_append, List.length_take] at hclen
          have hcpos : 0 < (cutsL (pre k ++ x.take q)).length := List.length_pos_of_mem hok.zero
          obtain ⟨gb, go, rfl, p0, p1, q0, q1⟩ := (HRX.out.keep hb2).get q hql
          obtain ⟨s, hs⟩ : ∃ s, s = x[q] := ⟨_, rfl⟩
          rw [← hs] at p0 p1 HT q0 q1
          obtain ⟨c, hc⟩ : ∃ c, c = cutsL (pre k ++ x.take q) := ⟨_, rfl⟩
          rw [← hc] at RO hclen hcpos HT
          have hs' := Lib.hid hs
          clear hs hc hok
          have hil := insC_len s.1 c
          have hil0 : 0 < (insC s.1 c).length := List.length_pos_of_mem (insC_mem.2 (.inl rfl))
          by_cases c1 : s.1 ≤ s.2
          · have HS : Hid (cutStep c s = insC (s.2 + 1) (insC s.1 c)) := by show _ = _; unfold cutStep; rw [if_pos c1]
            have hROk := Lib.hid fun d => RdN.keep RO (below_drewN wr wr.heap.size d)
            clear RO
            go_wp2
            go_quiet (fail)
            go_wp2_with fail
            refine (put_calls _ _ _ _ (hROk.out _) hcpos (by omega)).mono ?_
            rintro e w5 ⟨v5, rfl, R5, hb5⟩
            have hb5 := hb2.trans ((undrewN hb5).mono hb2.size)
            have hcx3 : w5.cell? ⟨B, k, none⟩ = some (.slice (some ⟨gb, go, none⟩) x.length xcap) := (hb5.cell hBlt).trans HX.out
            obtain ⟨gb', go', e, p0', p1', -⟩ := (HRX.out.keep hb5).get q hql
            cases e
            rw [← hs'.out] at p0' p1'
            have H5 := Lib.hid R5
            obtain ⟨Y5, ycap5, rfl, -⟩ := id R5
            clear R5
            go_wp2_with fail
            refine (put_calls _ _ _ _ H5.out hil0 (by omega)).mono ?_
            rintro e w6 ⟨v6, rfl, R6, hb6⟩
            have hb6 := hb5.trans (hb6.mono hb5.size)
            go_wp2
            go_roundw
            case rel => exact ⟨q + 1, hql, by go_num, by rw [HT.out, HS.out]; exact R6, hb6⟩
            case measure => simp [intOf]; omega
          · have HS : Hid (cutStep c s = c) := by show _ = _; unfold cutStep; rw [if_neg c1]
            have hROk := Lib.hid fun d => RdN.keep RO (below_drewN wr wr.heap.size d)
            clear RO
            go_wp2
            go_quiet (fail)
            go_wp2
            refine ⟨⟨q + 1, hql, by go_num, by rw [HT.out, HS.out]; exact hROk.out _, hb2.trans (below_drewN _ _ _)⟩, by simp [intOf]; omega⟩
        · have HE : Hid (cutsL (pre k ++ x.take q) = cutsL (pre (k + 1))) := by show _ = _; rw [List.take_of_length_le (by omega), HPK.out]
          have HO : Hid (RdN wr _ (cutsL (pre (k + 1)))) := HE.out ▸ RO
          clear RO
          go_wp2
          refine ⟨⟨k + 1, hlt, by go_num, HO.out, hb2⟩, by simp [intOf]; omega⟩
    · have hk2 : k = 2 := by omega
      subst hk2
      rw [HP2.out] at RO
      have HO := Lib.hid RO
      obtain ⟨Y, ycap, rfl, -⟩ := id RO
      clear RO
      go_wp2
      go_ret
      exact ⟨_, rfl, HO.out, hb⟩
end Go.Proofs.Ytipdmnfkigoanaa
