import Derived.Test.YtfapeemdlphjbaaDoorDtE
namespace Go.Proofs.YtfapeemdlphjbaaDoor
open Go.RowKit
attribute [local go_sem] World.cell?_alloc_some frozen_alloc_some

/-- what a tenant reads meets what it writes. -/
noncomputable def badB (l : List Gr) (t : Int) : Bool := !(clL l t).isEmpty
theorem badB_eq {l : List Gr} {t : Int} {r u : Ar} (hr : IsUn (ofT l t false) r) (hu : IsUn (ofT l t true) u) : meetsB r u = badB l t := eq_of_iff (by
  rw [clL_iff hr hu]; unfold badB; simp)
/-- the error's number. -/
def errD (b : Bool) : Int := if b then 37 else 0
noncomputable def chkTo (l : List Gr) (rs : List Bool) (k : Nat) : Bool := (List.range k).any fun t => rs.getD t false && badB l t
noncomputable def chk (l : List Gr) (rs : List Bool) : Bool := chkTo l rs rs.length
theorem chkTo_succ (l : List Gr) (rs : List Bool) (k : Nat) : chkTo l rs (k + 1) = (chkTo l rs k || (rs.getD k false && badB l k)) := by
  unfold chkTo; rw [List.range_succ, List.any_append]; simp
theorem chkTo_mono (l : List Gr) (rs : List Bool) {k n : Nat} (h : k ≤ n) (hk : chkTo l rs k = true) : chkTo l rs n = true := by
  unfold chkTo at *
  rw [List.any_eq_true] at *
  obtain ⟨t, ht, h2⟩ := hk
  exact ⟨t, List.mem_range.2 (by have := List.mem_range.1 ht; omega), h2⟩

set_option maxRecDepth 100000 in
set_option maxHeartbeats 8000000 in
theorem check_calls (w : World) (v rv : Value) (l : List Gr) (rs : List Bool) (hr : RdG w v l) (hrs : RdB w rv rs) (hl : l.length ≤ 21) (hf : FewG l) :
    Calls Tryd.prog 13 #[v, rv] w fun e w' => e = .returned (.int .i64 (errD (chk l rs))) ∧ Below w.heap.size w w' := by
  obtain ⟨A, cap, rfl, -⟩ := id hr
  obtain ⟨B, bcap, rfl, a1, a2, a3, -⟩ := id hrs
  unfold maxLen at a2
  have HR := Lib.hid hr
  have HB := Lib.hid hrs
  have HF := Lib.hid hf
  have HL := Lib.hid hl
  clear hr hrs hf hl a3
  go_enter Tryd.func13, Tryd.ntmps13
  go_wp2
  go_loopw [9] (fun i wr => ∃ k : Nat, k ≤ rs.length ∧ i = .int .i64 k ∧ Hid (chkTo l rs k = false) ∧ Below w.heap.size w wr) (fun i _ => rs.length - (intOf i).toNat)
  case atStart => exact ⟨0, by omega, rfl, rfl, Below.refl _ _⟩
  case round =>
    obtain ⟨k, hk, rfl, HS, hb⟩ := hrel
    by_cases hlt : k < rs.length
    · obtain ⟨gb, go, rfl, hc⟩ := (HB.out.keep hb).get k hlt
      have HT := Lib.hid (chkTo_succ l rs k)
      have hget : rs.getD k false = rs[k] := by simp [List.getD, List.getElem?_eq_getElem hlt]
      rw [hget] at HT
      obtain ⟨b, hbb⟩ : ∃ b, b = rs[k] := ⟨_, rfl⟩
      rw [← hbb] at hc HT
      have HMO : Hid (chkTo l rs (k + 1) = true → chk l rs = true) := fun h => chkTo_mono l rs hlt h
      clear hget hbb
      cases b with
      | false =>
        have HS2 : Hid (chkTo l rs (k + 1) = false) := by show _ = _; rw [HT.out, HS.out]; rfl
        clear HT HMO
        go_wp2
        exact ⟨⟨k + 1, hlt, by go_num, HS2, hb⟩, by simp [intOf]; omega⟩
      | true =>
        obtain ⟨q, hq⟩ : ∃ q, q = badB l k := ⟨_, rfl⟩
        have HQ := Lib.hid hq
        clear hq
        go_wp2_with fail
        refine (reads_calls _ _ l k (HR.out.keep hb) HL.out HF.out).mono ?_
        rintro e w1 ⟨v1, r, rfl, R1, hu1, hs1, hl1, hb1⟩
        have hbA := hb.trans (hb1.mono hb.size)
        have HU1 := Lib.hid (And.intro hu1 (And.intro hs1 hl1))
        have HR1 := Lib.hid R1
        obtain ⟨A1, c1, rfl, -⟩ := id R1
        clear R1 hu1 hs1 hl1
        go_wp2_with fail
        refine (writes_calls _ _ l k (HR.out.keep hbA) HL.out HF.out).mono ?_
        rintro e w2 ⟨v2, u, rfl, R2, hu2, hs2, hl2, hb2⟩
        have hbB := hbA.trans (hb2.mono hbA.size)
        have HU2 := Lib.hid (And.intro hu2 (And.intro hs2 hl2))
        have HR2 := Lib.hid R2
        have HR1 := Lib.hid (HR1.out.keep hb2)
        obtain ⟨A2, c2, rfl, -⟩ := id R2
        clear R2 hu2 hs2 hl2
        go_wp2_with fail
        refine (area_meet _ _ _ r u 450 450 HR1.out HR2.out (by have := HU1.out.2.2; omega) (by have := HU2.out.2.2; omega) (HU1.out.2.1.mono (by have := HL.out; omega)) (HU2.out.2.1.mono (by have := HL.out; omega)) (by omega) (by omega)).mono ?_
        rintro e w3 ⟨v3, m, rfl, R3, hml, hset, hsm, hb3⟩
        have hbC := hbB.trans (hb3.mono hbB.size)
        have HE : Hid (emptyB m = !q) := by show _ = _; rw [empty_meet hset, badB_eq HU1.out.1 HU2.out.1, ← HQ.out]
        have HR3 := Lib.hid R3
        have HM := Lib.hid hsm
        obtain ⟨A3, c3, rfl, -⟩ := id R3
        clear R3 hml hset hsm HR1 HR2 HU1 HU2
        go_wp2_with fail
        refine (aempty_calls _ _ m HR3.out (fun l hl => Nat.le_trans (HM.out l hl) (by omega))).mono ?_
        rw [HE.out]
        rintro e w4 ⟨rfl, hb4⟩
        have hbD := hbC.trans (hb4.mono hbC.size)
        clear hb1 hb2 hb3 hb4 hbA hbB hbC HE HR3 HM
        cases q with
        | true =>
          have hfin : Hid (chk l rs = true) := HMO.out (by rw [HT.out, ← HQ.out]; simp)
          go_wp2
          go_ret
          exact ⟨ret_int (by rw [hfin.out]; rfl), hbD⟩
        | false =>
          have HS2 : Hid (chkTo l rs (k + 1) = false) := by show _ = _; rw [HT.out, HS.out, ← HQ.out]; rfl
          clear HT HMO
          go_wp2
          exact ⟨⟨k + 1, hlt, by go_num, HS2, hbD⟩, by simp [intOf]; omega⟩
    · have hfin : Hid (chk l rs = false) := by
        have hke : k = rs.length := by omega
        show chkTo l rs rs.length = false
        rw [← hke]; exact HS.out
      go_wp2
      go_ret
      exact ⟨ret_int (by rw [hfin.out]; rfl), hb⟩
end Go.Proofs.YtfapeemdlphjbaaDoor
