import Derived.Test.YtfapeemdlphjbaaDoorDtD
namespace Go.Proofs.YtfapeemdlphjbaaDoor
open Go.RowKit
attribute [local go_sem] World.cell?_alloc_some frozen_alloc_some

/-- are there few grants, of few spans? -/
def fewGB (l : List Gr) : Bool := l.all (fun g => fewB g.ar) && decide (l.length ≤ 20)
theorem fewGB_iff {l : List Gr} : fewGB l = true ↔ FewG l ∧ l.length ≤ 20 := by
  unfold fewGB FewG; simp [fewB_iff]
set_option maxRecDepth 100000 in
set_option maxHeartbeats 8000000 in
theorem fewg_calls (w : World) (v : Value) (l : List Gr) (hr : RdG w v l) :
    Calls Tryd.prog 7 #[v] w fun e w' => e = .returned (.bool (fewGB l)) ∧ Below w.heap.size w w' := by
  obtain ⟨A, cap, rfl, a1, a2, a3, -⟩ := id hr
  unfold maxLen at a2
  have ha63 := a3.1
  clear a3
  have HR := Lib.hid hr
  clear hr
  go_enter Tryd.func7, Tryd.ntmps7
  go_wp2
  go_loopw [7] (fun i wr => ∃ k : Nat, k ≤ l.length ∧ i = .int .i64 k ∧ Hid (FewG (l.take k)) ∧ Below w.heap.size w wr) (fun i _ => l.length - (intOf i).toNat)
  case atStart => exact ⟨0, by omega, rfl, fun l hl => by simp at hl, Below.refl _ _⟩
  case round =>
    obtain ⟨k, hk, rfl, HS, hb⟩ := hrel
    by_cases hlt : k < l.length
    · obtain ⟨gb, go, u, rfl, c0, c1, c2, c3, c4, c5, c6, hu⟩ := (HR.out.keep hb).get k hlt
      have HT : Hid (l.take (k + 1) = l.take k ++ [l[k]]) := List.take_succ_eq_append_getElem hlt
      have hmem : Hid (l[k] ∈ l) := List.getElem_mem hlt
      obtain ⟨⟨gp, gh, gt, gd, gw, ga, ge⟩, hg⟩ : ∃ g, g = l[k] := ⟨_, rfl⟩
      rw [← hg] at c0 c1 c2 c3 c4 c6 hu HT hmem
      dsimp only at c0 c1 c2 c3 c4 c6 hu
      obtain ⟨A', c', rfl, -⟩ := id hu
      have HU := Lib.hid hu
      have hba := (hb.alloc hb.size (.cells #[.int .i64 gp, .int .i64 gh, .int .i64 gt, .int .i64 gd, .bool gw, .slice A' ga.length c', .int .i64 ge] 31))
      clear hg hu
      obtain ⟨q, hq⟩ : ∃ q, q = fewB ga := ⟨_, rfl⟩
      have HQ := Lib.hid hq
      clear hq
      go_wp2_with fail
      refine (few_calls _ _ ga (HU.out.keep ((Below.refl wr.heap.size wr).alloc (Nat.le_refl _) _))).mono ?_
      rw [← HQ.out]
      rintro e w1 ⟨rfl, rfl⟩
      cases q with
      | false =>
        have hf : Hid (fewGB l = false) := by
          show _ = _
          rw [← Bool.not_eq_true, fewGB_iff]
          intro h; have := fewB_iff.2 (h.1 _ hmem.out); rw [← HQ.out] at this; simp at this
        go_wp2
        go_ret
        exact ⟨ret_bool hf.out.symm, hba⟩
      | true =>
        have HS2 : Hid (FewG (l.take (k + 1))) := by
          show FewG _
          rw [HT.out]; intro g hg
          rcases List.mem_append.1 hg with h | h
          · exact HS.out g h
          · simp at h; subst h; exact fewB_iff.1 HQ.out.symm
        go_wp2
        refine ⟨⟨k + 1, hlt, by go_num, HS2, hba⟩, by simp [intOf]; omega⟩
    · have HS2 : Hid (FewG l) := by have := HS.out; rwa [List.take_of_length_le (by omega)] at this
      have HQ : Hid (fewGB l = decide (l.length ≤ 20)) := by
        show _ = _
        rw [Bool.eq_iff_iff, fewGB_iff, decide_eq_true_iff]; exact ⟨fun h => h.2, fun h => ⟨HS2.out, h⟩⟩
      go_wp2
      go_ret
      exact ⟨ret_bool (by rw [HQ.out]; simp; omega), hb⟩

set_option maxRecDepth 100000 in
set_option maxHeartbeats 8000000 in
theorem clash_calls (w : World) (g h : Gr) (u v : Value) (hg : RdA w u g.ar) (hh : RdA w v h.ar) (fg : Sm 20 g.ar ∧ g.ar.length ≤ 20) (fh : Sm 20 h.ar ∧ h.ar.length ≤ 20) :
    Calls Tryd.prog 31 #[.agg #[.int .i64 g.par, .int .i64 g.hol, .int .i64 g.ten, .int .i64 g.dep, .bool g.wr, u, .int .i64 g.exp], .agg #[.int .i64 h.par, .int .i64 h.hol, .int .i64 h.ten, .int .i64 h.dep, .bool h.wr, v, .int .i64 h.exp]] w
      fun e w' => e = .returned (.bool (clB g h)) ∧ Below w.heap.size w w' := by
  obtain ⟨A, cap, rfl, -⟩ := id hg
  obtain ⟨B, bcap, rfl, -⟩ := id hh
  have hba : ∀ o1 o2, Below w.heap.size w ((w.alloc o1).alloc o2) := fun o1 o2 => (((Below.refl w.heap.size w).alloc (Nat.le_refl _) o1).alloc (by simp only [World.size_alloc]; omega) o2)
  obtain ⟨gp, gh, gt, gd, gw, ga, ge⟩ := g
  obtain ⟨hp, h2, ht, hd, hw, hA, he⟩ := h
  dsimp only at hg hh fg fh ⊢
  have HG := Lib.hid (fun o1 o2 => hg.keep (hba o1 o2))
  have HH := Lib.hid (fun o1 o2 => hh.keep (hba o1 o2))
  have HF := Lib.hid (And.intro fg fh)
  have HBA := Lib.hid hba
  clear hg hh fg fh hba
  obtain ⟨q, hq⟩ : ∃ q, q = meetsB ga hA := ⟨_, rfl⟩
  have HQ := Lib.hid hq
  by_cases hte : gt = ht
  · obtain rfl := hte
    cases gw <;> cases hw
    · have hc : clB ⟨gp, gh, gt, gd, false, ga, ge⟩ ⟨hp, h2, gt, hd, false, hA, he⟩ = false := by simp [clB]
      rw [hc]
      clear hc hq
      go_enter Tryd.func31, Tryd.ntmps31
      go_wp2
      go_ret
      exact ⟨rfl, HBA.out _ _⟩
    · have hc : clB ⟨gp, gh, gt, gd, false, ga, ge⟩ ⟨hp, h2, gt, hd, true, hA, he⟩ = q := by rw [hq]; simp [clB]
      rw [hc]
      clear hc hq
      go_enter Tryd.func31, Tryd.ntmps31
      go_wp2_with fail
      refine (area_meet _ _ _ ga hA 20 20 (HG.out _ _) (HH.out _ _) (by have := HF.out.1.2; omega) (by have := HF.out.2.2; omega) HF.out.1.1 HF.out.2.1 (by omega) (by omega)).mono ?_
      rintro e w1 ⟨v1, r, rfl, R1, hrl, hset, hsm, hb1⟩
      obtain ⟨A1, c1, rfl, -⟩ := id R1
      have HR1 := Lib.hid R1
      have HE : Hid (emptyB r = !q) := by show _ = _; rw [empty_meet hset, ← HQ.out]
      have HM := Lib.hid hsm
      have HB := Lib.hid ((HBA.out _ _).trans (hb1.mono (HBA.out _ _).size))
      clear R1 hset hsm hrl hb1
      go_wp2_with fail
      refine (aempty_calls _ _ r HR1.out (fun l hl => Nat.le_trans (HM.out l hl) (by omega))).mono ?_
      rw [HE.out]
      rintro e w2 ⟨rfl, hb2⟩
      go_wp2
      go_ret
      exact ⟨ret_bool (by simp), HB.out.trans (hb2.mono HB.out.size)⟩
    · have hc : clB ⟨gp, gh, gt, gd, true, ga, ge⟩ ⟨hp, h2, gt, hd, false, hA, he⟩ = q := by rw [hq]; simp [clB]
      rw [hc]
      clear hc hq
      go_enter Tryd.func31, Tryd.ntmps31
      go_wp2_with fail
      refine (area_meet _ _ _ ga hA 20 20 (HG.out _ _) (HH.out _ _) (by have := HF.out.1.2; omega) (by have := HF.out.2.2; omega) HF.out.1.1 HF.out.2.1 (by omega) (by omega)).mono ?_
      rintro e w1 ⟨v1, r, rfl, R1, hrl, hset, hsm, hb1⟩
      obtain ⟨A1, c1, rfl, -⟩ := id R1
      have HR1 := Lib.hid R1
      have HE : Hid (emptyB r = !q) := by show _ = _; rw [empty_meet hset, ← HQ.out]
      have HM := Lib.hid hsm
      have HB := Lib.hid ((HBA.out _ _).trans (hb1.mono (HBA.out _ _).size))
      clear R1 hset hsm hrl hb1
      go_wp2_with fail
      refine (aempty_calls _ _ r HR1.out (fun l hl => Nat.le_trans (HM.out l hl) (by omega))).mono ?_
      rw [HE.out]
      rintro e w2 ⟨rfl, hb2⟩
      go_wp2
      go_ret
      exact ⟨ret_bool (by simp), HB.out.trans (hb2.mono HB.out.size)⟩
    · have hc : clB ⟨gp, gh, gt, gd, true, ga, ge⟩ ⟨hp, h2, gt, hd, true, hA, he⟩ = false := by simp [clB]
      rw [hc]
      clear hc hq
      go_enter Tryd.func31, Tryd.ntmps31
      go_wp2
      go_ret
      exact ⟨rfl, HBA.out _ _⟩
  · have hc : clB ⟨gp, gh, gt, gd, gw, ga, ge⟩ ⟨hp, h2, ht, hd, hw, hA, he⟩ = false := by simp [clB, hte]
    rw [hc]
    clear hc hq
    go_enter Tryd.func31, Tryd.ntmps31
    go_wp2
    go_ret
    exact ⟨rfl, HBA.out _ _⟩
end Go.Proofs.YtfapeemdlphjbaaDoor
