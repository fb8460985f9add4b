import Derived.Test.YtipdmnfkigoanaaRwE
namespace Go.Proofs.Ytipdmnfkigoanaa
open Go.RowKit Go.Maps
attribute [local go_sem] World.cell?_alloc_some frozen_alloc_some eql_nilC
variable {c : Nat} {χ χ' : Col} {w w' : World} {rb : Nat} {t : TypeId} {rest : List Value} {L : RL} {ev : List Cl} {last : Nat} {vm em : Value} {n1 n2 : Nat}
set_option maxHeartbeats 4000000 in
set_option maxRecDepth 100000 in
theorem put_nil (w : World) (x : Cl) (h : RwIn c χ w rb t rest L ev last vm em n1 n2) (e1 : vm = .map none) (e2 : em = .map none) (hl : last < 1000000) :
    Calls Try.prog 11 #[.pointer (some ⟨rb, 0, none⟩), cv x] w fun e w' => e = .returned (.int .i64 (last + 1 : Nat)) ∧ RwTo c χ w w' rb t rest (putR x (last + 1 : Nat) L) (addR x ev) (last + 1) := by
  subst e1 e2
  obtain ⟨c0, c1, c2, f0, f1, f2⟩ := h.cells
  have hrl := (Array.getElem?_eq_some_iff.1 h.at_).1
  have hb := (Below.refl w.heap.size w).alloc (Nat.le_refl _) (.cells #[.int .i64 x.lab, .int .u32 x.key] 36)
  have H := Lib.hid h
  have hmm := @run_makeMap Try.prog
  clear h
  have up : ∀ (p : Addr) u, w.cell? p = some u → w.frozen? p = false → ((((w.alloc (.cells #[.int .i64 x.lab, .int .u32 x.key] 36)).alloc (.map #[] 0)).alloc (.map #[] 0)).cell? p = some u ∧ (((w.alloc (.cells #[.int .i64 x.lab, .int .u32 x.key] 36)).alloc (.map #[] 0)).alloc (.map #[] 0)).frozen? p = false) := fun p u h1 h2 => by
    have a1 := keep_alloc (.cells #[.int .i64 x.lab, .int .u32 x.key] 36) h1 h2
    have a2 := keep_alloc (.map #[] 0) a1.1 a1.2
    exact keep_alloc (.map #[] 0) a2.1 a2.2
  obtain ⟨k0, m0⟩ := up _ _ c0 f0
  obtain ⟨k1, m1⟩ := up _ _ c1 f1
  obtain ⟨k2, m2⟩ := up _ _ c2 f2
  clear up
  go_enter Try.func11, Try.ntmps11
  go_wp2
  obtain ⟨W3, hW3⟩ : ∃ W3, W3 = (((w.alloc (.cells #[.int .i64 x.lab, .int .u32 x.key] 36)).alloc (.map #[] 0)).alloc (.map #[] 0)) := ⟨_, rfl⟩
  have hb3 : Below w.heap.size w W3 := by rw [hW3]; exact (hb.alloc (by simp) _).alloc (by simp; omega) _
  have hbx3 : W3.heap[w.heap.size]? = some (.cells #[.int .i64 x.lab, .int .u32 x.key] 36) := by rw [hW3, Below.heap_alloc _ _ _ (by simp; omega), Below.heap_alloc _ _ _ (by simp)]; exact heap_alloc_at _ _
  have hs3 : W3.heap.size = w.heap.size + 3 := by rw [hW3]; simp
  obtain ⟨b1, hb1⟩ : ∃ b, b = w.heap.size + 1 := ⟨_, rfl⟩
  obtain ⟨b2, hb2⟩ : ∃ b, b = w.heap.size + 1 + 1 := ⟨_, rfl⟩
  have M13 : MapF krC erV W3 b1 0 (fun _ => none) := by
    have h1 : MapF krC erV _ _ 0 (fun _ => none) := MapF.made (w.alloc (.cells #[.int .i64 x.lab, .int .u32 x.key] 36))
    rw [hW3, hb1]
    simp only [World.size_alloc] at h1
    exact h1.below (Below.heap_alloc _ _ _ (by simp))
  have M23 : MapF krC erB W3 b2 0 (fun _ => none) := by
    have h1 : MapF krC erB _ _ 0 (fun _ => none) := MapF.made ((w.alloc (.cells #[.int .i64 x.lab, .int .u32 x.key] 36)).alloc (.map #[] 0))
    rw [hW3, hb2]
    simp only [World.size_alloc] at h1
    exact h1
  rw [← hW3, ← hb2, ← hb1]
  have at3 := (hb3.block rb hrl).trans H.out.at_
  have at4 := hset at3 0 (.map (some b1))
  have at5 := hset at4 1 (.map (some b2))
  have at6 := hset at5 2 (.int .i64 ((last : Int) + 1))
  obtain ⟨W, hW⟩ : ∃ W, W = (((W3.setCell ⟨rb, 0, none⟩ (.map (some b1))).setCell ⟨rb, 1, none⟩ (.map (some b2))).setCell ⟨rb, 2, none⟩ (.int .i64 ((last : Int) + 1))) := ⟨_, rfl⟩
  rw [← hW]
  have hat : W.heap[rb]? = some (.cells (.map (some b1) :: .map (some b2) :: .int .i64 ((last : Int) + 1) :: rest).toArray t) := by
    rw [hW, at6]; simp
  have hold : ∀ b, b ≠ rb → W.heap[b]? = W3.heap[b]? := fun b hne => by
    rw [hW, Below.heap_setCell _ _ _ _ (fun e => hne e), Below.heap_setCell _ _ _ _ (fun e => hne e), Below.heap_setCell _ _ _ _ (fun e => hne e)]
  have hbx : W.heap[w.heap.size]? = some (.cells #[.int .i64 x.lab, .int .u32 x.key] 36) := (hold _ (by omega)).trans hbx3
  have hch : Chg (paint χ w.heap.size c) (· = c) w W := by
    have hpr : paint χ w.heap.size c rb = c := (paint_low hrl).trans H.out.col
    rw [hW]
    exact (((Chg.of_below hb3).step (Chg.setCell _ _ _ hpr)).step (Chg.setCell _ _ _ hpr)).step (Chg.setCell _ _ _ hpr)
  have hch' : Chg χ (· = c) w W := ⟨hch.os, hch.tape, hch.output, hch.size, fun b hb hn => hch.blk b hb (by rw [paint_low hb]; exact hn)⟩
  have eL : verO L = fun _ => none := by
    rcases H.out.mv with ⟨-, -, e⟩ | ⟨b, e, -⟩
    · exact e
    · cases e
  have eE : evO ev = fun _ => none := by
    rcases H.out.me with ⟨-, -, e⟩ | ⟨b, e, -⟩
    · exact e
    · cases e
  have hr1 : rb ≠ b1 := by omega
  have hr2 : rb ≠ b2 := by omega
  have M1 : MapF krC erV W b1 0 (verO L) := by rw [eL]; exact M13.below (hold b1 (Ne.symm hr1))
  have M2 : MapF krC erB W b2 0 (evO ev) := by rw [eE]; exact M23.below (hold b2 (Ne.symm hr2))
  have hne : b1 ≠ b2 := by omega
  have hpc : PutC W.drew rb w.heap.size b1 b2 ((last : Int) + 1) x := by
    refine ⟨?_, ?_, ?_, ?_, ?_⟩
    · show W.cell? _ = _; simp [World.cell?, hat]
    · show W.cell? _ = _; simp [World.cell?, hat]
    · show W.cell? _ = _; simp [World.cell?, hat]
    · show W.cell? _ = _; simp [World.cell?, hbx]
    · show W.cell? _ = _; simp [World.cell?, hbx]
  obtain ⟨v0, st, W5, W6, v1, st1, W7, W8, r5, r6, r7, r8, p5, p6, p7, p8, N1, N2, hc8, hrb8⟩ := put_core hpc ((M1.below (w' := W.drew) rfl)) ((M2.below (w' := W.drew) rfl)) hne (by unfold maxLen; omega) (by unfold maxLen; omega) hr1 hr2 (by omega) (by omega)
  have HT : Hid (RwTo c χ w W8 rb t rest (putR x (last + 1 : Nat) L) (addR x ev) (last + 1)) := by
    have hcs : Chg (paint χ w.heap.size c) (· = c) w W8 := hch.step ((Chg.drew (Chg.of_below (Below.refl W.heap.size W))).step (hc8 (paint χ w.heap.size c) c (paint_high (by omega)) (paint_high (by omega))))
    refine ⟨paint χ w.heap.size c, fun b hb => paint_low hb, ⟨_, _, 0 + 1, 0 + 1, hrb8.trans (by have : W.drew.heap[rb]? = W.heap[rb]? := rfl; rw [this, hat]; rfl), (paint_low hrl).trans H.out.col, fun b e => by cases e; exact paint_high (by omega), fun b e => by cases e; exact paint_high (by omega), .inr ⟨b1, rfl, by rw [verO_put]; exact N1⟩, .inr ⟨b2, rfl, by rw [evO_add]; exact N2⟩,
      by omega, by omega, by simp, fun b e e2 => by cases e; cases e2; exact hne rfl, H.out.wf.put x, addR_nodup H.out.nd x, fun p hp => ?_⟩, ⟨hcs.os, hcs.tape, hcs.output, hcs.size, fun b hb hn => hcs.blk b hb (by rw [paint_low hb]; exact hn)⟩⟩
    unfold putR at hp
    unfold addR
    rcases List.mem_append.1 hp with hp | hp
    · have := H.out.sub p (List.mem_filter.1 hp).1
      split
      · exact this
      · exact List.mem_append_left _ this
    · simp at hp
      subst hp
      split
      · assumption
      · simp
  have c52 := p8.2.2.1
  clear hW hat hold hbx hch hch' M1 M2 N1 N2 hc8 hrb8 H c0 c1 c2 f0 f1 f2 hb k0 k1 k2 m0 m1 m2 hW3 hb1 hb2 at3 at4 at5 at6 M13 M23 hbx3 hb3 eL eE
  first
    | (go_region_held3 (fun W => W.cell? ⟨rb, 0, none⟩ = some (.map (some b1)) ∧ W.cell? ⟨rb, 1, none⟩ = some (.map (some b2)) ∧ W.cell? ⟨rb, 2, none⟩ = some (.int .i64 ((last : Int) + 1)) ∧ W.cell? ⟨w.heap.size, 0, none⟩ = some (.int .i64 x.lab) ∧ W.cell? ⟨w.heap.size, 1, none⟩ = some (.int .u32 x.key))
        (first | with_reducible exact hpc | with_reducible exact p5 | with_reducible exact p6 | with_reducible exact p7 | with_reducible exact p8)
        (fail))
    | fail
  all_goals
    go_wp2
    go_ret
    exact ⟨rfl, HT.out⟩
theorem rput_calls (w : World) (x : Cl) (h : RwAt c χ w rb t rest L ev last) (hl : last < 1000000) :
    Calls Try.prog 11 #[.pointer (some ⟨rb, 0, none⟩), cv x] w fun e w' => e = .returned (.int .i64 (last + 1 : Nat)) ∧ RwTo c χ w w' rb t rest (putR x (last + 1 : Nat) L) (addR x ev) (last + 1) := by
  obtain ⟨vm, em, n1, n2, h⟩ := h
  rcases id h.mv with ⟨e, -⟩ | ⟨b1, e, -⟩
  · exact put_nil w x h e (h.both.1 e) hl
  · rcases id h.me with ⟨e2, -⟩ | ⟨b2, e2, -⟩
    · have := h.both.2 e2
      rw [e] at this; cases this
    · exact put_old w x h b1 b2 e e2 hl
end Go.Proofs.Ytipdmnfkigoanaa
