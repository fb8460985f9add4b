import Derived.Test.YtipdmnfkigoanaaRwD
import Derived.Laws.Cover3
namespace Go.Proofs.Ytipdmnfkigoanaa
open Go.RowKit Go.Maps
attribute [local go_sem] World.cell?_alloc_some frozen_alloc_some

/-! Put. -/
theorem eql_nilC (w : World) (m : Option Nat) : (binOp .eql 26 (.map m) (.map none)).run Try.prog w = .ok (.bool m.isNone) w := by
  simp only [binOp]
  simp [run_equal_map_nil w _ _ _ m Try.underlying26]
attribute [local go_sem] eql_nilC
/-- What a region that puts to both maps needs of its cells. -/
abbrev PutC (W : World) (rb bx : Nat) (b1 b2 : Nat) (v : Int) (x : Cl) : Prop :=
  W.cell? ⟨rb, 0, none⟩ = some (.map (some b1)) ∧ W.cell? ⟨rb, 1, none⟩ = some (.map (some b2)) ∧ W.cell? ⟨rb, 2, none⟩ = some (.int .i64 v) ∧ W.cell? ⟨bx, 0, none⟩ = some (.int .i64 x.lab) ∧ W.cell? ⟨bx, 1, none⟩ = some (.int .u32 x.key)
theorem PutC.grown {W W' : World} {rb bx b1 b2 b : Nat} {v : Int} {x : Cl} (h : PutC W rb bx b1 b2 v x) (hg : W.grownBy W' (some b)) (h1 : rb ≠ b) (h2 : bx ≠ b) : PutC W' rb bx b1 b2 v x := by
  obtain ⟨c0, c1, c2, c3, c4⟩ := h
  have up : ∀ (p : Addr) u, p.block ≠ b → W.cell? p = some u → W'.cell? p = some u := fun p u hp hc => (World.cell?_of_block (hg.block p.block (World.block_lt_of_cell? _ _ hc) fun e => hp (Option.some.inj e))).trans hc
  exact ⟨up _ _ h1 c0, up _ _ h1 c1, up _ _ h1 c2, up _ _ h2 c3, up _ _ h2 c4⟩
theorem put_core {W : World} {rb bx b1 b2 n1 n2 : Nat} {v : Int} {x : Cl} {F : Cl → Option Int} {G : Cl → Option Bool} (hc : PutC W rb bx b1 b2 v x) (M1 : MapF krC erV W b1 n1 F) (M2 : MapF krC erB W b2 n2 G) (hne : b1 ≠ b2) (h1 : n1 < maxLen) (h2 : n2 < maxLen)
    (hr1 : rb ≠ b1) (hr2 : rb ≠ b2) (hx1 : bx ≠ b1) (hx2 : bx ≠ b2) :
    ∃ (v0 : Value) (st : Nat) (W5 W6 : World) (v1 : Value) (st1 : Nat) (W7 W8 : World),
      (Instr.mapEntry 26 (.map (some b1)) (.agg #[.int .i64 x.lab, .int .u32 x.key])).run Try.prog W = .ok (.tuple #[v0, .int .i64 st]) W5 ∧
      (Instr.entryStore 26 (.map (some b1)) (.int .i64 st) (.int .i64 v)).run Try.prog W5 = .ok () W6 ∧
      (Instr.mapEntry 27 (.map (some b2)) (.agg #[.int .i64 x.lab, .int .u32 x.key])).run Try.prog W6 = .ok (.tuple #[v1, .int .i64 st1]) W7 ∧
      (Instr.entryStore 27 (.map (some b2)) (.int .i64 st1) (.bool true)).run Try.prog W7 = .ok () W8 ∧
      PutC W5 rb bx b1 b2 v x ∧ PutC W6 rb bx b1 b2 v x ∧ PutC W7 rb bx b1 b2 v x ∧ PutC W8 rb bx b1 b2 v x ∧
      MapF krC erV W8 b1 (n1 + 1) (upd F x v) ∧ MapF krC erB W8 b2 (n2 + 1) (upd G x true) ∧ (∀ χ : Col, ∀ c, χ b1 = c → χ b2 = c → Chg χ (· = c) W W8) ∧ W8.heap[rb]? = W.heap[rb]? := by
  obtain ⟨v0, st, W5, r5, g5, W6, r6, N6, g6⟩ := M1.entry Try.underlying26 h1 _ zeroV x v
  have M6 : MapF krC erB W6 b2 n2 G := (M2.kept g5 (by simp [Ne.symm hne])).kept g6 (by simp [Ne.symm hne])
  obtain ⟨v1, st1, W7, r7, g7, W8, r8, N8, g8⟩ := M6.entry Try.underlying27 h2 _ zeroB x true
  have c5 := hc.grown g5 hr1 hx1
  have c6 := c5.grown g6 hr1 hx1
  have c7 := c6.grown g7 hr2 hx2
  have c8 := c7.grown g8 hr2 hx2
  have hlt : rb < W.heap.size := World.block_lt_of_cell? _ _ hc.1
  refine ⟨v0, st, W5, W6, v1, st1, W7, W8, r5, r6, r7, r8, c5, c6, c7, c8, (N6.kept g7 (by simp [hne])).kept g8 (by simp [hne]), N8, fun χ c e1 e2 => (((chg_grown g5 e1).step (chg_grown g6 e1)).step (chg_grown g7 e2)).step (chg_grown g8 e2), ?_⟩
  have s5 := g5.size
  have s6 := g6.size
  have s7 := g7.size
  rw [g8.block rb (by omega) (by simp [hr2]), g7.block rb (by omega) (by simp [hr2]), g6.block rb (by omega) (by simp [hr1]), g5.block rb hlt (by simp [hr1])]
variable {c : Nat} {χ χ' : Col} {w w' : World} {rb : Nat} {t : TypeId} {rest : List Value} {L : RL} {ev : List Cl} {last : Nat} {vm em : Value} {n1 n2 : Nat}
set_option maxHeartbeats 4000000 in
set_option maxRecDepth 100000 in
theorem put_old (w : World) (x : Cl) (h : RwIn c χ w rb t rest L ev last vm em n1 n2) (b1 b2 : Nat) (e1 : vm = .map (some b1)) (e2 : em = .map (some b2)) (hl : last < 1000000) :
    Calls Try.prog 11 #[.pointer (some ⟨rb, 0, none⟩), cv x] w fun e w' => e = .returned (.int .i64 (last + 1 : Nat)) ∧ RwTo c χ w w' rb t rest (putR x (last + 1 : Nat) L) (addR x ev) (last + 1) := by
  subst e1 e2
  obtain ⟨c0, c1, c2, f0, f1, f2⟩ := h.cells
  have hrl := (Array.getElem?_eq_some_iff.1 h.at_).1
  have hb := (Below.refl w.heap.size w).alloc (Nat.le_refl _) (.cells #[.int .i64 x.lab, .int .u32 x.key] 36)
  have H := Lib.hid h
  clear h
  go_enter Try.func11, Try.ntmps11
  go_wp2
  obtain ⟨W, hW⟩ : ∃ W, W = ((w.setCell ⟨rb, 2, none⟩ (.int .i64 ((last : Int) + 1))).alloc (.cells #[.int .i64 x.lab, .int .u32 x.key] 36)) := ⟨_, rfl⟩
  rw [← hW]
  have hat : W.heap[rb]? = some (.cells (.map (some b1) :: .map (some b2) :: .int .i64 ((last : Int) + 1) :: rest).toArray t) := by
    rw [hW, Below.heap_alloc _ _ _ (by simpa using hrl)]
    have := hset H.out.at_ 2 (.int .i64 ((last : Int) + 1))
    simpa using this
  have hold : ∀ b, b < w.heap.size → b ≠ rb → W.heap[b]? = w.heap[b]? := fun b hb2 hne => by
    rw [hW, Below.heap_alloc _ _ _ (by simpa using hb2)]
    exact Below.heap_setCell _ _ _ _ (fun e => hne e)
  have hbx : W.heap[w.heap.size]? = some (.cells #[.int .i64 x.lab, .int .u32 x.key] 36) := by
    have := heap_alloc_at (w.setCell ⟨rb, 2, none⟩ (.int .i64 ((last : Int) + 1))) (.cells #[.int .i64 x.lab, .int .u32 x.key] 36)
    rw [hW]; simpa using this
  have hch : Chg χ (· = c) w W := by
    rw [hW]
    exact (Chg.setCell w _ _ H.out.col).step (Chg.of_below ((Below.refl _ _).alloc (Nat.le_refl _) _))
  have M1 : MapF krC erV w b1 n1 (verO L) := by
    rcases H.out.mv with ⟨e, -⟩ | ⟨b, e, h⟩
    · cases e
    · cases e; exact h
  have M2 : MapF krC erB w b2 n2 (evO ev) := by
    rcases H.out.me with ⟨e, -⟩ | ⟨b, e, h⟩
    · cases e
    · cases e; exact h
  have l1 := M1.lt
  have l2 := M2.lt
  have hr1 : rb ≠ b1 := fun e => by
    obtain ⟨D, ⟨es, cl, g, -⟩, -⟩ := M1
    have := H.out.at_
    rw [e, g] at this; cases this
  have hr2 : rb ≠ b2 := fun e => by
    obtain ⟨D, ⟨es, cl, g, -⟩, -⟩ := M2
    have := H.out.at_
    rw [e, g] at this; cases this
  have hne : b1 ≠ b2 := fun e => H.out.ne b1 rfl (by rw [e])
  have hpc : PutC W.drew rb w.heap.size b1 b2 ((last : Int) + 1) x := by
    refine ⟨?_, ?_, ?_, ?_, ?_⟩
    · show W.cell? _ = _; simp [World.cell?, hat]
    · show W.cell? _ = _; simp [World.cell?, hat]
    · show W.cell? _ = _; simp [World.cell?, hat]
    · show W.cell? _ = _; simp [World.cell?, hbx]
    · show W.cell? _ = _; simp [World.cell?, hbx]
  obtain ⟨v0, st, W5, W6, v1, st1, W7, W8, r5, r6, r7, r8, p5, p6, p7, p8, N1, N2, hc8, hrb8⟩ := put_core hpc ((M1.below (w' := W.drew) (hold b1 l1 (Ne.symm hr1)))) ((M2.below (w' := W.drew) (hold b2 l2 (Ne.symm hr2)))) hne (by have := H.out.ln1; unfold maxLen; omega) (by have := H.out.ln2; unfold maxLen; omega) hr1 hr2 (by omega) (by omega)
  have HT : Hid (RwTo c χ w W8 rb t rest (putR x (last + 1 : Nat) L) (addR x ev) (last + 1)) := by
    have hcs : Chg χ (· = c) w W8 := hch.step ((Chg.drew (Chg.of_below (Below.refl W.heap.size W))).step (hc8 χ c (H.out.colv b1 rfl) (H.out.cole b2 rfl)))
    refine ⟨χ, fun _ _ => rfl, ⟨_, _, n1 + 1, n2 + 1, hrb8.trans (by have : W.drew.heap[rb]? = W.heap[rb]? := rfl; rw [this, hat]; rfl), H.out.col, H.out.colv, H.out.cole, .inr ⟨b1, rfl, by rw [verO_put]; exact N1⟩, .inr ⟨b2, rfl, by rw [evO_add]; exact N2⟩,
      by have := H.out.ln1; omega, by have := H.out.ln2; omega, by simp, H.out.ne, H.out.wf.put x, addR_nodup H.out.nd x, fun p hp => ?_⟩, hcs⟩
    unfold putR at hp
    unfold addR
    rcases List.mem_append.1 hp with hp | hp
    · have := H.out.sub p (List.mem_filter.1 hp).1
      split
      · exact this
      · exact List.mem_append_left _ this
    · simp at hp
      subst hp
      split
      · assumption
      · simp
  have c52 := p8.2.2.1
  clear hW hat hold hbx hch M1 M2 N1 N2 hc8 hrb8 H c0 c1 c2 f0 f1 f2 hb
  first
    | (go_region_held3 (fun W => W.cell? ⟨rb, 0, none⟩ = some (.map (some b1)) ∧ W.cell? ⟨rb, 1, none⟩ = some (.map (some b2)) ∧ W.cell? ⟨rb, 2, none⟩ = some (.int .i64 ((last : Int) + 1)) ∧ W.cell? ⟨w.heap.size, 0, none⟩ = some (.int .i64 x.lab) ∧ W.cell? ⟨w.heap.size, 1, none⟩ = some (.int .u32 x.key))
        (first | with_reducible exact hpc | with_reducible exact p5 | with_reducible exact p6 | with_reducible exact p7 | with_reducible exact p8)
        (fail))
    | fail
  all_goals
    go_wp2
    go_ret
    exact ⟨rfl, HT.out⟩
end Go.Proofs.Ytipdmnfkigoanaa
