import Derived.Test.YtipdmnfkigoanaaRwC
namespace Go.Proofs.Ytipdmnfkigoanaa
open Go.RowKit Go.Maps
attribute [local go_sem] World.cell?_alloc_some frozen_alloc_some

/-! Put and Drop. -/
/-- What a function that turns Rows leaves. -/
def RwTo (c : Nat) (χ : Col) (w w' : World) (rb : Nat) (t : TypeId) (rest : List Value) (L : RL) (ev : List Cl) (last : Nat) : Prop := ∃ χ', (∀ b, b < w.heap.size → χ' b = χ b) ∧ RwAt c χ' w' rb t rest L ev last ∧ Chg χ (· = c) w w'
variable {c : Nat} {χ χ' : Col} {w w' : World} {rb : Nat} {t : TypeId} {rest : List Value} {L : RL} {ev : List Cl} {last : Nat} {vm em : Value} {n1 n2 : Nat}
theorem chg_grown {b : Nat} (h : w.grownBy w' (some b)) (hc : χ b = c) : Chg χ (· = c) w w' := ⟨h.os, h.tape, h.output, h.size, fun k hk hn => h.block k hk fun e => hn (by cases e; exact hc)⟩
set_option maxHeartbeats 1000000 in
theorem rdrop_calls (w : World) (x : Cl) (h : RwIn c χ w rb t rest L ev last vm em n1 n2) (q : Bool) (hq : (verO L x).isSome = q) :
    Calls Try.prog 13 #[.pointer (some ⟨rb, 0, none⟩), cv x] w fun e w' => e = .returned (.bool q) ∧ RwTo c χ w w' rb t rest (dropR x L) ev last := by
  obtain ⟨c0, -, -, -, -, -⟩ := h.cells
  have hb := (Below.refl w.heap.size w).alloc (Nat.le_refl _) (.cells #[.int .i64 x.lab, .int .u32 x.key] 36)
  obtain ⟨v, hv⟩ : ∃ v, v = (verO L x).getD 0 := ⟨_, rfl⟩
  have hl : ∀ d, (Instr.lookup 26 vm (.agg #[.int .i64 x.lab, .int .u32 x.key]) true).run Try.prog ((w.alloc (.cells #[.int .i64 x.lab, .int .u32 x.key] 36)).drewN d) = .ok (.tuple #[.int .i64 v, .bool q]) ((w.alloc (.cells #[.int .i64 x.lab, .int .u32 x.key] 36)).drewN d) := fun d => by
    have := (h.below (w' := (w.alloc (.cells #[.int .i64 x.lab, .int .u32 x.key] 36)).drewN d) (hb.trans (below_drewN _ _ _))).mv.look Try.underlying26 0 (zeroV _) (x := x) trivial
    rw [hq, ← hv] at this; exact this
  have HD : Hid (∀ d, ∃ w2, (∀ ty, (Builtin.delete_ #[26, 36] ty #[vm, .agg #[.int .i64 x.lab, .int .u32 x.key]]).run Try.prog ((w.alloc (.cells #[.int .i64 x.lab, .int .u32 x.key] 36)).drewN d) = .ok (.tuple #[]) w2) ∧ RwTo c χ w w2 rb t rest (dropR x L) ev last) := fun d => by
    have hb2 := hb.trans (below_drewN (w.alloc (.cells #[.int .i64 x.lab, .int .u32 x.key] 36)) w.heap.size d)
    have h1 := h.below hb2
    rcases h1.mv with ⟨e, hn, hF⟩ | ⟨b, e, hM⟩
    · refine ⟨_, fun ty => by rw [e]; exact Maps.drop_nil keyedCl Try.underlying26 (rdCl x) ty, χ, fun _ _ => rfl, ?_, Chg.of_below hb2⟩
      refine ⟨vm, em, n1, n2, h1.at_, h1.col, h1.colv, h1.cole, .inl ⟨e, hn, ?_⟩, h1.me, h1.ln1, h1.ln2, h1.both, h1.ne, h1.wf.drop x, h1.nd, fun p hp => h1.sub p (List.mem_filter.1 hp).1⟩
      rw [verO_drop, hF]
      funext y
      unfold era
      split <;> rfl
    · obtain ⟨D, g1, g2⟩ := id hM
      obtain ⟨w2, hrun, r1, r2⟩ := g1.drop keyedCl Try.underlying26 (rdCl x) 0
      have hG := r2.grown
      have hM2 : MapF krC erV w2 b n1 (era (verO L) x) := ⟨_, r1, g2.del trivial⟩
      refine ⟨w2, fun ty => by rw [e]; exact hrun, χ, fun _ _ => rfl, ?_, (Chg.of_below hb2).step ?_⟩
      · have hne : rb ≠ b := fun e2 => by
          have := h1.at_
          obtain ⟨es, cl, hb3, -⟩ := g1
          rw [e2, hb3] at this; cases this
        refine ⟨vm, em, n1, n2, (hG.block rb (Array.getElem?_eq_some_iff.1 h1.at_).1 (fun e2 => hne (Option.some.inj e2))).trans h1.at_, h1.col, h1.colv, h1.cole, .inr ⟨b, e, by rw [verO_drop]; exact hM2⟩,
          h1.me.below fun b2 e2 => hG.block b2 (h1.me.lt e2) (fun e3 => h1.ne b e (by rw [e2, Option.some.inj e3])), h1.ln1, h1.ln2, h1.both, h1.ne, h1.wf.drop x, h1.nd, fun p hp => h1.sub p (List.mem_filter.1 hp).1⟩
      · exact chg_grown hG (h1.colv b e)
  clear h hq hv
  go_enter Try.func13, Try.ntmps13
  go_wp2
  go_quiet (fail)
  obtain ⟨w2, hrun, hT⟩ := HD.out (nq + 1)
  have hrun : ∀ ty, (Builtin.delete_ #[26, 36] ty #[vm, .agg #[.int .i64 x.lab, .int .u32 x.key]]).run Try.prog ((w.alloc (.cells #[.int .i64 x.lab, .int .u32 x.key] 36)).drewN nq).drew = .ok (.tuple #[]) w2 := hrun
  go_wp2
  go_region_law (fail)
  all_goals
    go_wp2
    go_ret
    exact ⟨rfl, hT⟩
end Go.Proofs.Ytipdmnfkigoanaa
