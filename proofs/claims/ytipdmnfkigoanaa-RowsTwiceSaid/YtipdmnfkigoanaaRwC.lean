import Derived.Test.YtipdmnfkigoanaaRwB
namespace Go.Proofs.Ytipdmnfkigoanaa
open Go.RowKit Go.Maps
attribute [local go_sem] World.cell?_alloc_some frozen_alloc_some

/-! The state, and the functions that read, and turn, it. -/
structure RwIn (c : Nat) (χ : Col) (w : World) (rb : Nat) (t : TypeId) (rest : List Value) (L : RL) (ev : List Cl) (last : Nat) (vm em : Value) (n1 n2 : Nat) : Prop where
  at_ : w.heap[rb]? = some (.cells (vm :: em :: .int .i64 last :: rest).toArray t)
  col : χ rb = c
  colv : ∀ b, vm = .map (some b) → χ b = c
  cole : ∀ b, em = .map (some b) → χ b = c
  mv : MapV krC erV w vm n1 (verO L)
  me : MapV krC erB w em n2 (evO ev)
  ln1 : n1 ≤ last
  ln2 : n2 ≤ last
  both : vm = .map none ↔ em = .map none
  ne : ∀ b, vm = .map (some b) → em ≠ .map (some b)
  wf : RwL L last
  nd : ev.Nodup
  sub : ∀ p ∈ L, p.1 ∈ ev
/-- Rows lie at block rb (their first three cells), of color c with their maps. -/
def RwAt (c : Nat) (χ : Col) (w : World) (rb : Nat) (t : TypeId) (rest : List Value) (L : RL) (ev : List Cl) (last : Nat) : Prop := ∃ vm em n1 n2, RwIn c χ w rb t rest L ev last vm em n1 n2
variable {c : Nat} {χ χ' : Col} {w w' : World} {rb : Nat} {t : TypeId} {rest : List Value} {L : RL} {ev : List Cl} {last : Nat} {vm em : Value} {n1 n2 : Nat}
theorem RwIn.keep (h : RwIn c χ w rb t rest L ev last vm em n1 n2) (hs : Same (· = c) χ χ' w w') : RwIn c χ' w' rb t rest L ev last vm em n1 n2 := by
  have k := hs rb (Array.getElem?_eq_some_iff.1 h.at_).1 h.col
  exact ⟨k.2.trans h.at_, k.1.trans h.col, fun b e => (hs b (h.mv.lt e) (h.colv b e)).1.trans (h.colv b e), fun b e => (hs b (h.me.lt e) (h.cole b e)).1.trans (h.cole b e),
    h.mv.below fun b e => (hs b (h.mv.lt e) (h.colv b e)).2, h.me.below fun b e => (hs b (h.me.lt e) (h.cole b e)).2, h.ln1, h.ln2, h.both, h.ne, h.wf, h.nd, h.sub⟩
theorem RwAt.keep (h : RwAt c χ w rb t rest L ev last) (hs : Same (· = c) χ χ' w w') : RwAt c χ' w' rb t rest L ev last := let ⟨_, _, _, _, k⟩ := h; ⟨_, _, _, _, k.keep hs⟩
theorem RwIn.below (h : RwIn c χ w rb t rest L ev last vm em n1 n2) (hb : Below w.heap.size w w') : RwIn c χ w' rb t rest L ev last vm em n1 n2 := h.keep (Same.below' hb)
theorem RwIn.cells (h : RwIn c χ w rb t rest L ev last vm em n1 n2) : w.cell? ⟨rb, 0, none⟩ = some vm ∧ w.cell? ⟨rb, 1, none⟩ = some em ∧ w.cell? ⟨rb, 2, none⟩ = some (.int .i64 last) ∧ w.frozen? ⟨rb, 0, none⟩ = false ∧ w.frozen? ⟨rb, 1, none⟩ = false ∧ w.frozen? ⟨rb, 2, none⟩ = false := by
  have := h.at_
  refine ⟨?_, ?_, ?_, ?_, ?_, ?_⟩ <;> simp [World.cell?, World.frozen?, this]
theorem rver_calls (w : World) (x : Cl) (h : RwIn c χ w rb t rest L ev last vm em n1 n2) (q : Bool) (hq : (verO L x).isSome = q) :
    Calls Try.prog 14 #[.pointer (some ⟨rb, 0, none⟩), cv x] w fun e w' => e = .returned (.tuple #[.int .i64 ((verO L x).getD 0), .bool q]) ∧ Below w.heap.size w w' := by
  obtain ⟨c0, -, -, -, -, -⟩ := h.cells
  have hb := (Below.refl w.heap.size w).alloc (Nat.le_refl _) (.cells #[.int .i64 x.lab, .int .u32 x.key] 36)
  obtain ⟨v, hv⟩ : ∃ v, v = (verO L x).getD 0 := ⟨_, rfl⟩
  have hl : ∀ d, (Instr.lookup 26 vm (.agg #[.int .i64 x.lab, .int .u32 x.key]) true).run Try.prog ((w.alloc (.cells #[.int .i64 x.lab, .int .u32 x.key] 36)).drewN d) = .ok (.tuple #[.int .i64 v, .bool q]) ((w.alloc (.cells #[.int .i64 x.lab, .int .u32 x.key] 36)).drewN d) := fun d => by
    have := (h.below (w' := (w.alloc (.cells #[.int .i64 x.lab, .int .u32 x.key] 36)).drewN d) (hb.trans (below_drewN _ _ _))).mv.look Try.underlying26 0 (zeroV _) (x := x) trivial
    rw [hq, ← hv] at this; exact this
  rw [← hv]
  clear h hq hv
  go_enter Try.func14, Try.ntmps14
  go_wp2
  go_quiet (fail)
  go_wp2
  exact bodyPost_ret (v := .tuple #[.int .i64 v, .bool q]) (by simp [results, Try.results14, go_sem, *]) rfl ⟨rfl, hb.trans (below_drewN _ _ _)⟩
theorem rseen_calls (w : World) (x : Cl) (h : RwIn c χ w rb t rest L ev last vm em n1 n2) (q : Bool) (hq : decide (x ∈ ev) = q) :
    Calls Try.prog 15 #[.pointer (some ⟨rb, 0, none⟩), cv x] w fun e w' => e = .returned (.bool q) ∧ Below w.heap.size w w' := by
  obtain ⟨-, c1, -, -, -, -⟩ := h.cells
  have hb := (Below.refl w.heap.size w).alloc (Nat.le_refl _) (.cells #[.int .i64 x.lab, .int .u32 x.key] 36)
  have hv : (evO ev x).getD false = q := by unfold evO; rw [← hq]; split <;> simp_all
  have hl : ∀ d, (Instr.lookup 27 em (.agg #[.int .i64 x.lab, .int .u32 x.key]) false).run Try.prog ((w.alloc (.cells #[.int .i64 x.lab, .int .u32 x.key] 36)).drewN d) = .ok (.bool q) ((w.alloc (.cells #[.int .i64 x.lab, .int .u32 x.key] 36)).drewN d) := fun d => by
    have := (h.below (w' := (w.alloc (.cells #[.int .i64 x.lab, .int .u32 x.key] 36)).drewN d) (hb.trans (below_drewN _ _ _))).me.look1 Try.underlying27 false (zeroB _) (x := x) trivial
    rw [hv] at this; exact this
  clear h hq hv
  go_enter Try.func15, Try.ntmps15
  go_wp2
  go_quiet (fail)
  go_wp2
  go_ret
  exact ⟨rfl, hb.trans (below_drewN _ _ _)⟩
theorem rlive_calls (w : World) (h : RwIn c χ w rb t rest L ev last vm em n1 n2) :
    Calls Try.prog 20 #[.pointer (some ⟨rb, 0, none⟩)] w fun e w' => e = .returned (.int .i64 L.length) ∧ w' = w := by
  obtain ⟨c0, -, -, -, -, -⟩ := h.cells
  obtain ⟨m', hm', -, hlen⟩ := h.mv.len Try.underlying26
  obtain rfl := hm'.uniq (verO_card h.wf.nd) fun _ => rfl
  clear h hm'
  go_enter Try.func20, Try.ntmps20
  go_wp2
  go_ret
  exact ⟨rfl, rfl⟩
theorem rever_calls (w : World) (h : RwIn c χ w rb t rest L ev last vm em n1 n2) :
    Calls Try.prog 17 #[.pointer (some ⟨rb, 0, none⟩)] w fun e w' => e = .returned (.int .i64 ev.length) ∧ w' = w := by
  obtain ⟨-, c1, -, -, -, -⟩ := h.cells
  obtain ⟨m', hm', -, hlen⟩ := h.me.len Try.underlying27
  obtain rfl := hm'.uniq (evO_card h.nd) fun _ => rfl
  clear h hm'
  go_enter Try.func17, Try.ntmps17
  go_wp2
  go_ret
  exact ⟨rfl, rfl⟩
end Go.Proofs.Ytipdmnfkigoanaa
