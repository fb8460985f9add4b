import Derived.Test.YtipdmnfkigoanaaRwM
namespace Go.Proofs.Ytipdmnfkigoanaa
open Go.RowKit Go.Maps
attribute [local go_sem] World.cell?_alloc_some frozen_alloc_some

/-! Rows within a law: of color 1, all else is the law's own. -/
structure Lr (w : World) (χ : Col) (W : World) (rb : Nat) (L : RL) (ev : List Cl) (last : Nat) : Prop where
  rw_ : RwAt 1 χ W rb 29 [] L ev last
  bel : Below w.heap.size w W
  low : ∀ b, b < w.heap.size → χ b = 0
variable {w : World} {χ : Col} {W W' : World} {rb : Nat} {L L' : RL} {ev ev' : List Cl} {last last' : Nat}
theorem Lr.below (h : Lr w χ W rb L ev last) (hb : Below W.heap.size W W') (c : Nat) : Lr w (paint χ W.heap.size c) W' rb L ev last :=
  ⟨h.rw_.keep (Same.below c hb), h.bel.trans (hb.mono h.bel.size), fun b hl => (paint_low (Nat.lt_of_lt_of_le hl h.bel.size)).trans (h.low b hl)⟩
theorem Lr.wf (h : Lr w χ W rb L ev last) : RwL L last := let ⟨_, _, _, _, k⟩ := h.rw_; k.wf
theorem Lr.len (h : Lr w χ W rb L ev last) : L.length ≤ last := let ⟨_, _, _, _, k⟩ := h.rw_; k.len
theorem Lr.elen (h : Lr w χ W rb L ev last) : ev.length ≤ last := by
  obtain ⟨_, _, _, _, k⟩ := h.rw_
  obtain ⟨m', hm', h3, -⟩ := k.me.len Try.underlying27
  have := hm'.uniq (evO_card k.nd) fun _ => rfl
  have := k.ln2
  omega
theorem Lr.turn (h : Lr w χ W rb L ev last) (hs : RwTo 1 χ W W' rb 29 [] L' ev' last') : ∃ χ', (∀ b, b < W.heap.size → χ' b = χ b) ∧ Chg χ (· = 1) W W' ∧ Lr w χ' W' rb L' ev' last' := by
  obtain ⟨χ', h1, h2, h3⟩ := hs
  exact ⟨χ', h1, h3, h2, h.bel.trans (h3.below (fun b hb e => by rw [h.low b hb] at e; omega) h.bel.size), fun b hb => (h1 b (Nat.lt_of_lt_of_le hb h.bel.size)).trans (h.low b hb)⟩
/-- Other blocks of the law's. -/
structure Dk (χ : Col) (W : World) (b : Nat) (o : Obj) : Prop where
  col : χ b ≠ 1
  at_ : W.heap[b]? = some o
theorem Dk.turn {χ' : Col} {b : Nat} {o : Obj} (d : Dk χ W b o) (ag : ∀ b, b < W.heap.size → χ' b = χ b) (hc : Chg χ (· = 1) W W') : Dk χ' W' b o := by
  have hb := (Array.getElem?_eq_some_iff.1 d.at_).1
  exact ⟨by rw [ag b hb]; exact d.col, (hc.blk b hb d.col).trans d.at_⟩
theorem Dk.below {b : Nat} {o : Obj} (d : Dk χ W b o) (hb : Below W.heap.size W W') (c : Nat) : Dk (paint χ W.heap.size c) W' b o := by
  have hl := (Array.getElem?_eq_some_iff.1 d.at_).1
  exact ⟨by rw [paint_low hl]; exact d.col, (hb.block b hl).trans d.at_⟩
theorem l_put (h : Lr w χ W rb L ev last) (x : Cl) (v : Int) (hv : v = ((last + 1 : Nat) : Int)) (hl : last < 1000000) :
    Calls Try.prog 11 #[.pointer (some ⟨rb, 0, none⟩), .agg #[.int .i64 x.lab, .int .u32 x.key]] W fun e W' => e = .returned (.int .i64 v) ∧ RwTo 1 χ W W' rb 29 [] (putR x v L) (addR x ev) (last + 1) := by
  subst hv; exact rput_calls W x h.rw_ hl
theorem l_drop (h : Lr w χ W rb L ev last) (x : Cl) (q : Bool) (hq : (verO L x).isSome = q) :
    Calls Try.prog 13 #[.pointer (some ⟨rb, 0, none⟩), .agg #[.int .i64 x.lab, .int .u32 x.key]] W fun e W' => e = .returned (.bool q) ∧ RwTo 1 χ W W' rb 29 [] (dropR x L) ev last := by
  obtain ⟨_, _, _, _, k⟩ := h.rw_; exact rdrop_calls W x k q hq
theorem l_ver (h : Lr w χ W rb L ev last) (x : Cl) (v : Int) (q : Bool) (hv : (verO L x).getD 0 = v) (hq : (verO L x).isSome = q) :
    Calls Try.prog 14 #[.pointer (some ⟨rb, 0, none⟩), .agg #[.int .i64 x.lab, .int .u32 x.key]] W fun e W' => e = .returned (.tuple #[.int .i64 v, .bool q]) ∧ Below W.heap.size W W' := by
  subst hv; obtain ⟨_, _, _, _, k⟩ := h.rw_; exact rver_calls W x k q hq
theorem l_seen (h : Lr w χ W rb L ev last) (x : Cl) (q : Bool) (hq : decide (x ∈ ev) = q) :
    Calls Try.prog 15 #[.pointer (some ⟨rb, 0, none⟩), .agg #[.int .i64 x.lab, .int .u32 x.key]] W fun e W' => e = .returned (.bool q) ∧ Below W.heap.size W W' := by
  obtain ⟨_, _, _, _, k⟩ := h.rw_; exact rseen_calls W x k q hq
theorem l_live (h : Lr w χ W rb L ev last) (n : Int) (hn : n = (L.length : Nat)) : Calls Try.prog 20 #[.pointer (some ⟨rb, 0, none⟩)] W fun e W' => e = .returned (.int .i64 n) ∧ W' = W := by
  subst hn; obtain ⟨_, _, _, _, k⟩ := h.rw_; exact rlive_calls W k
theorem l_ever (h : Lr w χ W rb L ev last) (n : Int) (hn : n = (ev.length : Nat)) : Calls Try.prog 17 #[.pointer (some ⟨rb, 0, none⟩)] W fun e W' => e = .returned (.int .i64 n) ∧ W' = W := by
  subst hn; obtain ⟨_, _, _, _, k⟩ := h.rw_; exact rever_calls W k
theorem l_in (h : Lr w χ W rb L ev last) (va : Value) (a : Ar) (hr : RdA W va a) (hl : last ≤ 1000000) :
    Calls Try.prog 22 #[.pointer (some ⟨rb, 0, none⟩), va] W fun e W' => ∃ v, e = .returned v ∧ NewI W.heap.size W' v (inR a L) ∧ Below W.heap.size W W' := by
  obtain ⟨_, _, _, _, k⟩ := h.rw_; exact rin_calls W va a k hr hl
theorem owns_fresh {w : World} {n e sz k : Nat} {v : Value} {xs : List Value} (h : w.ownsRow 0 e sz v k xs) (hf : FrX n v) : w.ownsRow n e sz v k xs := by
  obtain ⟨h1, (h2 | ⟨g, cap, cur, rfl, hg, hr⟩)⟩ := h
  · exact ⟨h1, .inl h2⟩
  · exact ⟨h1, .inr ⟨g, cap, cur, rfl, hf g rfl, hr⟩⟩
theorem inc_flat (xs : List Int) : xs.flatMap inc = xs.map (Value.int .i64) := by induction xs with | nil => rfl | cons x xs ih => rw [List.flatMap_cons, ih]; rfl
theorem l_cells (h : Lr w χ W rb L ev last) (m : Int) (hm : 0 < m) (hl : last ≤ 1000) :
    Calls Try.prog 19 #[.pointer (some ⟨rb, 0, none⟩), .int .i64 m] W fun e W' => ∃ vx vy, e = .returned (.tuple #[vx, vy]) ∧ NewK W.heap.size W' vx ((L.take m.toNat).map (·.1)) ∧ NewI W.heap.size W' vy ((L.take m.toNat).map (·.2)) ∧ Below W.heap.size W W' := by
  obtain ⟨_, _, _, _, k⟩ := h.rw_
  refine (rcells_calls W m k hl hm).mono ?_
  rintro e W' ⟨vx, vy, rfl, hx, hy, fx, fy, hb⟩
  refine ⟨vx, vy, rfl, owns_fresh hx.1 fx, ?_, hb⟩
  unfold NewI
  have := owns_fresh hy.1 fy
  rw [inc_flat] at this
  exact this
/-- var r rows.Rows -/
theorem Lr.new (w W : World) (χ : Col) (hb : Below w.heap.size w W) (low : ∀ b, b < w.heap.size → χ b = 0) :
    Lr w (paint χ W.heap.size 1) (W.alloc (.cells #[.map none, .map none, .int .i64 0] 29)) W.heap.size [] [] 0 :=
  ⟨⟨.map none, .map none, 0, 0, by have := heap_alloc_at W (.cells #[.map none, .map none, .int .i64 0] 29); exact this, paint_high (Nat.le_refl _), fun b e => (by cases e), fun b e => (by cases e), .inl ⟨rfl, rfl, rfl⟩, .inl ⟨rfl, rfl, by funext x; simp [evO]⟩, Nat.le_refl _, Nat.le_refl _, Iff.rfl, fun b e => (by cases e), RwL.nil, List.nodup_nil, fun p hp => (by cases hp)⟩,
    hb.trans (((Below.refl W.heap.size W).alloc (Nat.le_refl _) _).mono hb.size), fun b hl => (paint_low (Nat.lt_of_lt_of_le hl hb.size)).trans (low b hl)⟩
end Go.Proofs.Ytipdmnfkigoanaa
