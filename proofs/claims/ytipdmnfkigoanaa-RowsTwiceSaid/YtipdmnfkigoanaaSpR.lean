import Derived.Test.YtipdmnfkigoanaaCel
namespace Go.Proofs.Ytipdmnfkigoanaa
open Go.RowKit

/-- A span. -/
def rSpan : Rp (Nat × Nat) := fun _ _ cs x => cs = [.int .u32 x.1, .int .u32 x.2] ∧ x.1 < 4294967296 ∧ x.2 < 4294967296
def spc (x : Nat × Nat) : List Value := [.int .u32 x.1, .int .u32 x.2]
theorem rSpan_on (D : Nat → Prop) : rSpan.On D := fun _ _ _ _ _ _ h _ => h
theorem rSpan_one : rSpan.One := by rintro χ w cs x ⟨rfl, _⟩ u hu; simp at hu; rcases hu with rfl | rfl <;> rfl
theorem rSpan_enc : ∀ χ w cs x, rSpan χ w cs x → cs = spc x := fun _ _ _ _ h => h.1
theorem infoSp : (Try.prog.info? 63).map (fun i => (i.zero, i.size, i.bytes)) = some (some (.agg #[.int .u32 0, .int .u32 0]), 2, 8) := by kernel_rfl

/-- v reads as the spans l. -/
abbrev RdS (w : World) (v : Value) (l : List (Nat × Nat)) : Prop := IsL 2 rSpan 0 (fun _ => 0) w v l
theorem IsL.blind {c : Nat} {χ : Col} {w : World} {v : Value} {l : List (Nat × Nat)} (h : IsL 2 rSpan c χ w v l) : RdS w v l := by
  obtain ⟨A, cap, e, h1, h2, h3, h4⟩ := h
  refine ⟨A, cap, e, h1, h2, h3, fun i hi => ?_⟩
  obtain ⟨b, o, cs, eA, hb, hl, hr, hcell⟩ := h4 i hi
  exact ⟨b, o, cs, eA, rfl, hl, hr, hcell⟩
theorem RdS.keep {w w' : World} {v : Value} {l : List (Nat × Nat)} (h : RdS w v l) (hb : Below w.heap.size w w') : RdS w' v l :=
  IsL.keep (D := fun _ => True) (by omega) (rSpan_on _) trivial h (Same.below' hb)
theorem RdS.drewN {w : World} {v : Value} {l : List (Nat × Nat)} (h : RdS w v l) (d : Nat) : RdS (w.drewN d) v l := h.keep (below_drewN _ _ _)
theorem RdS.get {w : World} {A : Option Addr} {cap n : Nat} {l : List (Nat × Nat)} (h : RdS w (.slice A n cap) l) (i : Nat) (hi : i < l.length) :
    ∃ b o, A = some ⟨b, o, none⟩ ∧ w.cell? ⟨b, o + i * 2, none⟩ = some (.int .u32 l[i].1) ∧ w.cell? ⟨b, o + i * 2 + 1, none⟩ = some (.int .u32 l[i].2) ∧ l[i].1 < 4294967296 ∧ l[i].2 < 4294967296 := by
  obtain ⟨A', c', e, h1, h2, h3, h4⟩ := h
  cases e
  obtain ⟨b, o, cs, e, hb, hl, ⟨rfl, hr⟩, hc⟩ := h4 i hi
  exact ⟨b, o, e, by simpa using hc 0 (by simp), by simpa using hc 1 (by simp), hr⟩
theorem RdS.wf {w : World} {v : Value} {l : List (Nat × Nat)} (h : RdS w v l) : ∀ s ∈ l, s.1 < 4294967296 ∧ s.2 < 4294967296 := by
  intro s hs
  obtain ⟨i, hi, rfl⟩ := List.getElem_of_mem hs
  obtain ⟨A, cap, rfl, -⟩ := id h
  obtain ⟨_, _, _, _, _, h1, h2⟩ := h.get i hi
  exact ⟨h1, h2⟩
theorem RdS.nil {w : World} : RdS w (.slice none 0 0) [] := ⟨none, 0, rfl, by simp, by simp, ⟨by simp, fun _ => rfl⟩, fun i hi => by simp at hi⟩

theorem flat_chunk {α : Type} (enc : α → List Value) (sz : Nat) (henc : ∀ x, (enc x).length = sz) (xs : List α) (i : Nat) (hi : i < xs.length) : ((xs.flatMap enc).drop (i * sz)).take sz = enc xs[i] := by
  induction xs generalizing i with
  | nil => simp at hi
  | cons x xs ih =>
    rw [List.flatMap_cons]
    cases i with
    | zero => simp only [Nat.zero_mul, List.drop_zero, List.getElem_cons_zero]; rw [List.take_left' (henc x)]
    | succ i =>
      rw [Nat.add_mul, Nat.one_mul, Nat.add_comm, ← List.drop_drop, List.drop_left' (henc x)]
      simpa using ih i (by simpa using hi)
theorem flat_len {α : Type} (enc : α → List Value) (sz : Nat) (henc : ∀ x, (enc x).length = sz) (xs : List α) : (xs.flatMap enc).length = xs.length * sz := by
  induction xs with
  | nil => simp
  | cons x xs ih => rw [List.flatMap_cons, List.length_append, henc, ih, List.length_cons, Nat.add_mul]; omega
/-- what the call owns, read. -/
theorem IsL.own_sp {c base : Nat} {χ : Col} {w : World} {v : Value} {l : List (Nat × Nat)} (h : w.ownsRow base 63 2 v l.length (l.flatMap spc)) (hw : ∀ s ∈ l, s.1 < 4294967296 ∧ s.2 < 4294967296) (hl : l.length ≤ 1000000) (hc : ∀ b, v.ownBlock = some b → χ b = c) : IsL 2 rSpan c χ w v l :=
  IsL.of_owns (by omega) h (by omega) hc fun i hi => ⟨flat_chunk spc 2 (fun _ => rfl) l i hi, hw _ (List.getElem_mem hi)⟩
theorem RdS.own {base : Nat} {w : World} {v : Value} {l : List (Nat × Nat)} (h : w.ownsRow base 63 2 v l.length (l.flatMap spc)) (hw : ∀ s ∈ l, s.1 < 4294967296 ∧ s.2 < 4294967296) (hl : l.length ≤ 1000000) : RdS w v l :=
  IsL.own_sp h hw hl fun _ _ => rfl

/-- new memory that reads as spans. -/
def NewS (n : Nat) (w : World) (v : Value) (l : List (Nat × Nat)) : Prop := w.ownsRow n 63 2 v l.length (l.flatMap spc) ∧ (∀ s ∈ l, s.1 < 4294967296 ∧ s.2 < 4294967296) ∧ l.length ≤ 1000000
theorem NewS.rd {n : Nat} {w : World} {v : Value} {l : List (Nat × Nat)} (h : NewS n w v l) : RdS w v l := RdS.own h.1 h.2.1 h.2.2
theorem NewS.form {n : Nat} {w : World} {v : Value} {l : List (Nat × Nat)} (h : NewS n w v l) : ∃ A cap, v = .slice A l.length cap := owns_form h.1
theorem NewS.keep {n : Nat} {w w' : World} {v : Value} {l : List (Nat × Nat)} (h : NewS n w v l) (hb : Below w.heap.size w w') : NewS n w' v l := ⟨owns_same h.1 fun b e => hb.block b (h.1.lt b e).2, h.2⟩
theorem NewS.mono {n m : Nat} {w : World} {v : Value} {l : List (Nat × Nat)} (h : NewS n w v l) (hm : m ≤ n) : NewS m w v l := ⟨h.1.mono_base hm, h.2⟩
theorem NewS.col {n c : Nat} {χ : Col} {w : World} {v : Value} {l : List (Nat × Nat)} (h : NewS n w v l) (hc : ∀ b, n ≤ b → χ b = c) : IsL 2 rSpan c χ w v l := IsL.own_sp h.1 h.2.1 h.2.2 fun b e => hc b (h.1.lt b e).1
/-- an append to a row of the call's own: below it nothing has turned. -/
theorem push_below {W w1 : World} {base e sz n N : Nat} {v : Value} {xs : List Value} {o : Obj} (h : W.ownsRow base e sz v n xs) (hg : (W.alloc o).grownBy w1 v.ownBlock) (hN : N ≤ base) (hs : N ≤ W.heap.size) : Below N W w1 :=
  ⟨hg.os, hg.tape, hg.output, by have := hg.size; simp at this; omega, fun b hb => (hg.block b (by simp; omega) (fun e => by have := (h.lt b e.symm).1; omega)).trans (Below.heap_alloc _ _ _ (by omega))⟩
theorem own_grown {W w1 : World} {base e sz n N : Nat} {v : Value} {xs : List Value} (h : W.ownsRow base e sz v n xs) (hg : W.grownBy w1 v.ownBlock) (hN : N ≤ base) (hs : N ≤ W.heap.size) : Below N W w1 :=
  ⟨hg.os, hg.tape, hg.output, hg.size, fun b hb => hg.block b (by omega) (fun e => by have := (h.lt b e.symm).1; omega)⟩

/-- out = append(out, a span just built) -/
theorem push_sp {W : World} {ops : Array Oper} {rest : List Oper} {o : Oper} {a : Act} {Q : Exit → Act → World → Prop} (hgd : o.guard = none) (s x : Operand)
    (ho : o.op = .call { callee := .builtin .append, args := #[s, x], argTypes := #[64, 64] })
    (base : Nat) (l : List (Nat × Nat)) (v : Value) (hs : a.eval s = v) (hown : W.ownsRow base 63 2 v l.length (l.flatMap spc)) (hl : l.length ≤ 1000000) (hbase : base ≤ W.heap.size)
    (p q : Nat) (pv qv : Int) (b : Nat) (hx : a.eval x = .slice (some ⟨b, 0, none⟩) 1 1) (hb : b = W.heap.size) (hp : pv = p) (hq : qv = q)
    (h : ∀ v' w', w'.ownsRow base 63 2 v' (l ++ [(p, q)]).length ((l ++ [(p, q)]).flatMap spc) → Below base W w' → (∀ b, b < W.heap.size → some b ≠ v.ownBlock → w'.heap[b]? = W.heap[b]?) → wpList Try.prog ops Q rest (a.put o.dst v') w') :
    wpList Try.prog ops Q (o :: rest) a (W.alloc (.cells #[.int .u32 pv, .int .u32 qv] 63)) := by
  subst hb hp hq
  obtain ⟨i0, hi, hz0, hz1, hz2⟩ := info_parts infoSp
  refine wpList_append_own_at _ hgd s x 64 ho base 63 i0 _ 2 8 Try.underlying64 hi hz0 hz1 hz2 rfl (by decide) v l.length _ hs (hown.alloc _) ⟨W.heap.size, 0, none⟩ 1 1 [.int .u32 p, .int .u32 q] hx rfl (World.news_of_block (heap_alloc_new W _)) (by simp [Value.oneCell']) (by unfold maxLen; omega) (by omega) (by simp; omega) ?_
  intro v' w6 hown' hgrow _ hat
  refine h v' w6 ?_ (push_base hown hgrow (Nat.le_refl _) hbase) (fun b hb hne => (hgrow.block b (by simp; omega) hne).trans (Below.heap_alloc _ _ _ hb))
  rw [List.length_append, List.flatMap_append]
  exact hown'
end Go.Proofs.Ytipdmnfkigoanaa
