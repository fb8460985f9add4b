import Derived.Test.YtipdmnfkigoanaaRL
import Derived.Test.YtipdmnfkigoanaaRwJ
import Derived.Deep.AppendLies
namespace Go.Proofs.Ytipdmnfkigoanaa
open Go.RowKit
attribute [local go_sem] World.cell?_alloc_some frozen_alloc_some Oper.semAt_some

/-! Two rows of numbers that grow side by side. -/
/-- an int's cells. -/
def inc (x : Int) : List Value := [.int .i64 x]
theorem snoc_flat {α : Type} (f : α → List Value) (xs : List α) (x : α) : (xs ++ [x]).flatMap f = xs.flatMap f ++ f x := by simp
/-- A slice of the call's own, its block of color c. -/
def IsX {α : Type} (e : TypeId) (sz : Nat) (f : α → List Value) (c : Nat) (χ : Col) (w : World) (v : Value) (xs : List α) : Prop := w.ownsRow 0 e sz v xs.length (xs.flatMap f) ∧ ∀ b, v.ownBlock = some b → χ b = c
theorem IsX.keep {α : Type} {e : TypeId} {sz : Nat} {f : α → List Value} {c : Nat} {χ χ' : Col} {w w' : World} {v : Value} {xs : List α} (h : IsX e sz f c χ w v xs) (hs : Same (· = c) χ χ' w w') : IsX e sz f c χ' w' v xs :=
  ⟨owns_same h.1 fun b e => (hs b (h.1.lt b e).2 (h.2 b e)).2, fun b e => ((hs b (h.1.lt b e).2 (h.2 b e)).1).trans (h.2 b e)⟩
theorem IsX.form {α : Type} {e : TypeId} {sz : Nat} {f : α → List Value} {c : Nat} {χ : Col} {w : World} {v : Value} {xs : List α} (h : IsX e sz f c χ w v xs) : ∃ A cap, v = .slice A xs.length cap := owns_form h.1
/-- What holds between two rounds of the loop of clashes. -/
structure DIx (s : Nat) (m : Int) (c : Nat) (pre : List (Cl × Int)) (χ : Col) (W : World) (vx vy : Value) : Prop where
  c0 : χ s = c
  m0 : W.cell? ⟨s, 0, none⟩ = some (.int .i64 m)
  c1 : χ (s + 1) = c
  r1 : Var W (s + 1) (.slice none 0 0)
  c2 : χ (s + 2) = c
  r2 : Var W (s + 2) (.slice none 0 0)
  c5 : χ (s + 5) = c
  v5 : Var W (s + 5) vx
  c6 : χ (s + 6) = c
  v6 : Var W (s + 6) vy
  x : IsX 36 2 clc c χ W vx (pre.map (·.1))
  y : IsX 3 1 inc c χ W vy (pre.map (·.2))
  ax : ∀ b, vx.ownBlock = some b → s + 3 ≤ b ∧ b ≠ s + 5 ∧ b ≠ s + 6
  ay : ∀ b, vy.ownBlock = some b → s + 3 ≤ b ∧ b ≠ s + 5 ∧ b ≠ s + 6
  xy : ∀ b, vx.ownBlock = some b → vy.ownBlock ≠ some b
theorem DIx.keep {s : Nat} {m : Int} {c : Nat} {pre : List (Cl × Int)} {χ χ' : Col} {W W' : World} {vx vy : Value} (h : DIx s m c pre χ W vx vy) (hs : Same (· = c) χ χ' W W') : DIx s m c pre χ' W' vx vy := by
  have k0 := hs s (World.block_lt_of_cell? W _ h.m0) h.c0
  have k1 := hs _ h.r1.lt h.c1
  have k2 := hs _ h.r2.lt h.c2
  have k5 := hs _ h.v5.lt h.c5
  have k6 := hs _ h.v6.lt h.c6
  exact ⟨k0.1.trans h.c0, (World.cell?_of_block k0.2).trans h.m0, k1.1.trans h.c1, h.r1.block k1.2, k2.1.trans h.c2, h.r2.block k2.2, k5.1.trans h.c5, h.v5.block k5.2, k6.1.trans h.c6, h.v6.block k6.2, h.x.keep hs, h.y.keep hs, h.ax, h.ay, h.xy⟩

/-- Two rows of one's own in the world U, out of W; L: new blocks of one number. -/
structure R2 (ex ey : TypeId) (sx sy : Nat) {α β : Type} (fx : α → List Value) (fy : β → List Value) (W U : World) (vx0 vy0 vx vy : Value) (xs : List α) (ys : List β) (L : List (Nat × TypeId × List Value)) : Prop where
  os : U.os = W.os
  tape : U.tape = W.tape
  output : U.output = W.output
  sz : W.heap.size ≤ U.heap.size
  ox : U.ownsRow 0 ex sx vx xs.length (xs.flatMap fx)
  oy : U.ownsRow 0 ey sy vy ys.length (ys.flatMap fy)
  bx : vx.ownBlock = vx0.ownBlock ∨ ∃ b, vx.ownBlock = some b ∧ W.heap.size ≤ b
  by_ : vy.ownBlock = vy0.ownBlock ∨ ∃ b, vy.ownBlock = some b ∧ W.heap.size ≤ b
  xy : ∀ b, vx.ownBlock = some b → vy.ownBlock ≠ some b
  old : ∀ b, b < W.heap.size → vx0.ownBlock ≠ some b → vy0.ownBlock ≠ some b → U.heap[b]? = W.heap[b]?
  el : ∀ p ∈ L, U.heap[p.1]? = some (.cells p.2.2.toArray p.2.1) ∧ vx.ownBlock ≠ some p.1 ∧ vy.ownBlock ≠ some p.1
theorem R2.start {ex ey : TypeId} {sx sy : Nat} {α β : Type} {fx : α → List Value} {fy : β → List Value} {W : World} {vx vy : Value} {xs : List α} {ys : List β} (ox : W.ownsRow 0 ex sx vx xs.length (xs.flatMap fx)) (oy : W.ownsRow 0 ey sy vy ys.length (ys.flatMap fy)) (xy : ∀ b, vx.ownBlock = some b → vy.ownBlock ≠ some b) : R2 ex ey sx sy fx fy W W.drew vx vy vx vy xs ys [] :=
  ⟨rfl, rfl, rfl, Nat.le_refl _, owns_same ox fun _ _ => rfl, owns_same oy fun _ _ => rfl, .inl rfl, .inl rfl, xy, fun _ _ _ _ => rfl, fun p hp => by simp at hp⟩
theorem R2.add {ex ey : TypeId} {sx sy : Nat} {α β : Type} {fx : α → List Value} {fy : β → List Value} {W U : World} {vx0 vy0 vx vy : Value} {xs : List α} {ys : List β} {L : List (Nat × TypeId × List Value)} (r : R2 ex ey sx sy fx fy W U vx0 vy0 vx vy xs ys L) (p : Nat × TypeId × List Value) (h1 : U.heap[p.1]? = some (.cells p.2.2.toArray p.2.1)) (h2 : vx.ownBlock ≠ some p.1) (h3 : vy.ownBlock ≠ some p.1) : R2 ex ey sx sy fx fy W U vx0 vy0 vx vy xs ys (p :: L) :=
  ⟨r.os, r.tape, r.output, r.sz, r.ox, r.oy, r.bx, r.by_, r.xy, r.old, fun q hq => by
    rcases List.mem_cons.1 hq with rfl | hq
    · exact ⟨h1, h2, h3⟩
    · exact r.el q hq⟩
theorem R2.alloc {ex ey : TypeId} {sx sy : Nat} {α β : Type} {fx : α → List Value} {fy : β → List Value} {W U : World} {vx0 vy0 vx vy : Value} {xs : List α} {ys : List β} {L : List (Nat × TypeId × List Value)} (r : R2 ex ey sx sy fx fy W U vx0 vy0 vx vy xs ys L) (t : TypeId) (cs : List Value) (b : Nat) (hb : U.heap.size = b) : R2 ex ey sx sy fx fy W (U.alloc (.cells cs.toArray t)) vx0 vy0 vx vy xs ys ((b, t, cs) :: L) := by
  subst hb
  refine ⟨r.os, r.tape, r.output, by rw [World.size_alloc]; have := r.sz; omega, r.ox.alloc _, r.oy.alloc _, r.bx, r.by_, r.xy, fun b hb h1 h2 => (Below.heap_alloc _ _ _ (by have := r.sz; omega)).trans (r.old b hb h1 h2), fun p hp => ?_⟩
  rcases List.mem_cons.1 hp with rfl | hp
  · exact ⟨heap_alloc_at _ _, fun e => by have := (r.ox.lt _ e).2; simp at this, fun e => by have := (r.oy.lt _ e).2; simp at this⟩
  · obtain ⟨h1, h2, h3⟩ := r.el p hp
    exact ⟨(Below.heap_alloc _ _ _ (Array.getElem?_eq_some_iff.1 h1).1).trans h1, h2, h3⟩
theorem R2.pushx {ex ey : TypeId} {sx sy : Nat} {α β : Type} {fx : α → List Value} {fy : β → List Value} {W U U' : World} {vx0 vy0 vx vy : Value} {xs : List α} {ys : List β} {L : List (Nat × TypeId × List Value)} {i : α} {g cap : Nat} (r : R2 ex ey sx sy fx fy W U vx0 vy0 vx vy xs ys L)
    (ho : U'.ownsRow 0 ex sx (.slice (some ⟨g, 0, none⟩) (xs.length + 1) cap) (xs.length + 1) (xs.flatMap fx ++ fx i)) (hg : U.grownBy U' vx.ownBlock) (ha : vx.ownBlock = some g ∨ g = U.heap.size) :
    R2 ex ey sx sy fx fy W U' vx0 vy0 (.slice (some ⟨g, 0, none⟩) (xs.length + 1) cap) vy (xs ++ [i]) ys L := by
  have hsz := r.sz
  have hgs := hg.size
  refine ⟨hg.os.trans r.os, hg.tape.trans r.tape, hg.output.trans r.output, by omega, by rw [snoc_flat, List.length_append]; exact ho, owns_same r.oy fun b e => hg.block b (r.oy.lt b e).2 fun e2 => r.xy b e2.symm e, ?_, r.by_, fun b e => ?_, fun b hb h1 h2 => ?_, fun p hp => ?_⟩
  · rcases ha with h | h
    · rcases r.bx with k | ⟨b, k1, k2⟩
      · exact .inl (by rw [← k, h]; rfl)
      · exact .inr ⟨g, rfl, by rw [k1] at h; cases h; exact k2⟩
    · exact .inr ⟨g, rfl, by omega⟩
  · obtain rfl : g = b := Option.some.inj e
    rcases ha with h | h
    · exact r.xy _ h
    · intro e; have := (r.oy.lt _ e).2; omega
  · refine (hg.block b (by omega) fun e => ?_).trans (r.old b hb h1 h2)
    rcases r.bx with k | ⟨b2, k1, k2⟩
    · exact h1 (by rw [← k, e])
    · rw [k1] at e; cases e; omega
  · obtain ⟨h1, h2, h3⟩ := r.el p hp
    have hlt := (Array.getElem?_eq_some_iff.1 h1).1
    refine ⟨(hg.block _ hlt fun e => h2 e.symm).trans h1, fun e => ?_, h3⟩
    have e : g = p.1 := Option.some.inj e
    rcases ha with h | h
    · exact h2 (by rw [h, e])
    · omega
theorem R2.swap {ex ey : TypeId} {sx sy : Nat} {α β : Type} {fx : α → List Value} {fy : β → List Value} {W U : World} {vx0 vy0 vx vy : Value} {xs : List α} {ys : List β} {L : List (Nat × TypeId × List Value)} (r : R2 ex ey sx sy fx fy W U vx0 vy0 vx vy xs ys L) : R2 ey ex sy sx fy fx W U vy0 vx0 vy vx ys xs L :=
  ⟨r.os, r.tape, r.output, r.sz, r.oy, r.ox, r.by_, r.bx, fun b e e2 => r.xy b e2 e, fun b hb h1 h2 => r.old b hb h2 h1, fun p hp => let ⟨h1, h2, h3⟩ := r.el p hp; ⟨h1, h3, h2⟩⟩
theorem R2.pushy {ex ey : TypeId} {sx sy : Nat} {α β : Type} {fx : α → List Value} {fy : β → List Value} {W U U' : World} {vx0 vy0 vx vy : Value} {xs : List α} {ys : List β} {L : List (Nat × TypeId × List Value)} {i : β} {g cap : Nat} (r : R2 ex ey sx sy fx fy W U vx0 vy0 vx vy xs ys L)
    (ho : U'.ownsRow 0 ey sy (.slice (some ⟨g, 0, none⟩) (ys.length + 1) cap) (ys.length + 1) (ys.flatMap fy ++ fy i)) (hg : U.grownBy U' vy.ownBlock) (ha : vy.ownBlock = some g ∨ g = U.heap.size) :
    R2 ex ey sx sy fx fy W U' vx0 vy0 vx (.slice (some ⟨g, 0, none⟩) (ys.length + 1) cap) xs (ys ++ [i]) L := (r.swap.pushx ho hg ha).swap
/-- An old cell outside the rows. -/
theorem R2.var {ex ey : TypeId} {sx sy : Nat} {α β : Type} {fx : α → List Value} {fy : β → List Value} {W U : World} {vx0 vy0 vx vy v : Value} {xs : List α} {ys : List β} {L : List (Nat × TypeId × List Value)} (r : R2 ex ey sx sy fx fy W U vx0 vy0 vx vy xs ys L) {b : Nat} (h : Var W b v) (h1 : vx0.ownBlock ≠ some b) (h2 : vy0.ownBlock ≠ some b) : Var U b v := h.block (r.old b h.lt h1 h2)
/-- Both rows are stored to their variables. -/
theorem R2.fin {s : Nat} {m : Int} {c : Nat} {pre : List (Cl × Int)} {x : Cl × Int} {χ : Col} {W U V : World} {vx0 vy0 vx vy : Value} {L : List (Nat × TypeId × List Value)} (h : DIx s m c pre χ W vx0 vy0)
    (r : R2 36 3 2 1 clc inc W U vx0 vy0 vx vy (pre.map (·.1) ++ [x.1]) (pre.map (·.2) ++ [x.2]) L) (hV1 : Var V (s + 5) vx) (hV2 : Var V (s + 6) vy) (hV : ∀ b, b ≠ s + 5 → b ≠ s + 6 → V.heap[b]? = U.heap[b]?)
    (hs : V.heap.size = U.heap.size) (ho : V.os = U.os ∧ V.tape = U.tape ∧ V.output = U.output) : ∃ χ2, (∀ b, b < W.heap.size → χ2 b = χ b) ∧ Chg χ (· = c) W V ∧ ∃ vx vy, DIx s m c (pre ++ [x]) χ2 V vx vy := by
  have l0 := World.block_lt_of_cell? W _ h.m0
  have l0 : s < W.heap.size := l0
  have l1 := h.r1.lt
  have l2 := h.r2.lt
  have l5 := h.v5.lt
  have l6 := h.v6.lt
  have hsz := r.sz
  have nx : ∀ b, b < s + 3 ∨ b = s + 5 ∨ b = s + 6 → vx0.ownBlock ≠ some b := fun b hb e => by have := h.ax b e; omega
  have ny : ∀ b, b < s + 3 ∨ b = s + 5 ∨ b = s + 6 → vy0.ownBlock ≠ some b := fun b hb e => by have := h.ay b e; omega
  have kb : ∀ b, b < s + 3 → V.heap[b]? = W.heap[b]? := fun b hb => (hV b (by omega) (by omega)).trans (r.old b (by omega) (nx b (.inl hb)) (ny b (.inl hb)))
  have ax : ∀ b, vx.ownBlock = some b → s + 3 ≤ b ∧ b ≠ s + 5 ∧ b ≠ s + 6 := fun b e => by
    rcases r.bx with k | ⟨b2, k1, k2⟩
    · exact h.ax b (by rw [← k, e])
    · rw [k1] at e; cases e; omega
  have ay : ∀ b, vy.ownBlock = some b → s + 3 ≤ b ∧ b ≠ s + 5 ∧ b ≠ s + 6 := fun b e => by
    rcases r.by_ with k | ⟨b2, k1, k2⟩
    · exact h.ay b (by rw [← k, e])
    · rw [k1] at e; cases e; omega
  refine ⟨paint χ W.heap.size c, fun b hb => paint_low hb, ⟨ho.1.trans r.os, ho.2.1.trans r.tape, ho.2.2.trans r.output, by omega, fun b hb hc => ?_⟩, vx, vy, ?_⟩
  · refine (hV b (fun e => hc (by rw [e]; exact h.c5)) (fun e => hc (by rw [e]; exact h.c6))).trans (r.old b hb (fun e => hc (h.x.2 b e)) (fun e => hc (h.y.2 b e)))
  · refine ⟨(paint_low l0).trans h.c0, (World.cell?_of_block (kb s (by omega))).trans h.m0, (paint_low l1).trans h.c1, h.r1.block (kb _ (by omega)), (paint_low l2).trans h.c2, h.r2.block (kb _ (by omega)), (paint_low l5).trans h.c5, hV1, (paint_low l6).trans h.c6, hV2, ⟨?_, fun b e => ?_⟩, ⟨?_, fun b e => ?_⟩, ax, ay, r.xy⟩
    · rw [List.map_append]; exact owns_same r.ox fun b e => hV b (ax b e).2.1 (ax b e).2.2
    · rcases r.bx with k | ⟨b2, k1, k2⟩
      · rw [k] at e; exact (paint_low (h.x.1.lt b e).2).trans (h.x.2 b e)
      · rw [k1] at e; cases e; exact paint_high k2
    · rw [List.map_append]; exact owns_same r.oy fun b e => hV b (ay b e).2.1 (ay b e).2.2
    · rcases r.by_ with k | ⟨b2, k1, k2⟩
      · rw [k] at e; exact (paint_low (h.y.1.lt b e).2).trans (h.y.2 b e)
      · rw [k1] at e; cases e; exact paint_high k2
theorem R2.fin2 {s : Nat} {m : Int} {c : Nat} {pre : List (Cl × Int)} {x : Cl × Int} {χ : Col} {W U : World} {vx0 vy0 vx vy v5 v6 : Value} {L : List (Nat × TypeId × List Value)} (h : DIx s m c pre χ W vx0 vy0)
    (r : R2 36 3 2 1 clc inc W U vx0 vy0 vx vy (pre.map (·.1) ++ [x.1]) (pre.map (·.2) ++ [x.2]) L) (t5 : Var U (s + 5) v5) (t6 : Var U (s + 6) v6) :
    ∃ χ2, (∀ b, b < W.heap.size → χ2 b = χ b) ∧ Chg χ (· = c) W ((U.setCell ⟨s + 5, 0, none⟩ vx).setCell ⟨s + 6, 0, none⟩ vy) ∧ ∃ vx' vy', DIx s m c (pre ++ [x]) χ2 ((U.setCell ⟨s + 5, 0, none⟩ vx).setCell ⟨s + 6, 0, none⟩ vy) vx' vy' := by
  have e6 : Var (U.setCell ⟨s + 5, 0, none⟩ vx) (s + 6) v6 := t6.block (Below.heap_setCell _ _ _ _ (by show s + 6 ≠ s + 5; omega))
  refine R2.fin h r ((t5.set vx).block (Below.heap_setCell _ _ _ _ (by show s + 5 ≠ s + 6; omega))) (e6.set vy) (fun b h1 h2 => (Below.heap_setCell _ _ _ _ h2).trans (Below.heap_setCell _ _ _ _ h1)) (by simp [World.setCell]) ⟨rfl, rfl, rfl⟩
/-- Both rows are laid into the results. -/
theorem DIx.res {s : Nat} {m : Int} {c : Nat} {pre : List (Cl × Int)} {χ : Col} {V U : World} {vx vy : Value} (h : DIx s m c pre χ V vx vy) (hU : U = (V.setCell ⟨s + 1, 0, none⟩ vx).setCell ⟨s + 2, 0, none⟩ vy) :
    Chg χ (· = c) V U ∧ U.cell? ⟨s + 1, 0, none⟩ = some vx ∧ U.cell? ⟨s + 2, 0, none⟩ = some vy ∧ IsX 36 2 clc c χ U vx (pre.map (·.1)) ∧ IsX 3 1 inc c χ U vy (pre.map (·.2)) ∧ U.heap.size = V.heap.size ∧ (∀ b, b ≠ s + 1 → b ≠ s + 2 → U.heap[b]? = V.heap[b]?) := by
  subst hU
  have e2 : Var (V.setCell ⟨s + 1, 0, none⟩ vx) (s + 2) (.slice none 0 0) := h.r2.block (Below.heap_setCell _ _ _ _ (by show s + 2 ≠ s + 1; omega))
  have kb : ∀ b, b ≠ s + 1 → b ≠ s + 2 → ((V.setCell ⟨s + 1, 0, none⟩ vx).setCell ⟨s + 2, 0, none⟩ vy).heap[b]? = V.heap[b]? := fun b h1 h2 => (Below.heap_setCell _ _ _ _ h2).trans (Below.heap_setCell _ _ _ _ h1)
  exact ⟨(Chg.setCell _ _ _ h.c1).step (Chg.setCell _ _ _ h.c2), ((h.r1.set vx).block (Below.heap_setCell _ _ _ _ (by show s + 1 ≠ s + 2; omega))).1, (e2.set vy).1,
    ⟨owns_same h.x.1 fun b e => kb b (by have := (h.ax b e).1; omega) (by have := (h.ax b e).1; omega), h.x.2⟩, ⟨owns_same h.y.1 fun b e => kb b (by have := (h.ay b e).1; omega) (by have := (h.ay b e).1; omega), h.y.2⟩, by simp [World.setCell], kb⟩
theorem IsX.blank {α : Type} {e : TypeId} {sz : Nat} {f : α → List Value} {c : Nat} {χ : Col} {w : World} {v : Value} {xs : List α} (h : IsX e sz f c χ w v xs) : IsX e sz f 0 (fun _ => 0) w v xs := ⟨h.1, fun _ _ => rfl⟩
theorem IsX.hiPut {α : Type} {e : TypeId} {sz : Nat} {f : α → List Value} {c : Nat} {χ : Col} {W : World} {v : Value} {xs : List α} (h : IsX e sz f c χ W v xs) (D cR : Nat) (o : Obj) (hD : χ D = cR) (hRO : cR ≠ c) : IsX e sz f c χ (W.putObj D o) v xs :=
  ⟨owns_same h.1 fun b e => World.putObj_heap_other (fun k => hRO (by rw [← hD, ← k, h.2 b e])), h.2⟩
end Go.Proofs.Ytipdmnfkigoanaa
