import Derived.Test.YtjlkkbjolfhobaaDoorArH
namespace Go.Proofs.YtjlkkbjolfhobaaDoor
open Go.RowKit
attribute [local go_sem] World.cell?_alloc_some frozen_alloc_some Oper.semAt_some

def ccells (x : Nat × Sp) : List Value := [.int .i64 x.1, .int .u32 x.2.1, .int .u32 x.2.2]
/-- A slice of pairs, its block of color c. -/
def IsC (c : Nat) (χ : Col) (w : World) (v : Value) (xs : List (Nat × Sp)) : Prop :=
  w.ownsRow 0 39 3 v xs.length (xs.flatMap ccells) ∧ ∀ b, v.ownBlock = some b → χ b = c
theorem IsC.keep {c : Nat} {χ χ' : Col} {w w' : World} {v : Value} {xs : List (Nat × Sp)} (h : IsC c χ w v xs) (hs : Same (· = c) χ χ' w w') : IsC c χ' w' v xs :=
  ⟨owns_same h.1 fun b e => (hs b (h.1.lt b e).2 (h.2 b e)).2, fun b e => ((hs b (h.1.lt b e).2 (h.2 b e)).1).trans (h.2 b e)⟩

/-- What holds between two rounds of the loop of pairs. -/
def CI (s : Nat) (m : Int) (c : Nat) (pre : List (Nat × Sp)) (χ : Col) (W : World) : Prop :=
  (χ s = c ∧ W.cell? ⟨s, 0, none⟩ = some (.int .i64 m)) ∧ (χ (s + 1) = c ∧ Var W (s + 1) (.slice none 0 0)) ∧ ∃ v, (χ (s + 3) = c ∧ Var W (s + 3) v) ∧ IsC c χ W v pre ∧ ∀ b, v.ownBlock = some b → s + 2 ≤ b ∧ b ≠ s + 3
theorem CI.keep {s : Nat} {m : Int} {c : Nat} {pre : List (Nat × Sp)} {χ χ' : Col} {W W' : World} (h : CI s m c pre χ W) (hs : Same (· = c) χ χ' W W') : CI s m c pre χ' W' := by
  obtain ⟨⟨h1, h2⟩, ⟨h3, h4⟩, v, ⟨h5, h6⟩, h7, h8⟩ := h
  have k1 := hs s (World.block_lt_of_cell? W _ h2) h1
  have k3 := hs _ h4.lt h3
  have k5 := hs _ h6.lt h5
  exact ⟨⟨k1.1.trans h1, (World.cell?_of_block k1.2).trans h2⟩, ⟨k3.1.trans h3, h4.block k3.2⟩, v, ⟨k5.1.trans h5, h6.block k5.2⟩, h7.keep hs, h8⟩

theorem CI.push {s : Nat} {m : Int} {c : Nat} {pre : List (Nat × Sp)} {x : Nat × Sp} {χ : Col} {W w1 : World} {v v' : Value} {o : Obj} (h1 : χ s = c ∧ W.cell? ⟨s, 0, none⟩ = some (.int .i64 m)) (h2 : χ (s + 1) = c ∧ Var W (s + 1) (.slice none 0 0))
    (h3 : χ (s + 3) = c ∧ Var W (s + 3) v) (h4 : IsC c χ W v pre) (h5 : ∀ b, v.ownBlock = some b → s + 2 ≤ b ∧ b ≠ s + 3)
    (hown : w1.ownsRow 0 39 3 v' (pre.length + 1) (pre.flatMap ccells ++ ccells x)) (hg : (W.alloc o).grownBy w1 v.ownBlock) (hat : v'.ownBlock = v.ownBlock ∨ v'.ownBlock = some (W.alloc o).heap.size) :
    ∃ χ2, (∀ b, b < W.heap.size → χ2 b = χ b) ∧ Chg χ (· = c) W (w1.setCell ⟨s + 3, 0, none⟩ v') ∧ CI s m c (pre ++ [x]) χ2 (w1.setCell ⟨s + 3, 0, none⟩ v') := by
  have hs3 := h3.2.lt
  have hb0 : s < W.heap.size := World.block_lt_of_cell? W _ h1.2
  have hb1 := h2.2.lt
  obtain ⟨p1, p2⟩ := own_push h4.1 h4.2 hg hat
  have kb : ∀ b, b < W.heap.size → b ≠ s + 3 → some b ≠ v.ownBlock → (w1.setCell ⟨s + 3, 0, none⟩ v').heap[b]? = W.heap[b]? := fun b hb hn ho =>
    (Below.heap_setCell _ _ _ _ hn).trans ((hg.block b (by simp; omega) ho).trans (Below.heap_alloc _ _ _ hb))
  have k3 : Var w1 (s + 3) v := h3.2.block ((hg.block _ (by simp; omega) (fun e => (h5 _ e.symm).2 rfl)).trans (Below.heap_alloc _ _ _ hs3))
  have hsz : W.heap.size ≤ w1.heap.size := p2.size
  refine ⟨paint χ W.heap.size c, fun b hb => paint_low hb, p2.trans (fun _ _ => rfl) (Chg.setCell _ _ _ h3.1), ⟨(paint_low hb0).trans h1.1, ?_⟩, ⟨(paint_low hb1).trans h2.1, ?_⟩, v', ⟨(paint_low hs3).trans h3.1, k3.set v'⟩, ⟨?_, p1⟩, fun b e => ?_⟩
  · exact (World.cell?_of_block (kb s hb0 (by omega) (fun e => by have := (h5 _ e.symm).1; omega))).trans h1.2
  · exact h2.2.block (kb _ hb1 (by omega) (fun e => by have := (h5 _ e.symm).1; omega))
  · have : (pre ++ [x]).flatMap ccells = pre.flatMap ccells ++ ccells x := by simp
    rw [this, List.length_append]
    exact owns_same hown fun b e => Below.heap_setCell _ _ _ _ (by
      rcases hat with h | h
      · rw [h] at e; exact (h5 b e).2
      · rw [h] at e; have := Option.some.inj e; simp at this; show b ≠ s + 3; omega)
  · rcases hat with h | h
    · rw [h] at e; exact h5 b e
    · rw [h] at e; have := Option.some.inj e; simp at this; omega
theorem infoCell : (Tryd.prog.info? 39).map (fun i => (i.zero, i.size, i.bytes)) = some (some (.agg #[.int .i64 0, .int .u32 0, .int .u32 0]), 3, 16) := by kernel_rfl

theorem Chg.hiSet {χ : Col} {C : Nat → Prop} {w W : World} (h : Chg χ C w W) (a : Addr) (v : Value) (ha : w.heap.size ≤ a.block) : Chg χ C w (W.setCell a v) :=
  ⟨h.os, h.tape, h.output, by simp [World.setCell]; exact h.size, fun b hb hn => (Below.heap_setCell _ _ _ _ (by omega)).trans (h.blk b hb hn)⟩
theorem Chg.hiPut {χ : Col} {C : Nat → Prop} {w W : World} (h : Chg χ C w W) (l : Nat) (o : Obj) (ha : w.heap.size ≤ l) : Chg χ C w (W.putObj l o) :=
  ⟨h.os, h.tape, h.output, by simp; exact h.size, fun b hb hn => (World.putObj_heap_other (by omega)).trans (h.blk b hb hn)⟩
theorem IsC.hiPut {c : Nat} {χ : Col} {W : World} {v : Value} {xs : List (Nat × Sp)} (h : IsC c χ W v xs) (D cR : Nat) (o : Obj) (hD : χ D = cR) (hRO : cR ≠ c) : IsC c χ (W.putObj D o) v xs :=
  ⟨owns_same h.1 fun b e => World.putObj_heap_other (fun k => hRO (by rw [← hD, ← k, h.2 b e])), h.2⟩

theorem ci_start (w : World) (A : Option Addr) (nA cA : Nat) (m : Int) (cO : Nat) (χ : Col) :
    ∃ W0, W0 = (((((w.alloc (.cells #[.int .i64 m] 3)).alloc (.cells #[.slice none 0 0] 34)).alloc (.cells #[] 39)).alloc (.cells #[.slice (some ⟨w.heap.size + 1 + 1, 0, none⟩) 0 0] 34)).alloc (.cells #[.slice A nA cA] 22)) ∧
      Below w.heap.size w W0 ∧ W0.heap.size = w.heap.size + 5 ∧ CI w.heap.size m cO [] (paint χ w.heap.size cO) W0 ∧ W0.cell? ⟨w.heap.size + 1 + 1 + 1 + 1, 0, none⟩ = some (.slice A nA cA) := by
  have v0 := Var.new w (.int .i64 m) 3
  have v1 := Var.new (w.alloc (.cells #[.int .i64 m] 3)) (.slice none 0 0) 34
  have v3 := Var.new (((w.alloc (.cells #[.int .i64 m] 3)).alloc (.cells #[.slice none 0 0] 34)).alloc (.cells #[] 39)) (.slice (some ⟨w.heap.size + 1 + 1, 0, none⟩) 0 0) 34
  have v4 := Var.new ((((w.alloc (.cells #[.int .i64 m] 3)).alloc (.cells #[.slice none 0 0] 34)).alloc (.cells #[] 39)).alloc (.cells #[.slice (some ⟨w.heap.size + 1 + 1, 0, none⟩) 0 0] 34)) (.slice A nA cA) 22
  have o2 := World.ownsRow_made (base := 0) (e := 39) (size := 3) ((w.alloc (.cells #[.int .i64 m] 3)).alloc (.cells #[.slice none 0 0] 34)) #[] 0 (Nat.zero_le _) (Nat.zero_le _) rfl
  simp only [World.size_alloc] at v1 v3 v4 o2
  refine ⟨_, rfl, ?_, by simp, ⟨⟨paint_high (Nat.le_refl _), ((((v0.alloc _).alloc _).alloc _).alloc _).1⟩, ⟨paint_high (by omega), ((v1.alloc _).alloc _).alloc _⟩, _, ⟨paint_high (by omega), v3.alloc _⟩, ⟨(o2.alloc _).alloc _, fun b e => ?_⟩, fun b e => ?_⟩, v4.1⟩
  · exact ((((((Below.refl w.heap.size w).alloc (Nat.le_refl _) _).alloc (by simp only [World.size_alloc]; omega) _).alloc (by simp only [World.size_alloc]; omega) _).alloc (by simp only [World.size_alloc]; omega) _).alloc (by simp only [World.size_alloc]; omega) _)
  · cases e; exact paint_high (by show w.heap.size ≤ w.heap.size + 1 + 1; omega)
  · cases e; exact ⟨Nat.le_refl _, by show w.heap.size + 1 + 1 ≠ w.heap.size + 3; omega⟩

theorem CI.fin {s : Nat} {m : Int} {c : Nat} {pre : List (Nat × Sp)} {χ : Col} {W : World} (h : CI s m c pre χ W) :
    ∃ A cap, W.cell? ⟨s + 3, 0, none⟩ = some (.slice A pre.length cap) ∧ W.cell? ⟨s + 1, 0, none⟩ = some (.slice none 0 0) ∧ W.frozen? ⟨s + 1, 0, none⟩ = false ∧ χ (s + 1) = c ∧
      Hid ((W.setCell ⟨s + 1, 0, none⟩ (.slice A pre.length cap)).cell? ⟨s + 1, 0, none⟩ = some (.slice A pre.length cap) ∧ IsC c χ (W.setCell ⟨s + 1, 0, none⟩ (.slice A pre.length cap)) (.slice A pre.length cap) pre) := by
  obtain ⟨⟨h1, h2⟩, ⟨h3, h4⟩, v, ⟨h5, h6⟩, h7, h8⟩ := h
  obtain ⟨A, cap, rfl⟩ := owns_form h7.1
  exact ⟨A, cap, h6.1, h4.1, h4.2, h3, (h4.set _).1, owns_same h7.1 fun b e => Below.heap_setCell _ _ _ _ (by have := (h8 b e).1; show b ≠ s + 1; omega), h7.2⟩

end Go.Proofs.YtjlkkbjolfhobaaDoor
