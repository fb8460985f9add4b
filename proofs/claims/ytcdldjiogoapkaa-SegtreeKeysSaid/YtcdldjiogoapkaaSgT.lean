import Derived.Test.YtcdldjiogoapkaaSgS
namespace Go.Proofs.Ytcdldjiogoapkaa
open Go.RowKit
attribute [local go_sem] World.cell?_alloc_some frozen_alloc_some

theorem tall_calls (w : World) (pt : Nat) :
    Calls Try.prog 39 #[.pointer (some ⟨pt, 0, none⟩)] w fun e w' =>
      e = .returned (.func (.func 56) #[] #[.pointer (some ⟨w.heap.size, 0, none⟩)]) ∧ w' = w.alloc (.cells #[.pointer (some ⟨pt, 0, none⟩)] 24) := by
  go_enter Try.func39, Try.ntmps39
  go_wp2
  go_ret
  exact ⟨rfl, rfl⟩

/-- What comes with a pair. -/
def YPair (x : Nat × Int) (vs : Array Value) : Prop := vs = #[.int .u32 x.1, .int .i64 x.2]

set_option maxRecDepth 100000 in
set_option maxHeartbeats 4000000 in
theorem tall_iter (W : World) (pt bx : Nat) {c : Nat} {Co : Nat → Prop} {χ : Col} {ns : List Nd} {root lim : Int} (hT : TrAt c χ W pt ns root lim) (hok : OkN ns) (i0 : 0 ≤ root) (i1 : root ≤ ns.length) (hCo : ∀ x, c ≤ x → x ≤ c + 3 → ¬ Co x)
    (hbox : W.cell? ⟨bx, 0, none⟩ = some (.pointer (some ⟨pt, 0, none⟩))) :
    IterC Try.prog 56 #[.pointer (some ⟨bx, 0, none⟩)] YPair Co (fun x => c ≤ x ∧ x ≤ c + 2) (fun χ2 W2 => TrAt c χ2 W2 pt (walkT 32 ns root 0).2 root lim) (walkT 32 ns root 0).1 χ W := by
  intro n l J Jx hJ hJx hY h0
  obtain ⟨R, hR⟩ : ∃ R, R = walkT 32 ns root 0 := ⟨_, rfl⟩
  have hY' : Rounds Co l J Jx (walkT 32 ns root 0).1 := fun m pre x rest χ1 U hx hj => hY m pre x rest _ χ1 U hx hj rfl
  have HW : Hid (∀ (n' : Nat) (W' : World) (χ' : Col), TrAt c χ' W' pt ns root lim → J [] χ' W' → CallsIn Fence.wide n' Try.prog 57 #[.pointer (some ⟨pt, 0, none⟩), .int .i32 root, blk 0 32, .func (.yield l) #[] #[]] W' (WalkEnd c Co χ' W' pt root lim J Jx R.1 [] R)) :=
    fun n' W' χ' hT' hj => by rw [hR]; exact walk_calls l hJ hY' 32 (Nat.le_refl _) n' W' root 0 [] [] hT' hCo hok i0 i1 (by decide) hj (by simp)
  rw [← hR]
  have HJ := Lib.hid hJ
  have H0 := Lib.hid h0
  have HC := Lib.hid hCo
  clear hY hY' hJ hJx hR h0 hok i0 i1 hCo
  obtain ⟨qa, -, -, -, h3, -⟩ := id hT
  refine callsIn_of_wp Try.func56 rfl trivial ?_ rfl
  simp only [Try.ntmps56, List.size_toArray, List.length_cons, List.length_nil, Nat.reduceAdd, Nat.reduceSub, Array.replicate_succ, Array.replicate_zero, List.push_toArray, List.append_toArray, List.nil_append, List.cons_append]
  gi_wp2
  have hbd : Below W.heap.size W W.drew := undrew_r (Below.refl _ _)
  have x1 : W.drew.cell? ⟨bx, 0, none⟩ = some (.pointer (some ⟨pt, 0, none⟩)) := hbox
  have x2 : W.drew.cell? ⟨pt, 1, none⟩ = some (.int .i32 root) := h3
  gi_region_with (first
    | (have hS := hb2; refine ⟨trivial, wide_n, ?_⟩; gi_at_call 57; refine (HW.out _ _ _ (hT.keep (Same.below (c + 3) hb2)) (HJ.out _ _ _ _ _ H0.out (Same.below (c + 3) hb2))).mono ?_; rintro e w3 ⟨χ3, hE⟩; have hE := Lib.hid hE; obtain ⟨bb, rfl, hE2⟩ : ∃ bb, e = .returned (.bool bb) ∧ Hid ((bb = true ∧ TrkJ c Co (paint χ W.heap.size (c + 3)) w2 χ3 w3 pt R.2 root lim ∧ J ([] ++ R.1) χ3 w3) ∨ (bb = false ∧ (∀ b, b < w2.heap.size → χ3 b = paint χ W.heap.size (c + 3) b) ∧ Chg (paint χ W.heap.size (c + 3)) (fun x => Co x ∨ (c ≤ x ∧ x ≤ c + 2)) w2 w3 ∧ ∃ pre, pre <+: R.1 ∧ Jx pre χ3 w3)) := (by rcases hE.out with ⟨rfl, h⟩ | ⟨rfl, h⟩; exact ⟨true, rfl, .inl ⟨rfl, h⟩⟩; exact ⟨false, rfl, .inr ⟨rfl, h⟩⟩); clear hE)
    | (refine ⟨trivial, wide_n, ?_⟩; gi_at_call 35; refine (callsIn_wide.2 (whole_calls _)).mono ?_; rintro e w2 ⟨rfl, hb1⟩; have hb2 := hbd.trans hb1; have x3 := below_cell hb2 hbox; have x4 := below_cell hb2 h3))
  all_goals
    go_end0
    have K2 := (TrkJ.start (Co := Co) hT).below hb2
    refine ⟨⟨_, rfl⟩, χ3, ?_⟩
    rcases hE2.out with ⟨-, K3, hj⟩ | ⟨-, ag3, hc3, hx⟩
    · have K4 := K2.trans K3
      exact ⟨K4.ag, K4.chg, .inl ⟨K4.tr, hj⟩⟩
    · have K4 := K2.stop ag3 hc3
      exact ⟨K4.1, K4.2, .inr hx⟩

def pcells (x : Nat × Int) : List Value := [.int .u32 x.1, .int .i64 x.2]
/-- A slice of pairs, its block of color c. -/
def IsP (c : Nat) (χ : Col) (w : World) (v : Value) (xs : List (Nat × Int)) : Prop :=
  w.ownsRow 0 61 2 v xs.length (xs.flatMap pcells) ∧ ∀ b, v.ownBlock = some b → χ b = c
theorem IsP.keep {c : Nat} {χ χ' : Col} {w w' : World} {v : Value} {xs : List (Nat × Int)} (h : IsP c χ w v xs) (hs : Same (· = c) χ χ' w w') : IsP c χ' w' v xs :=
  ⟨owns_same h.1 fun b e => (hs b (h.1.lt b e).2 (h.2 b e)).2, fun b e => ((hs b (h.1.lt b e).2 (h.2 b e)).1).trans (h.2 b e)⟩

/-- What holds between two rounds of the loop of pairs. -/
def PI (s : Nat) (m : Int) (c : Nat) (pre : List (Nat × Int)) (χ : Col) (W : World) : Prop :=
  (χ s = c ∧ W.cell? ⟨s, 0, none⟩ = some (.int .i64 m)) ∧ (χ (s + 1) = c ∧ Var W (s + 1) (.slice none 0 0)) ∧ ∃ v, (χ (s + 3) = c ∧ Var W (s + 3) v) ∧ IsP c χ W v pre ∧ ∀ b, v.ownBlock = some b → s + 2 ≤ b ∧ b ≠ s + 3
theorem PI.keep {s : Nat} {m : Int} {c : Nat} {pre : List (Nat × Int)} {χ χ' : Col} {W W' : World} (h : PI s m c pre χ W) (hs : Same (· = c) χ χ' W W') : PI s m c pre χ' W' := by
  obtain ⟨⟨h1, h2⟩, ⟨h3, h4⟩, v, ⟨h5, h6⟩, h7, h8⟩ := h
  have k1 := hs s (World.block_lt_of_cell? W _ h2) h1
  have k3 := hs _ h4.lt h3
  have k5 := hs _ h6.lt h5
  exact ⟨⟨k1.1.trans h1, (World.cell?_of_block k1.2).trans h2⟩, ⟨k3.1.trans h3, h4.block k3.2⟩, v, ⟨k5.1.trans h5, h6.block k5.2⟩, h7.keep hs, h8⟩

theorem PI.push {s : Nat} {m : Int} {c : Nat} {pre : List (Nat × Int)} {x : Nat × Int} {χ : Col} {W w1 : World} {v v' : Value} {o : Obj} (h1 : χ s = c ∧ W.cell? ⟨s, 0, none⟩ = some (.int .i64 m)) (h2 : χ (s + 1) = c ∧ Var W (s + 1) (.slice none 0 0))
    (h3 : χ (s + 3) = c ∧ Var W (s + 3) v) (h4 : IsP c χ W v pre) (h5 : ∀ b, v.ownBlock = some b → s + 2 ≤ b ∧ b ≠ s + 3)
    (hown : w1.ownsRow 0 61 2 v' (pre.length + 1) (pre.flatMap pcells ++ pcells x)) (hg : (W.alloc o).grownBy w1 v.ownBlock) (hat : v'.ownBlock = v.ownBlock ∨ v'.ownBlock = some (W.alloc o).heap.size) :
    ∃ χ2, (∀ b, b < W.heap.size → χ2 b = χ b) ∧ Chg χ (· = c) W (w1.setCell ⟨s + 3, 0, none⟩ v') ∧ PI s m c (pre ++ [x]) χ2 (w1.setCell ⟨s + 3, 0, none⟩ v') := by
  have hs3 := h3.2.lt
  have hb0 : s < W.heap.size := World.block_lt_of_cell? W _ h1.2
  have hb1 := h2.2.lt
  obtain ⟨p1, p2⟩ := own_push h4.1 h4.2 hg hat
  have kb : ∀ b, b < W.heap.size → b ≠ s + 3 → some b ≠ v.ownBlock → (w1.setCell ⟨s + 3, 0, none⟩ v').heap[b]? = W.heap[b]? := fun b hb hn ho =>
    (Below.heap_setCell _ _ _ _ hn).trans ((hg.block b (by simp; omega) ho).trans (Below.heap_alloc _ _ _ hb))
  have k3 : Var w1 (s + 3) v := h3.2.block ((hg.block _ (by simp; omega) (fun e => (h5 _ e.symm).2 rfl)).trans (Below.heap_alloc _ _ _ hs3))
  have hsz : W.heap.size ≤ w1.heap.size := p2.size
  refine ⟨paint χ W.heap.size c, fun b hb => paint_low hb, p2.trans (fun _ _ => rfl) (Chg.setCell _ _ _ h3.1), ⟨(paint_low hb0).trans h1.1, ?_⟩, ⟨(paint_low hb1).trans h2.1, ?_⟩, v', ⟨(paint_low hs3).trans h3.1, k3.set v'⟩, ⟨?_, p1⟩, fun b e => ?_⟩
  · exact (World.cell?_of_block (kb s hb0 (by omega) (fun e => by have := (h5 _ e.symm).1; omega))).trans h1.2
  · exact h2.2.block (kb _ hb1 (by omega) (fun e => by have := (h5 _ e.symm).1; omega))
  · have : (pre ++ [x]).flatMap pcells = pre.flatMap pcells ++ pcells x := by simp
    rw [this, List.length_append]
    exact owns_same hown fun b e => Below.heap_setCell _ _ _ _ (by
      rcases hat with h | h
      · rw [h] at e; exact (h5 b e).2
      · rw [h] at e; have := Option.some.inj e; simp at this; show b ≠ s + 3; omega)
  · rcases hat with h | h
    · rw [h] at e; exact h5 b e
    · rw [h] at e; have := Option.some.inj e; simp at this; omega
end Go.Proofs.Ytcdldjiogoapkaa
