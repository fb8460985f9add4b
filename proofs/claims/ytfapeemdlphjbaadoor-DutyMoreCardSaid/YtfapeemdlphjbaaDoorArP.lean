import Derived.Test.YtfapeemdlphjbaaDoorArO
import Derived.Laws.AppendOwnNone
namespace Go.Proofs.YtfapeemdlphjbaaDoor
open Go.RowKit
attribute [local go_sem] World.cell?_alloc_some frozen_alloc_some
theorem emptyb_calls (w : World) (v : Value) (a : Ar) (q : Bool) (hr : RdA w v a) (hs : Sm 450 a) (hq : emptyB a = q) :
    Calls Tryd.prog 9 #[v] w fun e w' => e = .returned (.bool q) ∧ Below w.heap.size w w' := by
  rw [← hq]; exact aempty_calls w v a hr (hs.mono (by omega))

/-- a cell lies in its block. -/
def CellC (g : Nat) (lab : Int) (key : Nat) (W : World) : Prop := W.cell? ⟨g, 0, none⟩ = some (.int .i64 lab) ∧ W.cell? ⟨g, 1, none⟩ = some (.int .u32 key)
theorem CellC.keep {g : Nat} {lab : Int} {key : Nat} {W W' : World} (h : CellC g lab key W) (hb : Below W.heap.size W W') : CellC g lab key W' :=
  ⟨(hb.cell (World.block_lt_of_cell? _ _ h.1)).trans h.1, (hb.cell (World.block_lt_of_cell? _ _ h.2)).trans h.2⟩
theorem has_b (w : World) (v : Value) (a : Ar) (lab : Int) (key : Nat) (q : Bool) (hr : RdA w v a) (hq : inA a lab key = q) :
    Calls Tryd.prog 17 #[v, .agg #[.int .i64 lab, .int .u32 key]] w fun e w' => e = .returned (.bool q) ∧ Below w.heap.size w w' := by
  rw [← hq]; exact ahas_calls w v a lab key hr

/-- an area's labels as values. -/
theorem RdA.vals {w : World} {A : Option Addr} {n cap : Nat} {l : Ar} (h : RdA w (.slice A n cap) l) :
    ∃ ys : List Value, ys.length = l.length ∧ ∀ i (hi : i < l.length), ∃ b o u, A = some ⟨b, o, none⟩ ∧ ys[i]? = some u ∧ w.cell? ⟨b, o + i, none⟩ = some u ∧ RdS w u l[i] := by
  have h1 : ∀ i : Fin l.length, ∃ u, ∃ b o, A = some ⟨b, o, none⟩ ∧ w.cell? ⟨b, o + i.1, none⟩ = some u ∧ RdS w u (l[i.1]'i.2) := fun i => by
    obtain ⟨b, o, u, e, hc, hu⟩ := h.get i.1 i.2
    exact ⟨u, b, o, e, hc, hu⟩
  refine ⟨List.ofFn fun i => Classical.choose (h1 i), by simp, fun i hi => ?_⟩
  obtain ⟨b, o, e, hc, hu⟩ := Classical.choose_spec (h1 ⟨i, hi⟩)
  exact ⟨b, o, _, e, by simp [hi], hc, hu⟩

/-- append(an own row, an area...) -/
theorem push_ar {W0 W : World} {ops : Array Oper} {rest : List Oper} {o : Oper} {a : Act} {Q : Exit → Act → World → Prop} (hgd : o.guard = none) (s x : Operand)
    (ho : o.op = .call { callee := .builtin .append, args := #[s, x], argTypes := #[29, 29] })
    (base n : Nat) (xs : List Value) (v : Value) (hs : a.eval s = v) (hown : W.ownsRow base 45 1 v n xs) (hn : n ≤ 1000) (hbase : base ≤ W.heap.size)
    (A : Option Addr) (m cap : Nat) (l : Ar) (hm : m = l.length) (hx : a.eval x = .slice A m cap) (hr : RdA W0 (.slice A m cap) l) (hB : Below W0.heap.size W0 W) (hl : l.length ≤ 1000)
    (h : ∀ v' w' ys, w'.ownsRow base 45 1 v' (n + l.length) (xs ++ ys) → ys.length = l.length → (∀ i (hi : i < l.length), ∃ u, ys[i]? = some u ∧ RdS W0 u l[i]) → W.grownBy w' v.ownBlock → wpList Tryd.prog ops Q rest (a.put o.dst v') w') :
    wpList Tryd.prog ops Q (o :: rest) a W := by
  subst hm
  obtain ⟨i0, hi, hz0, hz1, hz2⟩ := info_parts infoSl
  obtain ⟨ys, hyl, hys⟩ := hr.vals
  have hy : ∀ i (hi : i < l.length), ∃ u, ys[i]? = some u ∧ RdS W0 u l[i] := fun i hi => by
    obtain ⟨b, o, u, -, h1, -, h2⟩ := hys i hi
    exact ⟨u, h1, h2⟩
  have hone : ∀ u ∈ ys, u.oneCell' = true := fun u hu => by
    obtain ⟨i, hi, rfl⟩ := List.getElem_of_mem hu
    obtain ⟨b, o, u, -, h1, -, h2⟩ := hys i (by omega)
    rw [List.getElem?_eq_getElem hi] at h1
    cases h1
    obtain ⟨A2, c2, e2, -⟩ := h2
    rw [e2]; rfl
  cases A with
  | none =>
    obtain ⟨A2, c2, e2, k1, k2, k3, -⟩ := id hr
    cases e2
    have hc0 := k3.2 rfl
    have hl0 : l.length = 0 := by omega
    subst hc0
    have hl1 : l = [] := List.length_eq_zero_iff.1 hl0
    subst hl1
    refine wpList_append_own_none hgd s x 29 ho base 45 i0 1 Tryd.underlying29 hi v n xs hs hown hx ?_
    exact h v W [] (by simpa using hown) rfl (fun i hi => by simp at hi) ⟨rfl, rfl, rfl, Nat.le_refl _, fun _ _ _ => rfl⟩
  | some ad =>
    refine wpList_append_own_at _ hgd s x 29 ho base 45 i0 _ 1 24 Tryd.underlying29 hi hz0 hz1 hz2 rfl (by decide) v n xs hs hown ad l.length cap ys hx (by omega) ?_ hone (by unfold maxLen; omega) (by omega) hbase ?_
    · intro j u hj
      have hjl : j < l.length := by
        have := (List.getElem?_eq_some_iff.1 hj).1
        omega
      obtain ⟨b, o, u2, e, h1, h2, -⟩ := hys j hjl
      cases e
      rw [hj] at h1
      cases h1
      have h3 := (hB.cell (World.block_lt_of_cell? _ _ h2)).trans h2
      have e1 : (⟨b, o, none⟩ : Addr).add j = ⟨b, o + j, none⟩ := by simp only [Addr.add]; split <;> simp_all
      rw [e1]; exact h3
    · intro v' w6 hown' hgrow _ hat
      exact h v' w6 ys hown' hyl hy hgrow

/-- an area with an empty label and one of a span without keys behind it. -/
theorem more_step {W WA WB : World} {ys : List Value} {v9 v10 : Value} {a : Ar} (hown : WA.ownsRow W.heap.size 45 1 v9 a.length ys)
    (hgrow : (W.alloc (.cells #[] 45)).grownBy WA (some W.heap.size)) (hyl : ys.length = a.length) (hys : ∀ i (hi : i < a.length), ∃ u, ys[i]? = some u ∧ RdS W u a[i])
    (hown2 : WB.ownsRow W.heap.size 45 1 v10 (a.length + 2) (ys ++ [.slice none 0 0, .slice (some ⟨WA.heap.size, 0, none⟩) 1 1]))
    (hgrow2 : ((WA.alloc (.cells #[.int .u32 2, .int .u32 1] 44)).alloc (.cells #[.slice none 0 0, .slice (some ⟨WA.heap.size, 0, none⟩) 1 1] 45)).grownBy WB v9.ownBlock) (hl : a.length ≤ 1000) :
    RdA WB v10 (a ++ [[], [(2, 1)]]) ∧ Below W.heap.size W WB := by
  have hsz := hgrow.size
  rw [World.size_alloc] at hsz
  have hB1 : Below W.heap.size W WA := ⟨hgrow.os, hgrow.tape, hgrow.output, by omega, fun b hb => (hgrow.block b (by rw [World.size_alloc]; omega) (fun e => by cases e; omega)).trans (Below.heap_alloc _ _ _ hb)⟩
  have hB2 : Below W.heap.size W WB := hB1.trans ((((Below.refl W.heap.size WA).alloc (by omega) _).alloc (by simp only [World.size_alloc]; omega) _).trans (own_grown ((hown.alloc _).alloc _) hgrow2 (Nat.le_refl _) (by simp only [World.size_alloc]; omega)))
  refine ⟨?_, hB2⟩
  have hspb : WB.heap[WA.heap.size]? = some (.cells ([(2, 1)].flatMap spc).toArray 44) := by
    refine (hgrow2.block _ (by simp only [World.size_alloc]; omega) (fun e => ?_)).trans ((Below.heap_alloc _ _ _ (by simp only [World.size_alloc]; omega)).trans (heap_alloc_at WA _))
    have := (hown.lt _ e.symm).2
    omega
  have hr1 : RdS WB (.slice (some ⟨WA.heap.size, 0, none⟩) 1 1) [(2, 1)] := rdS_at [(2, 1)] hspb (by decide) (by decide) 1 rfl
  refine IsL.of_owns (by omega) (cells := ys ++ [.slice none 0 0, .slice (some ⟨WA.heap.size, 0, none⟩) 1 1]) (by simpa using hown2) (by simp; omega) (fun _ _ => rfl) fun i hi => ?_
  rw [Nat.mul_one]
  have hi2 : i < a.length + 2 := by simpa using hi
  by_cases h1 : i < a.length
  · obtain ⟨u, hu, hr⟩ := hys i h1
    refine ⟨u, ?_, by rw [List.getElem_append_left h1]; exact hr.keep hB2⟩
    have hu2 : (ys ++ [Value.slice none 0 0, .slice (some ⟨WA.heap.size, 0, none⟩) 1 1])[i]? = some u := by rw [List.getElem?_append_left (by omega)]; exact hu
    obtain ⟨h2, h3⟩ := List.getElem?_eq_some_iff.1 hu2
    rw [List.drop_eq_getElem_cons h2, h3]; rfl
  · rcases (by omega : i = a.length ∨ i = a.length + 1) with rfl | rfl
    · refine ⟨.slice none 0 0, ?_, by simp [List.getElem_append_right]; exact RdS.nil⟩
      rw [← hyl, List.drop_left]; rfl
    · refine ⟨.slice (some ⟨WA.heap.size, 0, none⟩) 1 1, ?_, by simp [List.getElem_append_right]; exact hr1⟩
      rw [← hyl, List.drop_append, List.drop_eq_nil_of_le (by omega)]; simp
theorem sm_more {n : Nat} {a : Ar} (h : Sm (n + 1) a) : Sm (n + 1) (a ++ [[], [(2, 1)]]) := fun l hl => by
  rcases List.mem_append.1 hl with h1 | h1
  · exact h l h1
  · simp at h1; rcases h1 with rfl | rfl <;> simp
theorem alloc2_at (W : World) (o1 o2 : Obj) : ((W.alloc o1).alloc o2).heap[W.heap.size + 1]? = some o2 := by
  have := heap_alloc_at (W.alloc o1) o2
  rw [World.size_alloc] at this; exact this
theorem rdA_wf {w : World} {v : Value} {a : Ar} (h : RdA w v a) : ∀ l ∈ a, WfS l := fun l hl => by
  obtain ⟨i, hi, rfl⟩ := List.getElem_of_mem hl
  obtain ⟨A, cap, rfl, -⟩ := id h
  obtain ⟨b, o, u, -, -, hu⟩ := h.get i hi
  exact hu.wf
end Go.Proofs.YtfapeemdlphjbaaDoor
