import Derived.Test.YtpchodnknkdlgaaInE
namespace Go.Proofs.Ytpchodnknkdlgaa
open Go.RowKit
attribute [local go_sem] Oper.semAt_some

/-- v is a row of ints that belongs to color c alone. -/
def OwnI (c : Nat) (χ : Col) (w : World) (v : Value) (xs : List Int) : Prop :=
  w.ownsRow 0 3 1 v xs.length (xs.map (Value.int .i64)) ∧ ∀ b, v.ownBlock = some b → χ b = c

/-- v is a row, of color c, of rows of ints, the i-th of color d + i. -/
def OwnII (c d : Nat) (χ : Col) (w : World) (v : Value) (xs : List (List Int)) : Prop :=
  ∃ vs, w.ownsRow 0 24 1 v xs.length vs ∧ (∀ b, v.ownBlock = some b → χ b = c) ∧ ∀ i (hi : i < xs.length), ∃ s, vs[i]? = some s ∧ OwnI (d + i) χ w s xs[i]

theorem OwnI.keep {c : Nat} {χ χ' : Col} {w w' : World} {v : Value} {xs : List Int} (h : OwnI c χ w v xs) (hs : Same (· = c) χ χ' w w') : OwnI c χ' w' v xs :=
  ⟨owns_same h.1 fun b e => (hs b (h.1.lt b e).2 (h.2 b e)).2, fun b e => ((hs b (h.1.lt b e).2 (h.2 b e)).1).trans (h.2 b e)⟩

theorem OwnII.keep {c d : Nat} {χ χ' : Col} {w w' : World} {v : Value} {xs : List (List Int)} (h : OwnII c d χ w v xs) (hs : Same (fun x => x = c ∨ d ≤ x) χ χ' w w') : OwnII c d χ' w' v xs := by
  obtain ⟨vs, h1, h2, h3⟩ := h
  refine ⟨vs, owns_same h1 fun b e => (hs b (h1.lt b e).2 (.inl (h2 b e))).2, fun b e => ((hs b (h1.lt b e).2 (.inl (h2 b e))).1).trans (h2 b e), fun i hi => ?_⟩
  obtain ⟨s, e, ho⟩ := h3 i hi
  exact ⟨s, e, ho.keep (hs.mono fun x hx => .inr (by omega))⟩

theorem OwnII.std {c d B : Nat} {χ : Col} {w w' : World} {v : Value} {xs : List (List Int)} (h : OwnII c d χ w v xs) (hs : Std B w w') : OwnII c d χ w' v xs := by
  obtain ⟨vs, h1, h2, h3⟩ := h
  refine ⟨vs, hs.owns h1, h2, fun i hi => ?_⟩
  obtain ⟨s, e, ho⟩ := h3 i hi
  exact ⟨s, e, hs.owns ho.1, ho.2⟩

theorem OwnII.isII {c d : Nat} {χ : Col} {w : World} {v : Value} {xs : List (List Int)} (h : OwnII c d χ w v xs) : ∃ A cap, v = .slice A xs.length cap := by
  obtain ⟨vs, h1, h2, h3⟩ := h
  exact owns_form h1

/-- What holds between two rounds of all's loop. -/
def AllInv (w : World) (_pb : Nat) (m : Int) (cO cI : Nat) (χ : Col) (pre : List (List Int)) (W : World) : Prop :=
  ∃ (χ' : Col) (v : Value) (vs : List Value), Below w.heap.size w W ∧ w.heap.size + 5 ≤ W.heap.size ∧ (∀ b, b < w.heap.size → χ' b = χ b) ∧ W.cell? ⟨w.heap.size, 0, none⟩ = some (.int .i64 m) ∧
    Var W (w.heap.size + 1) (.slice none 0 0) ∧ Var W (w.heap.size + 1 + 1 + 1) v ∧ W.ownsRow (w.heap.size + 2) 24 1 v pre.length vs ∧
    (∀ b, v.ownBlock = some b → χ' b = cO ∧ b ≠ w.heap.size + 3) ∧
    ∀ i (hi : i < pre.length), ∃ s, vs[i]? = some s ∧ W.ownsRow (w.heap.size + 5) 3 1 s pre[i].length (pre[i].map (Value.int .i64)) ∧ ∀ b, s.ownBlock = some b → χ' b = cI + i

theorem AllInv.std {w : World} {pb : Nat} {m : Int} {cO cI : Nat} {χ : Col} {pre : List (List Int)} {W W' : World} {B : Nat} (h : AllInv w pb m cO cI χ pre W) (hs : Std B W W') (hB : w.heap.size ≤ B) : AllInv w pb m cO cI χ pre W' := by
  obtain ⟨χ', v, vs, h1, h2, h3, h4, h5, h6, h7, h8, h9⟩ := h
  refine ⟨χ', v, vs, hs.below h1 hB (Nat.le_refl _), by have := hs.size; omega, h3, hs.cell h4, h5.std hs, h6.std hs, hs.owns h7, h8, fun i hi => ?_⟩
  obtain ⟨s, e, ho, hb⟩ := h9 i hi
  exact ⟨s, e, hs.owns ho, hb⟩

theorem allInv_start (w : World) (pb : Nat) (m : Int) (cO cI : Nat) (χ : Col) :
    AllInv w pb m cO cI χ [] (((((w.alloc (.cells #[.int .i64 m] 3)).alloc (.cells #[.slice none 0 0] 22)).alloc (.cells #[] 24)).alloc (.cells #[.slice (some ⟨w.heap.size + 1 + 1, 0, none⟩) 0 0] 22)).alloc (.cells #[.pointer (some ⟨pb, 3, none⟩)] 65)) := by
  have hb := ((((((Below.refl w.heap.size w).alloc (Nat.le_refl _) (.cells #[.int .i64 m] 3)).alloc (by simp only [World.size_alloc]; omega) (.cells #[.slice none 0 0] 22)).alloc (by simp only [World.size_alloc]; omega) (.cells #[] 24)).alloc (by simp only [World.size_alloc]; omega) (.cells #[.slice (some ⟨w.heap.size + 1 + 1, 0, none⟩) 0 0] 22)).alloc (by simp only [World.size_alloc]; omega) (.cells #[.pointer (some ⟨pb, 3, none⟩)] 65))
  have v0 := Var.new w (.int .i64 m) 3
  have v1 := Var.new (w.alloc (.cells #[.int .i64 m] 3)) (.slice none 0 0) 22
  have v3 := Var.new (((w.alloc (.cells #[.int .i64 m] 3)).alloc (.cells #[.slice none 0 0] 22)).alloc (.cells #[] 24)) (.slice (some ⟨w.heap.size + 1 + 1, 0, none⟩) 0 0) 22
  have o2 := World.ownsRow_made (base := w.heap.size + 2) (e := 24) (size := 1) ((w.alloc (.cells #[.int .i64 m] 3)).alloc (.cells #[.slice none 0 0] 22)) #[] 0 (by simp only [World.size_alloc]; omega) (Nat.zero_le _) rfl
  simp only [World.size_alloc] at v1 v3 o2
  refine ⟨fun b => if b < w.heap.size then χ b else cO, .slice (some ⟨w.heap.size + 1 + 1, 0, none⟩) 0 0, [], hb, by simp, fun b hb => if_pos hb, ((((v0.alloc _).alloc _).alloc _).alloc _).1, ((v1.alloc _).alloc _).alloc _, v3.alloc _, (o2.alloc _).alloc _, ?_, fun i hi => by simp at hi⟩
  intro b e
  cases e
  exact ⟨if_neg (by simp; omega), by simp⟩

/-- The same within a round: a set x has come, of the value s; what lay when it was asked for lies below block n1. -/
def AllMid (w : World) (_pb : Nat) (m : Int) (cO cI : Nat) (χ : Col) (pre : List (List Int)) (x : List Int) (s v : Value) (W : World) : Prop :=
  ∃ (χ' : Col) (vs : List Value) (n1 : Nat), W.ownsRow n1 3 1 s x.length (x.map (Value.int .i64)) ∧ w.heap.size + 5 ≤ n1 ∧ n1 ≤ W.heap.size ∧
    Below w.heap.size w W ∧ (∀ b, b < w.heap.size → χ' b = χ b) ∧ W.cell? ⟨w.heap.size, 0, none⟩ = some (.int .i64 m) ∧
    Var W (w.heap.size + 1) (.slice none 0 0) ∧ Var W (w.heap.size + 1 + 1 + 1) v ∧ W.ownsRow (w.heap.size + 2) 24 1 v pre.length vs ∧
    (∀ b, v.ownBlock = some b → χ' b = cO ∧ b ≠ w.heap.size + 3) ∧
    (∀ i (hi : i < pre.length), ∃ s, vs[i]? = some s ∧ W.ownsRow (w.heap.size + 5) 3 1 s pre[i].length (pre[i].map (Value.int .i64)) ∧ (∀ b, s.ownBlock = some b → b < n1 ∧ χ' b = cI + i)) ∧
    (∀ b, v.ownBlock = some b → b < n1)

theorem AllMid.std {w : World} {pb : Nat} {m : Int} {cO cI : Nat} {χ : Col} {pre : List (List Int)} {x : List Int} {s v : Value} {W W' : World} {B : Nat} (h : AllMid w pb m cO cI χ pre x s v W) (hs : Std B W W') (hB : w.heap.size ≤ B) : AllMid w pb m cO cI χ pre x s v W' := by
  obtain ⟨χ', vs, n1, h1, h2, h2', h3, h4, h5, h6, h7, h8, h9, h10, h11⟩ := h
  refine ⟨χ', vs, n1, hs.owns h1, h2, Nat.le_trans h2' hs.size, hs.below h3 hB (Nat.le_refl _), h4, hs.cell h5, h6.std hs, h7.std hs, hs.owns h8, h9, fun i hi => ?_, h11⟩
  obtain ⟨s, e, ho, hb⟩ := h10 i hi
  exact ⟨s, e, hs.owns ho, hb⟩

theorem AllInv.mid {w : World} {pb : Nat} {m : Int} {cO cI : Nat} {χ : Col} {pre : List (List Int)} {x : List Int} {s : Value} {U W : World} (h : AllInv w pb m cO cI χ pre U) (hb : Below U.heap.size U W)
    (hs : W.ownsRow U.heap.size 3 1 s x.length (x.map (Value.int .i64))) : ∃ v, AllMid w pb m cO cI χ pre x s v W := by
  have hst : Std w.heap.size U W := .of_below hb
  obtain ⟨χ', v, vs, h1, h2, h3, h4, h5, h6, h7, h8, h9⟩ := h
  refine ⟨v, χ', vs, U.heap.size, hs, h2, hb.size, h1.trans (hb.mono (by omega)), h3, hst.cell h4, h5.std hst, h6.std hst, hst.owns h7, h8, fun i hi => ?_, fun b e => (h7.lt b e).2⟩
  obtain ⟨s, e, ho, hbb⟩ := h9 i hi
  exact ⟨s, e, hst.owns ho, fun b eb => ⟨(ho.lt b eb).2, hbb b eb⟩⟩

theorem allInv_push {w W w1 : World} {pb g cap gcap : Nat} {A : Option Addr} {m : Int} {cO cI : Nat} {χ : Col} {pre : List (List Int)} {x : List Int} {v : Value} {vs : List Value}
    (h : AllMid w pb m cO cI χ pre x (.slice A x.length cap) v W) (hcc : cO < cI) (ho0 : W.ownsRow (w.heap.size + 2) 24 1 v pre.length vs)
    (ho1 : w1.ownsRow (w.heap.size + 2) 24 1 (.slice (some ⟨g, 0, none⟩) (pre.length + 1) gcap) (pre.length + 1) (vs ++ [.slice A x.length cap]))
    (hg : (W.alloc (.cells #[.slice A x.length cap] 24)).grownBy w1 v.ownBlock) (hat : some g = v.ownBlock ∨ some g = some (W.heap.size + 1)) :
    AllInv w pb m cO cI χ (pre ++ [x]) (w1.setCell ⟨w.heap.size + 1 + 1 + 1, 0, none⟩ (.slice (some ⟨g, 0, none⟩) (pre.length + 1) gcap)) ∧
    Below w.heap.size W (w1.setCell ⟨w.heap.size + 1 + 1 + 1, 0, none⟩ (.slice (some ⟨g, 0, none⟩) (pre.length + 1) gcap)) ∧
    ∀ B, KeepRec B W (w1.setCell ⟨w.heap.size + 1 + 1 + 1, 0, none⟩ (.slice (some ⟨g, 0, none⟩) (pre.length + 1) gcap)) := by
  obtain ⟨χ', vs', n1, hx, hn1, hn2, hb, hχ, hm, hr, hv, ho, hc, hi, hvn⟩ := h
  have hvs := ho.cells_eq ho0
  rw [hvs] at hi
  clear ho hvs
  have ho := ho0
  have hW5 := hv.lt
  have hxs : ∀ b, (Value.slice A x.length cap).ownBlock = some b → n1 ≤ b ∧ b < W.heap.size := fun b e => hx.lt b e
  have hg3 : g ≠ w.heap.size + 3 := by
    rcases hat with h | h
    · exact (hc g h.symm).2
    · cases h; omega
  have hsz : W.heap.size + 1 ≤ w1.heap.size := by have := hg.size; simpa using this
  have hold : ∀ b, b < W.heap.size → b ≠ w.heap.size + 3 → some b ≠ v.ownBlock → (w1.setCell ⟨w.heap.size + 1 + 1 + 1, 0, none⟩ (.slice (some ⟨g, 0, none⟩) (pre.length + 1) gcap)).heap[b]? = W.heap[b]? := fun b hb hp hr =>
    (Below.heap_setCell _ _ _ _ (by simpa using hp)).trans ((hg.block b (by simp; omega) hr).trans (Below.heap_alloc _ _ _ hb))
  have hlow : ∀ b, v.ownBlock = some b → w.heap.size + 2 ≤ b := fun b e => (ho.lt b e).1
  have hbW : Below w.heap.size W (w1.setCell ⟨w.heap.size + 1 + 1 + 1, 0, none⟩ (.slice (some ⟨g, 0, none⟩) (pre.length + 1) gcap)) :=
    ⟨hg.os, hg.tape, hg.output, by simp [World.setCell]; omega, fun b hb => hold b (by omega) (by omega) (fun e => by have := hlow b e.symm; omega)⟩
  have hlt0 : w.heap.size < W.heap.size := by omega
  have hrec : ∀ B, KeepRec B W (w1.setCell ⟨w.heap.size + 1 + 1 + 1, 0, none⟩ (.slice (some ⟨g, 0, none⟩) (pre.length + 1) gcap)) := fun B =>
    (((KeepRec.refl B W).alloc (.cells #[.slice A x.length cap] 24)).trans (.of_others (KeepsOthers.of_grownBy hg fun j o e ho2 => by
      obtain ⟨_, (⟨rfl, _⟩ | ⟨g', _, _, rfl, _, hh, _⟩)⟩ := ho.alloc (.cells #[.slice A x.length cap] 24)
      · cases e
      · cases e
        rw [hh] at ho2
        cases ho2; rfl))).setCell _ _
  refine ⟨⟨fun b => if n1 ≤ b ∧ b < W.heap.size then cI + pre.length else if b < n1 then χ' b else cO, .slice (some ⟨g, 0, none⟩) (pre.length + 1) gcap, vs ++ [.slice A x.length cap], hb.trans hbW, by simp [World.setCell]; omega, ?_, ?_, ?_, ?_, ?_, ?_, ?_⟩, hbW, hrec⟩
  · intro b hb'
    show (if _ then _ else _) = _
    rw [if_neg (by omega), if_pos (by omega)]; exact hχ b hb'
  · exact (World.cell?_of_block (hold w.heap.size hlt0 (by omega) (fun e => by have := hlow _ e.symm; omega))).trans hm
  · exact hr.block (hold _ (by omega) (by omega) (fun e => by have := hlow _ e.symm; omega))
  · refine Var.set (v := v) ?_ _
    refine hv.block ?_
    refine (hg.block _ (by simp; omega) (fun e => (hc _ e.symm).2 rfl)).trans (Below.heap_alloc _ _ _ (by omega))
  · rw [List.length_append]
    exact owns_same ho1 fun b e => Below.heap_setCell _ _ _ _ (by cases e; simpa using hg3)
  · intro b e
    cases e
    refine ⟨?_, hg3⟩
    show (if n1 ≤ g ∧ g < W.heap.size then cI + pre.length else if g < n1 then χ' g else cO) = cO
    rcases hat with h | h
    · have h1 := hvn g h.symm
      rw [if_neg (by omega), if_pos h1]; exact (hc g h.symm).1
    · have h := Option.some.inj h
      rw [if_neg (by omega), if_neg (by omega)]
  · intro i hil
    by_cases hi' : i < pre.length
    · obtain ⟨s, e, hs, hcs⟩ := hi i hi'
      refine ⟨s, by rw [List.getElem?_append_left (by have := ho.1; omega)]; exact e, ?_, fun b e => ?_⟩
      · rw [List.getElem_append_left hi']
        exact owns_same hs fun b e => hold b (hs.lt b e).2 (by have := (hs.lt b e).1; omega) (fun e2 => by have := (hc b e2.symm).1; have := (hcs b e).2; omega)
      · have h1 := (hcs b e).1
        show (if _ then _ else _) = _
        rw [if_neg (by omega), if_pos h1]; exact (hcs b e).2
    · have hie : i = pre.length := by simp at hil; omega
      subst hie
      refine ⟨.slice A x.length cap, ?_, ?_, fun b e => ?_⟩
      · have := ho.1
        rw [List.getElem?_append_right (by omega), this]; simp
      · rw [List.getElem_append_right (by omega)]
        simp only [Nat.sub_self, List.getElem_cons_zero]
        refine owns_same (hx.mono_base hn1) fun b e => hold b (hxs b e).2 (by have := (hxs b e).1; omega) (fun e2 => by have := hvn b e2.symm; have := (hxs b e).1; omega)
      · show (if _ then _ else _) = _
        rw [if_pos (hxs b e)]
theorem AllMid.grown {w : World} {pb : Nat} {m : Int} {cO cI : Nat} {χ : Col} {pre : List (List Int)} {x : List Int} {s v : Value} {W w1 : World} {o : Obj} (h : AllMid w pb m cO cI χ pre x s v W) (hg : (W.alloc o).grownBy w1 v.ownBlock) :
    w1.cell? ⟨w.heap.size, 0, none⟩ = some (.int .i64 m) ∧ Var w1 (w.heap.size + 1) (.slice none 0 0) ∧ Var w1 (w.heap.size + 1 + 1 + 1) v := by
  obtain ⟨χ', vs, n1, h1, h2, h2', h3, h4, h5, h6, h7, h8, h9, h10, h11⟩ := h
  have hl := h7.lt
  have key : ∀ b, b < W.heap.size → b < w.heap.size + 2 ∨ b = w.heap.size + 3 → w1.heap[b]? = W.heap[b]? := fun b hb hor =>
    (hg.block b (by simp; omega) (fun e => by have := (h8.lt b e.symm).1; have := (h9 b e.symm).2; omega)).trans (Below.heap_alloc _ _ _ hb)
  exact ⟨(World.cell?_of_block (key w.heap.size (by omega) (by omega))).trans h5, h6.block (key _ (by omega) (by omega)), h7.block (key _ (by omega) (by omega))⟩

/-- The result's variable is written. -/
theorem AllInv.fin {w : World} {pb : Nat} {m : Int} {cO cI : Nat} {χ : Col} {pre : List (List Int)} {W : World} (h : AllInv w pb m cO cI χ pre W) :
    ∃ χ' A cap, W.cell? ⟨w.heap.size + 1 + 1 + 1, 0, none⟩ = some (.slice A pre.length cap) ∧ W.cell? ⟨w.heap.size + 1, 0, none⟩ = some (.slice none 0 0) ∧ W.frozen? ⟨w.heap.size + 1, 0, none⟩ = false ∧
      Hid ((∀ b, b < w.heap.size → χ' b = χ b) ∧ (W.setCell ⟨w.heap.size + 1, 0, none⟩ (.slice A pre.length cap)).cell? ⟨w.heap.size + 1, 0, none⟩ = some (.slice A pre.length cap) ∧
        OwnII cO cI χ' (W.setCell ⟨w.heap.size + 1, 0, none⟩ (.slice A pre.length cap)) (.slice A pre.length cap) pre ∧ Below w.heap.size w (W.setCell ⟨w.heap.size + 1, 0, none⟩ (.slice A pre.length cap))) := by
  obtain ⟨χ', v, vs, h1, h2, h3, h4, h5, h6, h7, h8, h9⟩ := h
  obtain ⟨A, cap, rfl⟩ := owns_form h7
  refine ⟨χ', A, cap, h6.1, h5.1, h5.2, h3, (h5.set _).1, ⟨vs, owns_same (h7.mono_base (Nat.zero_le _)) fun b e => Below.heap_setCell _ _ _ _ ?_, fun b e => (h8 b e).1, fun i hi => ?_⟩, h1.setCell (by simp) _⟩
  · have := (h7.lt b e).1; simp; omega
  · obtain ⟨s, e, ho, hb⟩ := h9 i hi
    exact ⟨s, e, owns_same (ho.mono_base (Nat.zero_le _)) fun b eb => Below.heap_setCell _ _ _ _ (by have := (ho.lt b eb).1; simp; omega), hb⟩

set_option maxHeartbeats 4000000 in
theorem told0_calls (w : World) (pb : Nat) :
    Calls Try.prog 27 #[.pointer (some ⟨pb, 0, none⟩)] w fun e w' =>
      e = .returned (.func (.func 45) #[] #[.pointer (some ⟨w.heap.size, 0, none⟩)]) ∧ w' = w.alloc (.cells #[.pointer (some ⟨pb, 3, none⟩)] 65) := by
  go_enter Try.func27, Try.ntmps27
  go_wp2_with fail
  refine (all_calls _ _).mono ?_
  rintro e w' ⟨rfl, rfl⟩
  go_wp2
  go_ret
  exact ⟨rfl, rfl⟩
theorem told_calls (w : World) (pb : Nat) (m : Int) {c cO cI : Nat} {χ : Col} {sets : List (List Int)} (hR : RecAt c χ w pb sets) (hn : sets.length ≤ 1000) (hs : ∀ x ∈ sets, x.length ≤ 1000000) (hc : cO < cI) :
    Calls Try.prog 13 #[.pointer (some ⟨pb, 0, none⟩), .int .i64 m] w fun e w' => ∃ v χ', e = .returned v ∧ (∀ b, b < w.heap.size → χ' b = χ b) ∧
      OwnII cO cI χ' w' v (sets.take m.toNat) ∧ Below w.heap.size w w' := by
  obtain ⟨i0, hi, hz0, hz1, hz2⟩ := info_parts infoII
  refine callsIn_wide (n := 99) |>.1 ?_
  refine callsIn_of_wp_marks Try.func13 rfl trivial ?_ rfl
  simp only [Try.ntmps13, List.size_toArray, List.length_cons, List.length_nil, Nat.reduceAdd, Nat.reduceSub, Array.replicate_succ, Array.replicate_zero, List.push_toArray, List.append_toArray, List.nil_append, List.cons_append]
  by_cases hm : m ≤ 0
  · have hm0 : m.toNat = 0 := by omega
    rw [hm0]
    gi_wp2
    have o2 := World.ownsRow_made (base := 0) (e := 24) (size := 1) ((w.alloc (.cells #[.int .i64 m] 3)).alloc (.cells #[.slice (some ⟨w.heap.size + 1 + 1, 0, none⟩) 0 0] 22)) #[] 0 (Nat.zero_le _) (Nat.zero_le _) rfl
    have hb := (((((Below.refl w.heap.size w).alloc (Nat.le_refl _) (.cells #[.int .i64 m] 3)).alloc (by simp only [World.size_alloc]; omega) (.cells #[.slice (some ⟨w.heap.size + 1 + 1, 0, none⟩) 0 0] 22)).alloc (by simp only [World.size_alloc]; omega) (.cells #[] 24)).alloc (by simp only [World.size_alloc]; omega) (.cells #[.slice (some ⟨w.heap.size + 1 + 1, 0, none⟩) 0 0] 22))
    simp only [World.size_alloc] at o2
    refine ⟨.slice (some ⟨w.heap.size + 1 + 1, 0, none⟩) 0 0, by simp [results, Try.results13, go_sem], _, fun b => if b < w.heap.size then χ b else cO, rfl, fun b hb => if_pos hb, ⟨[], o2.alloc _, ?_, fun i hi => by simp at hi⟩, hb⟩
    intro b e
    cases e
    exact if_neg (by simp; omega)
  · gi_wp2_with (refine ⟨trivial, ?_⟩; gi_at_call 27; refine (callsIn_wide.2 (told0_calls _ _)).mono ?_; rintro e w' ⟨rfl, rfl⟩)
    have H0 := allInv_start w pb m cO cI χ
    obtain ⟨W0, hW0⟩ : ∃ W0, (((((w.alloc (.cells #[.int .i64 m] 3)).alloc (.cells #[.slice none 0 0] 22)).alloc (.cells #[] 24)).alloc (.cells #[.slice (some ⟨w.heap.size + 1 + 1, 0, none⟩) 0 0] 22)).alloc (.cells #[.pointer (some ⟨pb, 3, none⟩)] 65)) = W0 := ⟨_, rfl⟩
    rw [hW0] at H0 ⊢
    have hsz : W0.heap.size = w.heap.size + 5 := by rw [← hW0]; simp
    have hbx : Var W0 (w.heap.size + 1 + 1 + 1 + 1) (.pointer (some ⟨pb, 3, none⟩)) := by
      rw [← hW0]
      have := Var.new ((((w.alloc (.cells #[.int .i64 m] 3)).alloc (.cells #[.slice none 0 0] 22)).alloc (.cells #[] 24)).alloc (.cells #[.slice (some ⟨w.heap.size + 1 + 1, 0, none⟩) 0 0] 22)) (.pointer (some ⟨pb, 3, none⟩)) 65
      simpa only [World.size_alloc] using this
    have hb0 : Below w.heap.size w W0 := by obtain ⟨_, _, _, h, _⟩ := H0; exact h
    clear hW0
    refine wp_range (gf := 45) (lb := #[.pointer (some ⟨w.heap.size + 1 + 1 + 1 + 1, 0, none⟩)]) (Y := YSet) (xs := sets) (N0 := w.heap.size) rfl (enters_of Try.func45 (by kernel_rfl) rfl)
      (fun W hb => all1_iter w W pb _ hR (by omega) hs (hb0.trans (hb.mono hb0.size)) (hbx.below hb).1) hb0.size
      (fun pre W => AllInv w pb m cO cI χ pre W ∧ (pre.length : Int) < m)
      (fun c pre W => c = .ret ∧ ∃ v χ', (pre.length : Int) = m ∧ (∀ b, b < w.heap.size → χ' b = χ b) ∧ W.cell? ⟨w.heap.size + 1, 0, none⟩ = some v ∧ OwnII cO cI χ' W v pre ∧ Below w.heap.size w W)
      (fun pre x a₁ W => (pre.length : Int) < m ∧ ∃ A cap v, AllMid w pb m cO cI χ pre x (.slice A x.length cap) v W ∧ a₁ = { tmps := #[.pointer (some ⟨pb, 0, none⟩), .int .i64 m, undef, .pointer (some ⟨w.heap.size, 0, none⟩), .pointer (some ⟨w.heap.size + 1, 0, none⟩), .pointer (some ⟨w.heap.size + 1 + 1 + 1, 0, none⟩), .slice A x.length cap, .slice (some ⟨w.heap.size + 1 + 1, 0, none⟩) 0 0, .int .i64 m, .bool false, undef, .pointer (some ⟨pb, 0, none⟩), .func (.func 45) #[] #[.pointer (some ⟨w.heap.size + 1 + 1 + 1 + 1, 0, none⟩)], .slice A x.length cap, undef, undef, undef, undef, undef, undef, undef, undef, undef, undef], defers := [] })
      ?hI ?hIx ?hZ ⟨H0, by simp; omega⟩ ?assign ?body ?done ?stop
    case hI => exact fun pre W W' h hs => ⟨h.1.std hs (by omega), h.2⟩
    case hIx =>
      rintro c pre W W' ⟨rfl, v, χ', h1, h2, h3, h4, h5⟩ hs
      refine ⟨rfl, v, χ', h1, h2, hs.cell h3, ?_, hs.below h5 (by omega) (Nat.le_refl _)⟩
      obtain ⟨vs, k1, k2, k3⟩ := h4
      refine ⟨vs, hs.owns k1, k2, fun i hi => ?_⟩
      obtain ⟨s, e, ho⟩ := k3 i hi
      exact ⟨s, e, hs.owns ho.1, ho.2⟩
    case hZ =>
      rintro pre x a₁ W W' ⟨h1, A, cap, v, h2, h3⟩ hs
      exact ⟨h1, A, cap, v, h2.std hs (by omega), h3⟩
    case assign =>
      rintro l pre x rest vs U W hx ⟨hi, hlt⟩ hUW ⟨A, cap, rfl, hown⟩
      refine ⟨rfl, ?_⟩
      obtain ⟨v, hmid⟩ := hi.mid (x := x) hUW hown
      gi_wp2
      exact ⟨KeepRec.refl _ _, Below.refl _ _, hlt, A, cap, v, hmid, rfl⟩
    case body =>
      rintro l pre x rest a₁ W hx ⟨hlt, A, cap, v, hmid, rfl⟩
      have hmid' := Lib.hid hmid
      obtain ⟨χ', vs, n1, k1, k2, k2', k3, k4, k5, k6, k7, k8, k9, k10, k11⟩ := hmid
      have hx : pre.length + 1 ≤ 1000 := by have := congrArg List.length hx; simp at this; omega
      have K9 := Lib.hid k9; have K10 := Lib.hid k10; have K11 := Lib.hid k11; have K4 := Lib.hid k4
      clear k9 k10 k11 k4
      have k5 := k5; have k6c := k6.1; have k6f := k6.2; have k7c := k7.1; have k7f := k7.2
      by_cases hm1 : (pre.length : Int) + 1 < m
      · gi_wp2_with (gi_at_builtin; refine wpListIn_append_own_at _ rfl _ _ 22 rfl (w.heap.size + 2) 24 i0 _ 1 24 Try.underlying22 hi hz0 hz1 hz2 rfl (by decide) _ _ _ rfl (k8.alloc _) ⟨W.heap.size, 0, none⟩ 1 1 [.slice A x.length cap] rfl rfl (cell_one_new _ _ _) (by simp [Value.oneCell']) (by unfold maxLen; omega) (by omega) (by simp; omega) ?_; intro v' w1 hown' hgrow _ hat; obtain ⟨g', cap', rfl⟩ := ownsRow_succ hown'; obtain ⟨z1, ⟨z2, z3⟩, ⟨z4, z5⟩⟩ := hmid'.out.grown hgrow)
        obtain ⟨hI, hB, hK⟩ := allInv_push hmid'.out hc k8 hown' hgrow (hat.elim (fun h => .inl h) (fun h => .inr (h.trans (by simp))))
        exact ⟨hK _, hB, hI, by simp; omega⟩
      · have hm2 : m ≤ (pre.length : Int) + 1 := by omega
        gi_wp2_with (gi_at_builtin; refine wpListIn_append_own_at _ rfl _ _ 22 rfl (w.heap.size + 2) 24 i0 _ 1 24 Try.underlying22 hi hz0 hz1 hz2 rfl (by decide) _ _ _ rfl (k8.alloc _) ⟨W.heap.size, 0, none⟩ 1 1 [.slice A x.length cap] rfl rfl (cell_one_new _ _ _) (by simp [Value.oneCell']) (by unfold maxLen; omega) (by omega) (by simp; omega) ?_; intro v' w1 hown' hgrow _ hat; obtain ⟨g', cap', rfl⟩ := ownsRow_succ hown'; obtain ⟨z1, ⟨z2, z3⟩, ⟨z4, z5⟩⟩ := hmid'.out.grown hgrow)
        obtain ⟨hI, hB, hK⟩ := allInv_push hmid'.out hc k8 hown' hgrow (hat.elim (fun h => .inl h) (fun h => .inr (h.trans (by simp))))
        obtain ⟨χ2, A2, cap2, q1, q2, q3, q4⟩ := hI.fin
        have e1 := (Var.set ⟨z4, z5⟩ (.slice (some ⟨g', 0, none⟩) (pre.length + 1) cap')).1.symm.trans q1
        simp only [List.length_append, List.length_cons, List.length_nil, Nat.zero_add] at e1 q4
        rw [← Option.some.inj e1] at q4
        exact ⟨(hK _).setCell _ _, rfl, by simp; omega, _, _, q4.out⟩
    case done =>
      rintro D W hD ⟨h1, h2⟩ hK
      obtain ⟨χ', A, cap, q1, q2, q3, q4⟩ := h1.fin
      gi_wp2
      have hK2 : (W.setCell ⟨w.heap.size + 1, 0, none⟩ (.slice A sets.length cap)).heap[D]? = some (.deferred (some [])) := (KeepsOthers.setCell _ _ _).same D _ hK rfl
      refine ⟨by simp, .inl ⟨_, _, rfl, run_takeDeferred hK2, ?_⟩⟩
      obtain ⟨e1, e2, e3, e4⟩ := q4.out
      have s2 : Std (w.heap.size + 2) (W.setCell ⟨w.heap.size + 1, 0, none⟩ (.slice A sets.length cap)) ((W.setCell ⟨w.heap.size + 1, 0, none⟩ (.slice A sets.length cap)).putObj D (.deferred none)) := .putObj _ hK2 rfl (by omega)
      have c2 := s2.cell e2
      refine ⟨.slice A sets.length cap, by simp [results, Try.results13, go_sem, c2], _, χ', rfl, e1, ?_, s2.below e4 (by omega) (Nat.le_refl _)⟩
      rw [List.take_of_length_le (by omega)]
      exact e3.std s2
    case stop =>
      rintro D c pre W hD hp ⟨rfl, v, χ', h1, h2, h3, h4, h5⟩ hK
      gi_wp2
      refine ⟨by simp, .inl ⟨_, _, rfl, run_takeDeferred hK, ?_⟩⟩
      have s2 : Std (w.heap.size + 2) W (W.putObj D (.deferred none)) := .putObj _ hK rfl (by omega)
      have c2 := s2.cell h3
      refine ⟨v, by simp [results, Try.results13, go_sem, c2], _, χ', rfl, h2, ?_, s2.below h5 (by omega) (Nat.le_refl _)⟩
      rw [show sets.take m.toNat = pre by rw [show m.toNat = pre.length by omega]; exact (List.prefix_iff_eq_take.1 hp).symm]
      exact h4.std s2
end Go.Proofs.Ytpchodnknkdlgaa
