import Derived.Test.YtfapeemdlphjbaaDoorDtL
namespace Go.Proofs.YtfapeemdlphjbaaDoor
open Go.RowKit
attribute [local go_sem] World.cell?_alloc_some frozen_alloc_some

theorem rGr_one : rGr.One := by
  rintro χ w cs x ⟨v, rfl, A, cap, rfl, _⟩ u hu
  simp at hu
  rcases hu with rfl | rfl | rfl | rfl | rfl | rfl | rfl <;> rfl
theorem rdG1 {w : World} {b : Nat} {g : Gr} {u : Value} {t : TypeId} {fr : Nat × Nat} (h : w.heap[b]? = some (.cells #[.int .i64 g.par, .int .i64 g.hol, .int .i64 g.ten, .int .i64 g.dep, .bool g.wr, u, .int .i64 g.exp] t fr)) (hu : RdA w u g.ar) : RdG w (.slice (some ⟨b, 0, none⟩) 1 1) [g] := by
  refine ⟨_, _, rfl, Nat.le_refl _, by unfold maxLen; omega, ⟨by simp, fun h => by cases h⟩, fun i hi => ?_⟩
  match i, hi with
  | 0, _ => exact ⟨b, 0, _, rfl, rfl, rfl, ⟨u, rfl, hu⟩, fun j hj => by
      have hj7 : j < 7 := hj
      match j, hj7 with
      | 0, _ | 1, _ | 2, _ | 3, _ | 4, _ | 5, _ | 6, _ => simp [World.cell?, h]⟩
/-- append(own, list...) at an operation. -/
theorem wp_app_list {W0 U : World} {o : Oper} {a : Act} {K : Act → World → Prop} {Q : Exit → Act → World → Prop} (s x : Operand)
    (ho : o.op = .call { callee := .builtin .append, args := #[s, x], argTypes := #[22, 22] }) (base : Nat) (v : Value) (hs : a.eval s = v) (hown : U.ownsRow base 31 7 v 0 []) (hbase : base ≤ U.heap.size)
    (A : Option Addr) (n cap : Nat) (l : List Gr) (hx : a.eval x = .slice A n cap) (hr : RdG W0 (.slice A n cap) l) (hl : l.length ≤ 1000) (hB : Below W0.heap.size W0 U)
    (h : ∀ v' U' cells, U'.ownsRow base 31 7 v' l.length cells → (cells.length = l.length * 7 ∧ ∀ i (hi : i < l.length), rGr (fun _ => 0) W0 ((cells.drop (i * 7)).take 7) l[i]) → U.grownBy U' v.ownBlock → (v'.ownBlock = v.ownBlock ∨ v'.ownBlock = some U.heap.size) → K (a.put o.dst v') U') :
    Oper.wp Tryd.prog o a U K Q := by
  obtain ⟨i0, hi, hz0, hz1, hz2⟩ := info_parts infoGr
  cases A with
  | none =>
    obtain ⟨A2, c2, e2, k1, k2, k3, -⟩ := id hr
    cases e2
    have hc0 := k3.2 rfl
    have hl1 : l = [] := List.length_eq_zero_iff.1 (by omega)
    subst hl1 hc0
    have hrun := run_append_owned_none (P := Tryd.prog) (w := U) base 22 o.type 31 i0 7 Tryd.underlying22 hi v 0 [] hown
    unfold Oper.wp
    simp only [List.length_nil] at hx
    simp [execOp, ho, resolve, invoke, builtin, hs, hx, hrun, Result.andThen]
    exact h v U [] hown ⟨rfl, fun i hi => by simp at hi⟩ ⟨rfl, rfl, rfl, Nat.le_refl _, fun _ _ _ => rfl⟩ (.inl rfl)
  | some ad =>
    obtain ⟨b, off, sp⟩ := ad
    by_cases hl0 : l.length = 0
    · obtain ⟨A2, c2, e2, k1, k2, k3, -⟩ := id hr
      cases e2
      obtain ⟨v', w', hrun, h2, h3, -, h5⟩ := run_append_own_at (P := Tryd.prog) U base 22 o.type 31 i0 _ 7 72 Tryd.underlying22 hi hz0 hz1 hz2 rfl (by decide) v 0 [] hown ⟨b, off, sp⟩ l.length cap [] (by simp [hl0]) (fun j u hj => by simp at hj) (fun u hu => by simp at hu) (by unfold maxLen; omega) (by omega) hbase
      unfold Oper.wp execOp
      simp only [ho, resolve, invoke, builtin, Sem.run_bind, Sem.run_pure, Result.andThen_ok, List.map_toArray, List.map_cons, List.map_nil, hs, hx, hrun]
      exact h v' w' _ (by rw [Nat.zero_add] at h2; exact h2) ⟨by simp [hl0], fun i hi => by omega⟩ h3 h5
    · obtain ⟨b2, o2, v2, e2, -⟩ := hr.get 0 (by omega)
      cases e2
      obtain ⟨cells, q1, q2, q3, q4, q5⟩ := IsL.cells (by omega) rGr_one hr
      subst q2
      obtain ⟨v', w', hrun, h2, h3, -, h5⟩ := run_append_own_at (P := Tryd.prog) U base 22 o.type 31 i0 _ 7 72 Tryd.underlying22 hi hz0 hz1 hz2 rfl (by decide) v 0 [] hown ⟨b, off, none⟩ l.length cap cells q1 (fun j u hj => keep_c hB (q3 j u hj)) q4 (by unfold maxLen; omega) (by omega) hbase
      unfold Oper.wp execOp
      simp only [ho, resolve, invoke, builtin, Sem.run_bind, Sem.run_pure, Result.andThen_ok, List.map_toArray, List.map_cons, List.map_nil, hs, hx, hrun]
      exact h v' w' _ (by rw [Nat.zero_add] at h2; exact h2) ⟨by simpa using q1, fun i hi => by simpa using q5 i hi⟩ h3 h5

/-- A row of one's own in the world U, out of W, and new blocks L of the cells cs. -/
structure Ms (W U : World) (v : Value) (n : Nat) (xs : List Value) (cs : Array Value) (L : List Nat) : Prop where
  bel : Below W.heap.size W U
  own : U.ownsRow W.heap.size 31 7 v n xs
  el : ∀ b ∈ L, W.heap.size ≤ b ∧ U.heap[b]? = some (.cells cs 31) ∧ v.ownBlock ≠ some b
theorem Ms.start (W : World) (cs : Array Value) : Ms W W.drew (.slice none 0 0) 0 [] cs [] := ⟨below_drewN W _ 1, World.ownsRow_nil _ _ _ _, fun b hb => by simp at hb⟩
theorem Ms.make {W U : World} {cs : Array Value} {L : List Nat} (h : Ms W U (.slice none 0 0) 0 [] cs L) (b : Nat) (hb : U.heap.size = b) : Ms W (U.alloc (.cells #[] 31)) (.slice (some ⟨b, 0, none⟩) 0 0) 0 [] cs L := by
  subst hb
  refine ⟨h.bel.alloc h.bel.size _, World.ownsRow_made U #[] 0 h.bel.size (Nat.zero_le _) rfl, fun c hc => ?_⟩
  obtain ⟨h1, h2, -⟩ := h.el c hc
  have hlt := (Array.getElem?_eq_some_iff.1 h2).1
  exact ⟨h1, (Below.heap_alloc _ _ _ hlt).trans h2, fun e => by have : U.heap.size = c := Option.some.inj e; omega⟩
theorem Ms.elem {W U : World} {v : Value} {n : Nat} {xs : List Value} {cs : Array Value} {L : List Nat} (h : Ms W U v n xs cs L) (b : Nat) (hb : U.heap.size = b) : Ms W (U.alloc (.cells cs 31)) v n xs cs (b :: L) := by
  subst hb
  refine ⟨h.bel.alloc h.bel.size _, h.own.alloc _, fun c hc => ?_⟩
  rcases List.mem_cons.1 hc with rfl | hc
  · exact ⟨h.bel.size, heap_alloc_at _ _, fun e => by have := (h.own.lt _ e).2; omega⟩
  · obtain ⟨h1, h2, h3⟩ := h.el c hc
    exact ⟨h1, (Below.heap_alloc _ _ _ (Array.getElem?_eq_some_iff.1 h2).1).trans h2, h3⟩
theorem Ms.push {W U U' : World} {v v' : Value} {n m : Nat} {xs ys : List Value} {cs : Array Value} {L : List Nat} (h : Ms W U v n xs cs L) (ho : U'.ownsRow W.heap.size 31 7 v' m ys) (hg : U.grownBy U' v.ownBlock)
    (ha : v'.ownBlock = v.ownBlock ∨ v'.ownBlock = some U.heap.size) : Ms W U' v' m ys cs L := by
  have hs := h.bel.size
  have hgs := hg.size
  refine ⟨⟨hg.os.trans h.bel.os, hg.tape.trans h.bel.tape, hg.output.trans h.bel.output, by omega, fun b hb => (hg.block b (by omega) (fun e => by have := (h.own.lt b e.symm).1; omega)).trans (h.bel.block b hb)⟩, ho, fun c hc => ?_⟩
  obtain ⟨h1, h2, h3⟩ := h.el c hc
  have hlt := (Array.getElem?_eq_some_iff.1 h2).1
  refine ⟨h1, (hg.block c hlt fun e => h3 e.symm).trans h2, fun e => ?_⟩
  rcases ha with k | k
  · exact h3 (by rw [← k, e])
  · rw [k] at e; have : U.heap.size = c := Option.some.inj e; omega
theorem Ms.read {W U : World} {v : Value} {l : List Gr} {g : Gr} {u : Value} {cells : List Value} {cs : Array Value} {L : List Nat} (h : Ms W U v (l.length + 1) (cells ++ gc (g, u)) cs L) (hc : cells.length = l.length * 7 ∧ ∀ i (hi : i < l.length), rGr (fun _ => 0) W ((cells.drop (i * 7)).take 7) l[i])
    (hu : RdA W u g.ar) (hl : l.length ≤ 1000) : RdG U v (l ++ [g]) := by
  have ho : U.ownsRow W.heap.size 31 7 v (l ++ [g]).length (cells ++ gc (g, u)) := by rw [List.length_append]; exact h.own
  refine IsL.of_owns (by omega) ho (by simp; omega) (fun _ _ => rfl) fun i hi => ?_
  by_cases hil : i < l.length
  · rw [List.drop_append_of_le_length (by rw [hc.1]; omega), List.take_append_of_le_length (by rw [List.length_drop, hc.1]; omega), List.getElem_append_left hil]
    exact rGr_keep (hc.2 i hil) h.bel
  · have hie : i = l.length := by simp at hi; omega
    subst hie
    rw [← hc.1, List.drop_left, List.getElem_append_right (Nat.le_refl _)]
    simp only [Nat.sub_self, List.getElem_cons_zero]
    exact ⟨u, rfl, hu.keep h.bel⟩
theorem cutM {G : Prop} (R : Value → World → Prop) (QQ : Value → Value → Value → Value → World → Prop) (pf : ∀ vm z1 z2 z3 V, R vm V → QQ vm z1 z2 z3 V) (main : (∀ vm z1 z2 z3 V, R vm V → QQ vm z1 z2 z3 V) → G) : G := main pf
theorem clL_tot (l : List Gr) (t : Int) (h : l.length ≤ 21) : (clL l t).length ≤ 441 := by
  rw [clL_rows, List.length_flatMap]
  have h1 : ∀ i, (clRow l t i).length ≤ 21 := fun i => by
    unfold clRow
    rw [List.length_map]
    exact Nat.le_trans (List.length_filter_le _ _) (by rw [List.length_range]; omega)
  have h2 : ∀ (m : List Nat), (m.map fun i => (clRow l t i).length).sum ≤ 21 * m.length := fun m => by
    induction m with
    | nil => simp
    | cons a m ih => simp only [List.map_cons, List.sum_cons, List.length_cons]; have := h1 a; omega
  have := h2 (List.range l.length)
  rw [List.length_range] at this
  omega
theorem few_more {l : List Gr} {g : Gr} (h : FewG l) (hg : FewG [g]) : FewG (l ++ [g]) := fun x hx => by
  rcases List.mem_append.1 hx with k | k
  · exact h x k
  · exact hg x k
set_option maxRecDepth 100000 in
set_option maxHeartbeats 16000000 in
theorem dmore_law (w : World) (v : Value) (l : List Gr) (g : Gr) (u : Value) (ten : Int) (hr : RdG w v l) (hg : RdA w u g.ar) (_ : (Lit.int .i64 ten).wf = true) (hT : Tab w) :
    Calls Tryd.prog 4 #[v, .agg #[.int .i64 g.par, .int .i64 g.hol, .int .i64 g.ten, .int .i64 g.dep, .bool g.wr, u, .int .i64 g.exp], .int .i64 ten] w fun e w' => e = .returned (.bool true) ∧ Below w.heap.size w w' := by
  obtain ⟨A, cap, rfl, a1', a2', a3, -⟩ := id hr
  obtain ⟨A2, c2, rfl, -⟩ := id hg
  unfold maxLen at a2'
  have ha63 := a3.1
  clear a3
  have hb0 := a1 (W := w) (.cells #[.int .i64 g.par, .int .i64 g.hol, .int .i64 g.ten, .int .i64 g.dep, .bool g.wr, .slice A2 g.ar.length c2, .int .i64 g.exp] 31)
  obtain ⟨⟨c0, c1, c2', c3, c4, c5, c6⟩, -⟩ := cells7 (heap_alloc_at w (.cells #[.int .i64 g.par, .int .i64 g.hol, .int .i64 g.ten, .int .i64 g.dep, .bool g.wr, .slice A2 g.ar.length c2, .int .i64 g.exp] 31))
  have HS0 : Hid ((w.alloc (.cells #[.int .i64 g.par, .int .i64 g.hol, .int .i64 g.ten, .int .i64 g.dep, .bool g.wr, .slice A2 g.ar.length c2, .int .i64 g.exp] 31)).cell? ⟨w.heap.size, 0, none⟩ = some (.int .i64 g.par) ∧ (w.alloc (.cells #[.int .i64 g.par, .int .i64 g.hol, .int .i64 g.ten, .int .i64 g.dep, .bool g.wr, .slice A2 g.ar.length c2, .int .i64 g.exp] 31)).cell? ⟨w.heap.size, 1, none⟩ = some (.int .i64 g.hol) ∧ (w.alloc (.cells #[.int .i64 g.par, .int .i64 g.hol, .int .i64 g.ten, .int .i64 g.dep, .bool g.wr, .slice A2 g.ar.length c2, .int .i64 g.exp] 31)).cell? ⟨w.heap.size, 2, none⟩ = some (.int .i64 g.ten) ∧ (w.alloc (.cells #[.int .i64 g.par, .int .i64 g.hol, .int .i64 g.ten, .int .i64 g.dep, .bool g.wr, .slice A2 g.ar.length c2, .int .i64 g.exp] 31)).cell? ⟨w.heap.size, 3, none⟩ = some (.int .i64 g.dep) ∧ (w.alloc (.cells #[.int .i64 g.par, .int .i64 g.hol, .int .i64 g.ten, .int .i64 g.dep, .bool g.wr, .slice A2 g.ar.length c2, .int .i64 g.exp] 31)).cell? ⟨w.heap.size, 4, none⟩ = some (.bool g.wr) ∧ (w.alloc (.cells #[.int .i64 g.par, .int .i64 g.hol, .int .i64 g.ten, .int .i64 g.dep, .bool g.wr, .slice A2 g.ar.length c2, .int .i64 g.exp] 31)).cell? ⟨w.heap.size, 5, none⟩ = some (.slice A2 g.ar.length c2) ∧ (w.alloc (.cells #[.int .i64 g.par, .int .i64 g.hol, .int .i64 g.ten, .int .i64 g.dep, .bool g.wr, .slice A2 g.ar.length c2, .int .i64 g.exp] 31)).cell? ⟨w.heap.size, 6, none⟩ = some (.int .i64 g.exp)) := ⟨c0, c1, c2', c3, c4, c5, c6⟩
  have HR := Lib.hid (hr.keep hb0)
  have HG := Lib.hid (hg.keep hb0)
  have HA := Lib.hid (alive_calls _ (hT.keep hb0))
  have hbw := hb0
  clear hr hg hT c0 c1 c2' c3 c4 c5 c6 hb0
  go_enter Tryd.func4, Tryd.ntmps4
  go_wp2_with fail
  refine HA.out.mono ?_
  rintro e W1 ⟨rfl, hb⟩
  replace HR := Lib.hid (HR.out.keep hb)
  replace HG := Lib.hid (HG.out.keep hb)
  replace HS0 : Hid (W1.cell? ⟨w.heap.size, 0, none⟩ = some (.int .i64 g.par) ∧ W1.cell? ⟨w.heap.size, 1, none⟩ = some (.int .i64 g.hol) ∧ W1.cell? ⟨w.heap.size, 2, none⟩ = some (.int .i64 g.ten) ∧ W1.cell? ⟨w.heap.size, 3, none⟩ = some (.int .i64 g.dep) ∧ W1.cell? ⟨w.heap.size, 4, none⟩ = some (.bool g.wr) ∧ W1.cell? ⟨w.heap.size, 5, none⟩ = some (.slice A2 g.ar.length c2) ∧ W1.cell? ⟨w.heap.size, 6, none⟩ = some (.int .i64 g.exp)) := ⟨keep_c hb HS0.out.1, keep_c hb HS0.out.2.1, keep_c hb HS0.out.2.2.1, keep_c hb HS0.out.2.2.2.1, keep_c hb HS0.out.2.2.2.2.1, keep_c hb HS0.out.2.2.2.2.2.1, keep_c hb HS0.out.2.2.2.2.2.2⟩
  replace hbw := hbw.trans (hb.mono hbw.size)
  clear hb HA
  go_wp2_with fail
  refine (fewg_calls _ _ l HR.out).mono ?_
  obtain ⟨q, hq⟩ : ∃ q, q = fewGB l := ⟨_, rfl⟩
  rw [← hq]
  have HQ := Lib.hid hq
  clear hq
  rintro e W2 ⟨rfl, hb⟩
  replace HR := Lib.hid (HR.out.keep hb)
  replace HG := Lib.hid (HG.out.keep hb)
  replace HS0 : Hid (W2.cell? ⟨w.heap.size, 0, none⟩ = some (.int .i64 g.par) ∧ W2.cell? ⟨w.heap.size, 1, none⟩ = some (.int .i64 g.hol) ∧ W2.cell? ⟨w.heap.size, 2, none⟩ = some (.int .i64 g.ten) ∧ W2.cell? ⟨w.heap.size, 3, none⟩ = some (.int .i64 g.dep) ∧ W2.cell? ⟨w.heap.size, 4, none⟩ = some (.bool g.wr) ∧ W2.cell? ⟨w.heap.size, 5, none⟩ = some (.slice A2 g.ar.length c2) ∧ W2.cell? ⟨w.heap.size, 6, none⟩ = some (.int .i64 g.exp)) := ⟨keep_c hb HS0.out.1, keep_c hb HS0.out.2.1, keep_c hb HS0.out.2.2.1, keep_c hb HS0.out.2.2.2.1, keep_c hb HS0.out.2.2.2.2.1, keep_c hb HS0.out.2.2.2.2.2.1, keep_c hb HS0.out.2.2.2.2.2.2⟩
  replace hbw := hbw.trans (hb.mono hbw.size)
  clear hb
  cases q with
  | false =>
    go_wp2
    go_ret
    exact ⟨rfl, hbw⟩
  | true =>
    obtain ⟨hf, hl20⟩ := fewGB_iff.1 HQ.out.symm
    have HF := Lib.hid hf
    clear HQ hf
    obtain ⟨c0, c1, c2', c3, c4, c5, c6⟩ := HS0.out
    have hb1 := a1 (W := W2) (.cells #[.int .i64 g.par, .int .i64 g.hol, .int .i64 g.ten, .int .i64 g.dep, .bool g.wr, .slice A2 g.ar.length c2, .int .i64 g.exp] 31)
    have HG1 := Lib.hid (rdG1 (heap_alloc_at W2 (.cells #[.int .i64 g.par, .int .i64 g.hol, .int .i64 g.ten, .int .i64 g.dep, .bool g.wr, .slice A2 g.ar.length c2, .int .i64 g.exp] 31)) (HG.out.keep hb1))
    go_wp2_with fail
    refine (fewg_calls _ _ [g] HG1.out).mono ?_
    obtain ⟨q, hq⟩ : ∃ q, q = fewGB [g] := ⟨_, rfl⟩
    rw [← hq]
    have HQ := Lib.hid hq
    rintro e W ⟨rfl, hb0⟩
    have hb := hb1.trans (hb0.mono hb1.size)
    replace HR := Lib.hid (HR.out.keep hb)
    replace HG := Lib.hid (HG.out.keep hb)
    replace HS0 : Hid (W.cell? ⟨w.heap.size, 0, none⟩ = some (.int .i64 g.par) ∧ W.cell? ⟨w.heap.size, 1, none⟩ = some (.int .i64 g.hol) ∧ W.cell? ⟨w.heap.size, 2, none⟩ = some (.int .i64 g.ten) ∧ W.cell? ⟨w.heap.size, 3, none⟩ = some (.int .i64 g.dep) ∧ W.cell? ⟨w.heap.size, 4, none⟩ = some (.bool g.wr) ∧ W.cell? ⟨w.heap.size, 5, none⟩ = some (.slice A2 g.ar.length c2) ∧ W.cell? ⟨w.heap.size, 6, none⟩ = some (.int .i64 g.exp)) := ⟨keep_c hb HS0.out.1, keep_c hb HS0.out.2.1, keep_c hb HS0.out.2.2.1, keep_c hb HS0.out.2.2.2.1, keep_c hb HS0.out.2.2.2.2.1, keep_c hb HS0.out.2.2.2.2.2.1, keep_c hb HS0.out.2.2.2.2.2.2⟩
    replace hbw := hbw.trans (hb.mono hbw.size)
    clear hq hb hb0 hb1 HG1 c0 c1 c2' c3 c4 c5 c6
    cases q with
    | false =>
      go_wp2
      go_ret
      exact ⟨rfl, hbw⟩
    | true =>
      obtain ⟨hfg, -⟩ := fewGB_iff.1 HQ.out.symm
      have HFM := Lib.hid (few_more HF.out hfg)
      clear HQ hfg
      have HRW := Lib.hid HR.out
      have HGW := Lib.hid HG.out
      obtain ⟨i0, hi0, hz0, hz1, hz2⟩ := info_parts infoGr
      go_wp2
      refine cutM (fun vm V => (∃ A c, vm = .slice A (l.length + 1) c) ∧ RdG V vm (l ++ [g]) ∧ Below W.heap.size W V) ?QQ ?pf ?main
      case main =>
        intro key
        have HK : Hid (∀ U, Below W.heap.size W U → U.cell? ⟨w.heap.size, 0, none⟩ = some (.int .i64 g.par) ∧ U.cell? ⟨w.heap.size, 1, none⟩ = some (.int .i64 g.hol) ∧ U.cell? ⟨w.heap.size, 2, none⟩ = some (.int .i64 g.ten) ∧ U.cell? ⟨w.heap.size, 3, none⟩ = some (.int .i64 g.dep) ∧ U.cell? ⟨w.heap.size, 4, none⟩ = some (.bool g.wr) ∧ U.cell? ⟨w.heap.size, 5, none⟩ = some (.slice A2 g.ar.length c2) ∧ U.cell? ⟨w.heap.size, 6, none⟩ = some (.int .i64 g.exp)) := fun U hb => ⟨keep_c hb HS0.out.1, keep_c hb HS0.out.2.1, keep_c hb HS0.out.2.2.1, keep_c hb HS0.out.2.2.2.1, keep_c hb HS0.out.2.2.2.2.1, keep_c hb HS0.out.2.2.2.2.2.1, keep_c hb HS0.out.2.2.2.2.2.2⟩
        have hS := HK.out W.drew (below_drewN W _ 1)
        have M0 := Lib.hid (Ms.start W #[.int .i64 g.par, .int .i64 g.hol, .int .i64 g.ten, .int .i64 g.dep, .bool g.wr, .slice A2 g.ar.length c2, .int .i64 g.exp])
        refine wp_region_any (by kernel_rfl) (any_of_B (S := fun U => U.cell? ⟨w.heap.size, 0, none⟩ = some (.int .i64 g.par) ∧ U.cell? ⟨w.heap.size, 1, none⟩ = some (.int .i64 g.hol) ∧ U.cell? ⟨w.heap.size, 2, none⟩ = some (.int .i64 g.ten) ∧ U.cell? ⟨w.heap.size, 3, none⟩ = some (.int .i64 g.dep) ∧ U.cell? ⟨w.heap.size, 4, none⟩ = some (.bool g.wr) ∧ U.cell? ⟨w.heap.size, 5, none⟩ = some (.slice A2 g.ar.length c2) ∧ U.cell? ⟨w.heap.size, 6, none⟩ = some (.int .i64 g.exp)) (B := lastB 7) _ _ _ _ ?_)
        show anyB _ _ _ _ _ _ 7 #[false, false, false, false, false, false, false] _ W.drew
        refine takeB (i := 1) (v := ?va) (some 24) rfl rfl (by kernel_rfl) (by kernel_rfl) (by kernel_rfl) (by kernel_rfl) (by kernel_rfl) (fun _ _ _ h => h) (Or.inl ⟨by rfl, ?ha⟩) (by assumption) ?ra
        case ha => intro w hSw; (try dsimp only at hSw); go_simp; first | done | with_reducible rfl
        try simp only [Act.put, List.setIfInBounds_toArray, List.set_cons_zero, List.set_cons_succ]
        refine takeB (i := 3) (v := ?vb) (some 26) rfl rfl (by kernel_rfl) (by kernel_rfl) (by kernel_rfl) (by kernel_rfl) (by kernel_rfl) (fun _ _ _ h => h) (Or.inl ⟨by rfl, ?hb⟩) (by assumption) ?rb
        case hb => intro w hSw; (try dsimp only at hSw); go_simp; first | done | with_reducible rfl
        try simp only [Act.put, List.setIfInBounds_toArray, List.set_cons_zero, List.set_cons_succ]
        refine readyB2 (i := 0) (k := 4) (by kernel_rfl) ?_ ?_
        · skip
          refine opB rfl (by rfl) (fun K hK => ?_)
          go_simp
          have M0 := Lib.hid (M0.out.make (W.heap.size) (by simp))
          have hSn := HK.out _ M0.out.bel
          refine hK _ _ ⟨fun _ => hSn, ?_⟩
          clear hK K hS
          have hS := hSn
          clear hSn
          try simp only [List.setIfInBounds_toArray, List.set_cons_zero]
          refine readyB2 (i := 2) (k := 4) (by kernel_rfl) ?_ ?_
          · skip
            refine opB rfl (by rfl) (fun K hK => ?_)
            refine wp_app_list _ _ (by rfl) W.heap.size _ (by rfl) M0.out.own M0.out.bel.size A l.length cap l (by rfl) HRW.out (by omega) M0.out.bel ?_
            intro v2 U2 cells hown2 hcells hgrow2 hat2
            obtain ⟨A3, c3, rfl⟩ := owns_form hown2
            have HC := Lib.hid hcells
            have M2 := Lib.hid (M0.out.push hown2 hgrow2 hat2)
            clear hown2 hgrow2 hat2 hcells
            have hSn := HK.out _ M2.out.bel
            refine hK _ _ ⟨fun _ => hSn, ?_⟩
            clear hK K hS
            have hS := hSn
            clear hSn
            try simp only [List.setIfInBounds_toArray, List.set_cons_zero, List.set_cons_succ]
            refine readyB1 (i := 4) (by kernel_rfl) ?_
            refine opB rfl (by rfl) (fun K hK => ?_)
            go_simp
            have M4 := Lib.hid (M2.out.elem (U2.heap.size) (by simp))
            have hSn := HK.out _ M4.out.bel
            refine hK _ _ ⟨fun _ => hSn, ?_⟩
            clear hK K hS
            have hS := hSn
            clear hSn
            try simp only [List.setIfInBounds_toArray, List.set_cons_zero, List.set_cons_succ]
            refine readyB1 (i := 5) (by kernel_rfl) ?_
            refine opB rfl (by rfl) (fun K hK => ?_)
            refine wp_append_lies _ _ _ _ (by rfl) W.heap.size 31 i0 _ 7 72 Tryd.underlying22 hi0 hz0 hz1 hz2 rfl (by omega) (.slice A3 l.length c3) l.length cells (by rfl) M4.out.own ⟨U2.heap.size, 0, none⟩ 1 1 (gc (g, .slice A2 g.ar.length c2)) (by rfl) (by rfl) (World.news_of_block (M4.out.el (U2.heap.size) (by simp)).2.1) (by simp [gc, Value.oneCell']) (by omega) (by unfold maxLen; omega) (by omega) M4.out.bel.size _ rfl ?_
            intro gm cm U5 hown5 hgrow5 hat5 hlt5
            have M5 := Lib.hid (M4.out.push hown5 hgrow5 (hat5.elim (fun h => .inl h.symm) (fun h => .inr (by rw [h]; rfl))))
            clear hown5 hgrow5 hat5 hlt5
            have hSn := HK.out _ M5.out.bel
            refine hK _ _ ⟨fun _ => hSn, ?_⟩
            clear hK K hS
            have hS := hSn
            clear hSn
            try simp only [List.setIfInBounds_toArray, List.set_cons_zero, List.set_cons_succ]
            refine readyB1 (i := 6) (by kernel_rfl) ?_
            refine opB rfl (by rfl) (fun K hK => ?_)
            go_simp
            refine hK _ _ ⟨fun _ => hS, ?_⟩
            clear hK K
            try simp only [List.setIfInBounds_toArray, List.set_cons_zero, List.set_cons_succ]
            refine doneB (by kernel_rfl) ?_ _
            have hfin : (∃ A c, Value.slice (some ⟨gm, 0, none⟩) (l.length + 1) cm = .slice A (l.length + 1) c) ∧ RdG U5 (.slice (some ⟨gm, 0, none⟩) (l.length + 1) cm) (l ++ [g]) ∧ Below W.heap.size W U5 := ⟨⟨_, _, rfl⟩, M5.out.read HC.out HGW.out (by omega), M5.out.bel⟩
            obtain ⟨zm, em⟩ : ∃ z, z = (Value.slice (some ⟨gm, 0, none⟩) (l.length + 1) cm) := ⟨_, rfl⟩
            rw [← em] at hfin ⊢
            obtain ⟨z25, e25⟩ : ∃ z, z = (Value.slice A3 l.length c3) := ⟨_, rfl⟩
            rw [← e25]
            obtain ⟨z27, e27⟩ : ∃ z, z = (Value.slice (some ⟨U2.heap.size, 0, none⟩) 1 1) := ⟨_, rfl⟩
            rw [← e27]
            obtain ⟨z23, e23⟩ : ∃ z, z = (Value.slice (some ⟨W.heap.size, 0, none⟩) 0 0) := ⟨_, rfl⟩
            rw [← e23]
            exact key zm z23 z25 z27 U5 hfin
          · skip
            refine opB rfl (by rfl) (fun K hK => ?_)
            go_simp
            have M4 := Lib.hid (M0.out.elem (W.heap.size + 1) (by simp))
            have hSn := HK.out _ M4.out.bel
            refine hK _ _ ⟨fun _ => hSn, ?_⟩
            clear hK K hS
            have hS := hSn
            clear hSn
            try simp only [List.setIfInBounds_toArray, List.set_cons_zero, List.set_cons_succ]
            refine readyB1 (i := 2) (by kernel_rfl) ?_
            refine opB rfl (by rfl) (fun K hK => ?_)
            refine wp_app_list _ _ (by rfl) W.heap.size _ (by rfl) M4.out.own M4.out.bel.size A l.length cap l (by rfl) HRW.out (by omega) M4.out.bel ?_
            intro v2 U2 cells hown2 hcells hgrow2 hat2
            obtain ⟨A3, c3, rfl⟩ := owns_form hown2
            have HC := Lib.hid hcells
            have M2 := Lib.hid (M4.out.push hown2 hgrow2 hat2)
            clear hown2 hgrow2 hat2 hcells
            have hSn := HK.out _ M2.out.bel
            refine hK _ _ ⟨fun _ => hSn, ?_⟩
            clear hK K hS
            have hS := hSn
            clear hSn
            try simp only [List.setIfInBounds_toArray, List.set_cons_zero, List.set_cons_succ]
            refine readyB1 (i := 5) (by kernel_rfl) ?_
            refine opB rfl (by rfl) (fun K hK => ?_)
            refine wp_append_lies _ _ _ _ (by rfl) W.heap.size 31 i0 _ 7 72 Tryd.underlying22 hi0 hz0 hz1 hz2 rfl (by omega) (.slice A3 l.length c3) l.length cells (by rfl) M2.out.own ⟨W.heap.size + 1, 0, none⟩ 1 1 (gc (g, .slice A2 g.ar.length c2)) (by rfl) (by rfl) (World.news_of_block (M2.out.el (W.heap.size + 1) (by simp)).2.1) (by simp [gc, Value.oneCell']) (by omega) (by unfold maxLen; omega) (by omega) M2.out.bel.size _ rfl ?_
            intro gm cm U5 hown5 hgrow5 hat5 hlt5
            have M5 := Lib.hid (M2.out.push hown5 hgrow5 (hat5.elim (fun h => .inl h.symm) (fun h => .inr (by rw [h]; rfl))))
            clear hown5 hgrow5 hat5 hlt5
            have hSn := HK.out _ M5.out.bel
            refine hK _ _ ⟨fun _ => hSn, ?_⟩
            clear hK K hS
            have hS := hSn
            clear hSn
            try simp only [List.setIfInBounds_toArray, List.set_cons_zero, List.set_cons_succ]
            refine readyB1 (i := 6) (by kernel_rfl) ?_
            refine opB rfl (by rfl) (fun K hK => ?_)
            go_simp
            refine hK _ _ ⟨fun _ => hS, ?_⟩
            clear hK K
            try simp only [List.setIfInBounds_toArray, List.set_cons_zero, List.set_cons_succ]
            refine doneB (by kernel_rfl) ?_ _
            have hfin : (∃ A c, Value.slice (some ⟨gm, 0, none⟩) (l.length + 1) cm = .slice A (l.length + 1) c) ∧ RdG U5 (.slice (some ⟨gm, 0, none⟩) (l.length + 1) cm) (l ++ [g]) ∧ Below W.heap.size W U5 := ⟨⟨_, _, rfl⟩, M5.out.read HC.out HGW.out (by omega), M5.out.bel⟩
            obtain ⟨zm, em⟩ : ∃ z, z = (Value.slice (some ⟨gm, 0, none⟩) (l.length + 1) cm) := ⟨_, rfl⟩
            rw [← em] at hfin ⊢
            obtain ⟨z25, e25⟩ : ∃ z, z = (Value.slice A3 l.length c3) := ⟨_, rfl⟩
            rw [← e25]
            obtain ⟨z27, e27⟩ : ∃ z, z = (Value.slice (some ⟨W.heap.size + 1, 0, none⟩) 1 1) := ⟨_, rfl⟩
            rw [← e27]
            obtain ⟨z23, e23⟩ : ∃ z, z = (Value.slice (some ⟨W.heap.size, 0, none⟩) 0 0) := ⟨_, rfl⟩
            rw [← e23]
            exact key zm z23 z25 z27 U5 hfin
        · skip
          refine opB rfl (by rfl) (fun K hK => ?_)
          go_simp
          have M4 := Lib.hid (M0.out.elem (W.heap.size) (by simp))
          have hSn := HK.out _ M4.out.bel
          refine hK _ _ ⟨fun _ => hSn, ?_⟩
          clear hK K hS
          have hS := hSn
          clear hSn
          try simp only [List.setIfInBounds_toArray, List.set_cons_zero, List.set_cons_succ]
          refine readyB1 (i := 0) (by kernel_rfl) ?_
          refine opB rfl (by rfl) (fun K hK => ?_)
          go_simp
          have M0 := Lib.hid (M4.out.make (W.heap.size + 1) (by simp))
          have hSn := HK.out _ M0.out.bel
          refine hK _ _ ⟨fun _ => hSn, ?_⟩
          clear hK K hS
          have hS := hSn
          clear hSn
          try simp only [List.setIfInBounds_toArray, List.set_cons_zero]
          refine readyB1 (i := 2) (by kernel_rfl) ?_
          refine opB rfl (by rfl) (fun K hK => ?_)
          refine wp_app_list _ _ (by rfl) W.heap.size _ (by rfl) M0.out.own M0.out.bel.size A l.length cap l (by rfl) HRW.out (by omega) M0.out.bel ?_
          intro v2 U2 cells hown2 hcells hgrow2 hat2
          obtain ⟨A3, c3, rfl⟩ := owns_form hown2
          have HC := Lib.hid hcells
          have M2 := Lib.hid (M0.out.push hown2 hgrow2 hat2)
          clear hown2 hgrow2 hat2 hcells
          have hSn := HK.out _ M2.out.bel
          refine hK _ _ ⟨fun _ => hSn, ?_⟩
          clear hK K hS
          have hS := hSn
          clear hSn
          try simp only [List.setIfInBounds_toArray, List.set_cons_zero, List.set_cons_succ]
          refine readyB1 (i := 5) (by kernel_rfl) ?_
          refine opB rfl (by rfl) (fun K hK => ?_)
          refine wp_append_lies _ _ _ _ (by rfl) W.heap.size 31 i0 _ 7 72 Tryd.underlying22 hi0 hz0 hz1 hz2 rfl (by omega) (.slice A3 l.length c3) l.length cells (by rfl) M2.out.own ⟨W.heap.size, 0, none⟩ 1 1 (gc (g, .slice A2 g.ar.length c2)) (by rfl) (by rfl) (World.news_of_block (M2.out.el (W.heap.size) (by simp)).2.1) (by simp [gc, Value.oneCell']) (by omega) (by unfold maxLen; omega) (by omega) M2.out.bel.size _ rfl ?_
          intro gm cm U5 hown5 hgrow5 hat5 hlt5
          have M5 := Lib.hid (M2.out.push hown5 hgrow5 (hat5.elim (fun h => .inl h.symm) (fun h => .inr (by rw [h]; rfl))))
          clear hown5 hgrow5 hat5 hlt5
          have hSn := HK.out _ M5.out.bel
          refine hK _ _ ⟨fun _ => hSn, ?_⟩
          clear hK K hS
          have hS := hSn
          clear hSn
          try simp only [List.setIfInBounds_toArray, List.set_cons_zero, List.set_cons_succ]
          refine readyB1 (i := 6) (by kernel_rfl) ?_
          refine opB rfl (by rfl) (fun K hK => ?_)
          go_simp
          refine hK _ _ ⟨fun _ => hS, ?_⟩
          clear hK K
          try simp only [List.setIfInBounds_toArray, List.set_cons_zero, List.set_cons_succ]
          refine doneB (by kernel_rfl) ?_ _
          have hfin : (∃ A c, Value.slice (some ⟨gm, 0, none⟩) (l.length + 1) cm = .slice A (l.length + 1) c) ∧ RdG U5 (.slice (some ⟨gm, 0, none⟩) (l.length + 1) cm) (l ++ [g]) ∧ Below W.heap.size W U5 := ⟨⟨_, _, rfl⟩, M5.out.read HC.out HGW.out (by omega), M5.out.bel⟩
          obtain ⟨zm, em⟩ : ∃ z, z = (Value.slice (some ⟨gm, 0, none⟩) (l.length + 1) cm) := ⟨_, rfl⟩
          rw [← em] at hfin ⊢
          obtain ⟨z25, e25⟩ : ∃ z, z = (Value.slice A3 l.length c3) := ⟨_, rfl⟩
          rw [← e25]
          obtain ⟨z27, e27⟩ : ∃ z, z = (Value.slice (some ⟨W.heap.size, 0, none⟩) 1 1) := ⟨_, rfl⟩
          rw [← e27]
          obtain ⟨z23, e23⟩ : ∃ z, z = (Value.slice (some ⟨W.heap.size + 1, 0, none⟩) 0 0) := ⟨_, rfl⟩
          rw [← e23]
          exact key zm z23 z25 z27 U5 hfin
      case pf =>
        rintro vm z23 z25 z27 V ⟨⟨Am, cm, rfl⟩, hm, hb⟩
        replace HR := Lib.hid (HR.out.keep hb)
        have HM := Lib.hid hm
        have HT2 : Hid (V.cell? ⟨w.heap.size, 2, none⟩ = some (.int .i64 g.ten)) := keep_c hb HS0.out.2.2.1
        replace hbw := hbw.trans (hb.mono hbw.size)
        clear hm hb HRW HGW HG HS0
        have hm1 : (l ++ [g]).length = l.length + 1 := by simp
        have hle : (clL l ten).length ≤ (clL (l ++ [g]) ten).length := clL_more l g ten
        have hx1 := clL_tot l ten (by omega)
        have hx2 := clL_tot (l ++ [g]) ten (by omega)
        go_wp2_with fail
        refine (lclashes_calls _ _ l ten 10000 HR.out HF.out (by omega)).mono ?_
        rw [List.take_of_length_le (show (clL l ten).length ≤ (10000 : Int).toNat by show _ ≤ 10000; omega)]
        rintro e Y1 ⟨vx, vy, rfl, hx, hy, hb⟩
        obtain ⟨Ax, cx, hvx⟩ := hx.form
        obtain ⟨Ay, cy, hvy⟩ := hy.form
        rw [List.length_map] at hvx hvy
        obtain ⟨nx, hnx⟩ : ∃ n, n = (clL l ten).length := ⟨_, rfl⟩
        rw [← hnx] at hvx hvy hle
        subst hvx hvy
        replace HR := Lib.hid (HR.out.keep hb)
        replace HM := Lib.hid (HM.out.keep hb)
        replace HT2 : Hid (Y1.cell? ⟨w.heap.size, 2, none⟩ = some (.int .i64 g.ten)) := keep_c hb HT2.out
        replace hbw := hbw.trans (hb.mono hbw.size)
        have HNX := Lib.hid hnx
        clear hx hy hb hnx
        go_wp2_with fail
        refine (lclashes_calls _ _ (l ++ [g]) ten 10000 HM.out HFM.out (by omega)).mono ?_
        rw [List.take_of_length_le (show (clL (l ++ [g]) ten).length ≤ (10000 : Int).toNat by show _ ≤ 10000; omega)]
        rintro e Y2 ⟨vx, vy, rfl, hx, hy, hb⟩
        obtain ⟨Bx, dx, hvx⟩ := hx.form
        obtain ⟨By, dy, hvy⟩ := hy.form
        rw [List.length_map] at hvx hvy
        obtain ⟨ny, hny⟩ : ∃ n, n = (clL (l ++ [g]) ten).length := ⟨_, rfl⟩
        rw [← hny] at hvx hvy hle
        subst hvx hvy
        replace HR := Lib.hid (HR.out.keep hb)
        replace HM := Lib.hid (HM.out.keep hb)
        replace HT2 : Hid (Y2.cell? ⟨w.heap.size, 2, none⟩ = some (.int .i64 g.ten)) := keep_c hb HT2.out
        replace hbw := hbw.trans (hb.mono hbw.size)
        have HNY := Lib.hid hny
        clear hx hy hb hny hx1 hx2
        go_wp2_with fail
        refine (reads_calls _ _ l ten HR.out (by omega) HF.out).mono ?_
        rintro e X1 ⟨v1, r1, rfl, R1, hu1, hs1, hl1, hb⟩
        replace HR := Lib.hid (HR.out.keep hb)
        replace HM := Lib.hid (HM.out.keep hb)
        replace HT2 : Hid (X1.cell? ⟨w.heap.size, 2, none⟩ = some (.int .i64 g.ten)) := keep_c hb HT2.out
        replace hbw := hbw.trans (hb.mono hbw.size)
        have HU1 := Lib.hid (And.intro hu1 (And.intro hs1 hl1))
        have HR1 := Lib.hid R1
        obtain ⟨A1', c1', rfl, -⟩ := id R1
        clear R1 hu1 hs1 hl1 hb
        go_wp2_with fail
        refine (reads_calls _ _ (l ++ [g]) ten HM.out (by simp; omega) HFM.out).mono ?_
        rintro e X2 ⟨v2, r2, rfl, R2, hu2, hs2, hl2, hb⟩
        replace HR := Lib.hid (HR.out.keep hb)
        replace HM := Lib.hid (HM.out.keep hb)
        replace HT2 : Hid (X2.cell? ⟨w.heap.size, 2, none⟩ = some (.int .i64 g.ten)) := keep_c hb HT2.out
        replace hbw := hbw.trans (hb.mono hbw.size)
        have HU2 := Lib.hid (And.intro hu2 (And.intro hs2 hl2))
        have HR2 := Lib.hid R2
        obtain ⟨A2', c2', rfl, -⟩ := id R2
        replace HR1 := Lib.hid (HR1.out.keep hb)
        clear R2 hu2 hs2 hl2 hb
        go_wp2_with fail
        refine (within_b _ _ _ r1 r2 HR1.out HR2.out (by have := HU1.out.2.2; omega) (by have := HU2.out.2.2; omega) (HU1.out.2.1.mono (by omega)) (HU2.out.2.1.mono (by simp; omega))).mono ?_
        rw [HU1.out.1.sub HU2.out.1 (ofT_sub l g ten false)]
        rintro e X3 ⟨rfl, hb⟩
        replace HR := Lib.hid (HR.out.keep hb)
        replace HM := Lib.hid (HM.out.keep hb)
        replace HT2 : Hid (X3.cell? ⟨w.heap.size, 2, none⟩ = some (.int .i64 g.ten)) := keep_c hb HT2.out
        replace hbw := hbw.trans (hb.mono hbw.size)
        clear hb HR1 HR2 HU1 HU2
        go_wp2_with fail
        refine (writes_calls _ _ l ten HR.out (by omega) HF.out).mono ?_
        rintro e X4 ⟨v1, r1, rfl, R1, hu1, hs1, hl1, hb⟩
        replace HR := Lib.hid (HR.out.keep hb)
        replace HM := Lib.hid (HM.out.keep hb)
        replace HT2 : Hid (X4.cell? ⟨w.heap.size, 2, none⟩ = some (.int .i64 g.ten)) := keep_c hb HT2.out
        replace hbw := hbw.trans (hb.mono hbw.size)
        have HU1 := Lib.hid (And.intro hu1 (And.intro hs1 hl1))
        have HR1 := Lib.hid R1
        obtain ⟨A1', c1', rfl, -⟩ := id R1
        clear R1 hu1 hs1 hl1 hb
        go_wp2_with fail
        refine (writes_calls _ _ (l ++ [g]) ten HM.out (by simp; omega) HFM.out).mono ?_
        rintro e X5 ⟨v2, r2, rfl, R2, hu2, hs2, hl2, hb⟩
        replace HR := Lib.hid (HR.out.keep hb)
        replace HM := Lib.hid (HM.out.keep hb)
        replace HT2 : Hid (X5.cell? ⟨w.heap.size, 2, none⟩ = some (.int .i64 g.ten)) := keep_c hb HT2.out
        replace hbw := hbw.trans (hb.mono hbw.size)
        have HU2 := Lib.hid (And.intro hu2 (And.intro hs2 hl2))
        have HR2 := Lib.hid R2
        obtain ⟨A2', c2', rfl, -⟩ := id R2
        replace HR1 := Lib.hid (HR1.out.keep hb)
        clear R2 hu2 hs2 hl2 hb
        go_wp2_with fail
        refine (within_b _ _ _ r1 r2 HR1.out HR2.out (by have := HU1.out.2.2; omega) (by have := HU2.out.2.2; omega) (HU1.out.2.1.mono (by omega)) (HU2.out.2.1.mono (by simp; omega))).mono ?_
        rw [HU1.out.1.sub HU2.out.1 (ofT_sub l g ten true)]
        rintro e X6 ⟨rfl, hb⟩
        replace HR := Lib.hid (HR.out.keep hb)
        replace HM := Lib.hid (HM.out.keep hb)
        replace HT2 : Hid (X6.cell? ⟨w.heap.size, 2, none⟩ = some (.int .i64 g.ten)) := keep_c hb HT2.out
        replace hbw := hbw.trans (hb.mono hbw.size)
        clear hb HR1 HR2 HU1 HU2
        have ht2 := HT2.out
        by_cases hten : g.ten = ten
        · go_wp2
          go_ret
          exact ⟨rfl, hbw⟩
        · obtain rfl : ny = nx := by rw [HNX.out, HNY.out, clL_other l g ten hten]
          have HSR : Hid (∀ r u, IsUn (ofT l ten false) r → IsUn (ofT (l ++ [g]) ten false) u → (subB r u && subB u r) = true) := fun r u h1 h2 => by rw [ofT_other l g ten false hten] at h2; exact h1.same h2
          have HSW : Hid (∀ r u, IsUn (ofT l ten true) r → IsUn (ofT (l ++ [g]) ten true) u → (subB r u && subB u r) = true) := fun r u h1 h2 => by rw [ofT_other l g ten true hten] at h2; exact h1.same h2
          have htb : (g.ten == ten) = false := by simp [hten]
          clear hten
          go_wp2_with fail
          refine (reads_calls _ _ l ten HR.out (by omega) HF.out).mono ?_
          rintro e X7 ⟨v1, r1, rfl, R1, hu1, hs1, hl1, hb⟩
          replace HR := Lib.hid (HR.out.keep hb)
          replace HM := Lib.hid (HM.out.keep hb)
          replace HT2 : Hid (X7.cell? ⟨w.heap.size, 2, none⟩ = some (.int .i64 g.ten)) := keep_c hb HT2.out
          replace hbw := hbw.trans (hb.mono hbw.size)
          have HU1 := Lib.hid (And.intro hu1 (And.intro hs1 hl1))
          have HR1 := Lib.hid R1
          obtain ⟨A1', c1', rfl, -⟩ := id R1
          clear R1 hu1 hs1 hl1 hb
          go_wp2_with fail
          refine (reads_calls _ _ (l ++ [g]) ten HM.out (by simp; omega) HFM.out).mono ?_
          rintro e X8 ⟨v2, r2, rfl, R2, hu2, hs2, hl2, hb⟩
          replace HR := Lib.hid (HR.out.keep hb)
          replace HM := Lib.hid (HM.out.keep hb)
          replace HT2 : Hid (X8.cell? ⟨w.heap.size, 2, none⟩ = some (.int .i64 g.ten)) := keep_c hb HT2.out
          replace hbw := hbw.trans (hb.mono hbw.size)
          have HU2 := Lib.hid (And.intro hu2 (And.intro hs2 hl2))
          have HR2 := Lib.hid R2
          obtain ⟨A2', c2', rfl, -⟩ := id R2
          replace HR1 := Lib.hid (HR1.out.keep hb)
          clear R2 hu2 hs2 hl2 hb
          go_wp2_with fail
          refine (same_b _ _ _ r1 r2 HR1.out HR2.out (by have := HU1.out.2.2; omega) (by have := HU2.out.2.2; omega) (HU1.out.2.1.mono (by omega)) (HU2.out.2.1.mono (by simp; omega))).mono ?_
          rw [HSR.out _ _ HU1.out.1 HU2.out.1]
          rintro e X9 ⟨rfl, hb⟩
          replace HR := Lib.hid (HR.out.keep hb)
          replace HM := Lib.hid (HM.out.keep hb)
          replace HT2 : Hid (X9.cell? ⟨w.heap.size, 2, none⟩ = some (.int .i64 g.ten)) := keep_c hb HT2.out
          replace hbw := hbw.trans (hb.mono hbw.size)
          clear hb HR1 HR2 HU1 HU2
          go_wp2_with fail
          refine (writes_calls _ _ l ten HR.out (by omega) HF.out).mono ?_
          rintro e X10 ⟨v1, r1, rfl, R1, hu1, hs1, hl1, hb⟩
          replace HR := Lib.hid (HR.out.keep hb)
          replace HM := Lib.hid (HM.out.keep hb)
          replace HT2 : Hid (X10.cell? ⟨w.heap.size, 2, none⟩ = some (.int .i64 g.ten)) := keep_c hb HT2.out
          replace hbw := hbw.trans (hb.mono hbw.size)
          have HU1 := Lib.hid (And.intro hu1 (And.intro hs1 hl1))
          have HR1 := Lib.hid R1
          obtain ⟨A1', c1', rfl, -⟩ := id R1
          clear R1 hu1 hs1 hl1 hb
          go_wp2_with fail
          refine (writes_calls _ _ (l ++ [g]) ten HM.out (by simp; omega) HFM.out).mono ?_
          rintro e X11 ⟨v2, r2, rfl, R2, hu2, hs2, hl2, hb⟩
          replace HR := Lib.hid (HR.out.keep hb)
          replace HM := Lib.hid (HM.out.keep hb)
          replace HT2 : Hid (X11.cell? ⟨w.heap.size, 2, none⟩ = some (.int .i64 g.ten)) := keep_c hb HT2.out
          replace hbw := hbw.trans (hb.mono hbw.size)
          have HU2 := Lib.hid (And.intro hu2 (And.intro hs2 hl2))
          have HR2 := Lib.hid R2
          obtain ⟨A2', c2', rfl, -⟩ := id R2
          replace HR1 := Lib.hid (HR1.out.keep hb)
          clear R2 hu2 hs2 hl2 hb
          go_wp2_with fail
          refine (same_b _ _ _ r1 r2 HR1.out HR2.out (by have := HU1.out.2.2; omega) (by have := HU2.out.2.2; omega) (HU1.out.2.1.mono (by omega)) (HU2.out.2.1.mono (by simp; omega))).mono ?_
          rw [HSW.out _ _ HU1.out.1 HU2.out.1]
          rintro e X12 ⟨rfl, hb⟩
          replace HR := Lib.hid (HR.out.keep hb)
          replace HM := Lib.hid (HM.out.keep hb)
          replace HT2 : Hid (X12.cell? ⟨w.heap.size, 2, none⟩ = some (.int .i64 g.ten)) := keep_c hb HT2.out
          replace hbw := hbw.trans (hb.mono hbw.size)
          clear hb HR1 HR2 HU1 HU2
          go_wp2
          go_ret
          exact ⟨rfl, hbw⟩
end Go.Proofs.YtfapeemdlphjbaaDoor
