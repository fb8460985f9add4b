import Derived.Test.YtipdmnfkigoanaaBase
import Derived.RangeFuncNested
import Derived.RangeFuncBound
import Derived.RangeFuncCalls
import Derived.RangeFuncLeaves
import Derived.OwnWalkIn
import Derived.TacticsInMore
import Derived.LoopNIn
import Derived.LoopIn
import Derived.Maps.OwnIn
import Derived.Shelf.Abstract
namespace Go.Proofs.Ytipdmnfkigoanaa
open Go.RowKit

theorem wide_n {n : Nat} : Fence.wide.depth.isSome = true → 1 ≤ n := fun h => by simp [Fence.wide] at h

/-- What bears a range over a function on. -/
def isRec : Obj → Bool
  | .loop _ => true
  | .deferred _ => true
  | .mapIter _ _ _ _ => true
  | _ => false

/-- From W to W' nothing has turned but records of loops from block B on; blocks may have come. -/
structure Std (B : Nat) (W W' : World) : Prop where
  os : W'.os = W.os
  tape : W'.tape = W.tape
  output : W'.output = W.output
  size : W.heap.size ≤ W'.heap.size
  low : ∀ k, k < B → k < W.heap.size → W'.heap[k]? = W.heap[k]?
  same : ∀ (k : Nat) (o : Obj), W.heap[k]? = some o → isRec o = false → W'.heap[k]? = some o

theorem Std.of_below {B : Nat} {W W' : World} (h : Below W.heap.size W W') : Std B W W' :=
  ⟨h.os, h.tape, h.output, h.size, fun k _ hk => h.block k hk, fun k _ ho _ => (h.block k (Array.getElem?_eq_some_iff.1 ho).1).trans ho⟩

theorem Std.mono {B B' : Nat} {W W' : World} (h : Std B' W W') (hB : B ≤ B') : Std B W W' :=
  ⟨h.os, h.tape, h.output, h.size, fun k hk => h.low k (by omega), h.same⟩

theorem Std.putObj {B : Nat} {W : World} {l : Nat} {o : Obj} (o' : Obj) (hl : W.heap[l]? = some o) (ho : isRec o = true) (hB : B ≤ l) : Std B W (W.putObj l o') :=
  ⟨rfl, rfl, rfl, by simp, fun k hk _ => World.putObj_heap_other (by omega), fun k o2 hk h2 => (World.putObj_heap_other (fun e => by subst e; rw [hl] at hk; cases hk; rw [ho] at h2; cases h2)).trans hk⟩

theorem Std.below {B N : Nat} {w W W' : World} (hb : Below N w W) (h : Std B W W') (hN : N ≤ B) (hw : N ≤ w.heap.size) : Below N w W' :=
  hb.trans ⟨h.os, h.tape, h.output, h.size, fun k hk => h.low k (by omega) (by have := hb.size; omega)⟩

theorem Std.cell {B : Nat} {W W' : World} (h : Std B W W') {p : Addr} {v : Value} (hc : W.cell? p = some v) : W'.cell? p = some v := by
  obtain ⟨o, ho, hcs⟩ := cells_of_cell hc
  have : W'.heap[p.block]? = W.heap[p.block]? := by rw [ho]; exact h.same _ _ ho (by cases o <;> simp_all [Obj.isCells, isRec])
  rw [World.cell?_of_block this]; exact hc

theorem Std.frozen {B : Nat} {W W' : World} (h : Std B W W') {p : Addr} {v : Value} (hc : W.cell? p = some v) : W'.frozen? p = W.frozen? p := by
  obtain ⟨o, ho, hcs⟩ := cells_of_cell hc
  have : W'.heap[p.block]? = W.heap[p.block]? := by rw [ho]; exact h.same _ _ ho (by cases o <;> simp_all [Obj.isCells, isRec])
  exact World.frozen?_of_block this

/-- A round keeps the loops' records that lie from block B on. -/
structure KeepRec (B : Nat) (W W' : World) : Prop where
  size : W.heap.size ≤ W'.heap.size
  same : ∀ (k : Nat) (o : Obj), B ≤ k → W.heap[k]? = some o → isRec o = true → W'.heap[k]? = some o

theorem KeepRec.refl (B : Nat) (W : World) : KeepRec B W W := ⟨Nat.le_refl _, fun _ _ _ h _ => h⟩
theorem KeepRec.trans {B : Nat} {X Y Z : World} (h : KeepRec B X Y) (k : KeepRec B Y Z) : KeepRec B X Z :=
  ⟨Nat.le_trans h.size k.size, fun i o hi ho hr => k.same i o hi (h.same i o hi ho hr) hr⟩
theorem KeepRec.of_below {B : Nat} {W W' : World} (h : Below W.heap.size W W') : KeepRec B W W' :=
  ⟨h.size, fun k _ _ ho _ => (h.block k (Array.getElem?_eq_some_iff.1 ho).1).trans ho⟩
theorem KeepRec.alloc {B : Nat} {X W : World} (h : KeepRec B X W) (o : Obj) : KeepRec B X (W.alloc o) :=
  h.trans (.of_below ((Below.refl _ W).alloc (Nat.le_refl _) o))
theorem KeepRec.setCell {B : Nat} {X W : World} (h : KeepRec B X W) (a : Addr) (v : Value) : KeepRec B X (W.setCell a v) :=
  h.trans ⟨(KeepsOthers.setCell W a v).size, fun k o _ ho hr => (KeepsOthers.setCell W a v).same k o ho (by cases o <;> simp_all [Obj.isCells, isRec])⟩
theorem KeepRec.drewN {B : Nat} {X W : World} (h : KeepRec B X W) (m : Nat) : KeepRec B X (W.drewN m) := h.trans ⟨Nat.le_refl _, fun _ _ _ h _ => h⟩
theorem KeepRec.of_others {B : Nat} {W W' : World} (h : KeepsOthers W W') : KeepRec B W W' :=
  ⟨h.size, fun k o _ ho hr => h.same k o ho (by cases o <;> simp_all [Obj.isCells, isRec])⟩

/-- The word of an iterator: the function gf, its captured values lb, hands out the items xs, one by one; of each of them Y is known; below block N0 it asks the round to keep what lies. -/
def Iter {α : Type} (P : Program) (gf : Nat) (lb : Array Value) (Y : List α → α → Array Value → World → World → Prop) (N0 : Nat) (xs : List α) (W : World) : Prop :=
  ∀ (n l : Nat) (J Jx : List α → World → Prop),
    (∀ pre U U', J pre U → Std W.heap.size U U' → J pre U') → (∀ pre U U', Jx pre U → Std W.heap.size U U' → Jx pre U') →
    (∀ pre x rest vs U W1, xs = pre ++ x :: rest → J pre U → Below U.heap.size U W1 → Y pre x vs U W1 → YieldAt Fence.wide (n - 1) P l vs W1 fun e W' =>
      (e = .returned (.bool true) ∧ J (pre ++ [x]) W' ∧ Below N0 W1 W') ∨ (e = .returned (.bool false) ∧ Jx (pre ++ [x]) W')) →
    J [] W → CallsIn Fence.wide n P gf (#[.func (.yield l) #[] #[]] ++ lb) W fun e W' => (∃ v, e = .returned v) ∧ (J xs W' ∨ ∃ pre, pre <+: xs ∧ Jx pre W')

/-- How a round may be left. -/
def roundEnd {α : Type} (N0 B : Nat) (I : List α → World → Prop) (Ix : Code → List α → World → Prop) (xs : List α) (W : World) : Exit → Act → World → Prop
  | .normal, _, W' => KeepRec B W W' ∧ Below N0 W W' ∧ I xs W'
  | .ret, _, W' => KeepRec B W W' ∧ Ix .ret xs W'
  | .exit id, _, W' => KeepRec B W W' ∧ Ix (.exit id) xs W'
  | .goto t, _, W' => KeepRec B W W' ∧ Ix (.goto t) xs W'
  | .panic _, _, _ => False
  | .outgrown, _, _ => False

/-- A range over a function, outside all rounds. -/
theorem wp_range {α : Type} {n : Nat} {P : Program} {g : Operand} {ps : Array Tmp} {assign body : Code} {Q : Exit → Act → World → Prop} {a : Act} {w : World}
    {gf : Nat} {lb : Array Value} (hg : a.eval g = .func (.func gf) #[] lb) (eg : ∀ args w, (callFunc gf args).run P w = .ok (.enter gf args) w)
    {Y : List α → α → Array Value → World → World → Prop} {N0 : Nat} {xs : List α}
    (hit : ∀ W, Below w.heap.size w W → Iter P gf lb Y N0 xs W) (hN : N0 ≤ w.heap.size)
    (I : List α → World → Prop) (Ix : Code → List α → World → Prop) (Z : List α → α → Act → World → Prop)
    (hI : ∀ pre W W', I pre W → Std w.heap.size W W' → I pre W') (hIx : ∀ c pre W W', Ix c pre W → Std w.heap.size W W' → Ix c pre W')
    (hZ : ∀ pre x a₁ W W', Z pre x a₁ W → Std w.heap.size W W' → Z pre x a₁ W')
    (h0 : I [] w)
    (hassign : ∀ (l : Nat) pre x rest vs U W, xs = pre ++ x :: rest → I pre U → Below U.heap.size U W → Y pre x vs U W → vs.size = ps.size ∧
      assign.wpIn (Fence.wide.inRound l) (n - 1 - 1) P (Exit.then (fun a₁ W1 => KeepRec w.heap.size W W1 ∧ Below N0 W W1 ∧ Z pre x a₁ W1) (fun _ _ _ => False))
        { tmps := (ps.zip vs).foldl (fun t (p, v) => t.setIfInBounds p v) a.tmps, defers := [] } W)
    (hbody : ∀ (l : Nat) pre x rest a₁ W, xs = pre ++ x :: rest → Z pre x a₁ W → body.wpIn (Fence.wide.inRound l) (n - 1 - 1) P (roundEnd N0 w.heap.size I Ix (pre ++ [x]) W) a₁ W)
    (hdone : ∀ (D : Nat) (W : World), w.heap.size ≤ D → I xs W → W.heap[D]? = some (.deferred (some [])) → Q .normal { a with defers := { target := .collected D, args := #[] } :: a.defers } W)
    (hstop : ∀ (D : Nat) (c : Code) (pre : List α) (W : World), w.heap.size ≤ D → pre <+: xs → Ix c pre W → W.heap[D]? = some (.deferred (some [])) →
      c.wpIn Fence.wide n P Q { a with defers := { target := .collected D, args := #[] } :: a.defers } W) :
    (Code.rangeFunc g ps assign body).wpIn Fence.wide n P Q a w := by
  refine wpIn_rangeFunc ?_
  intro fn hfn
  obtain ⟨rec, hrec⟩ : ∃ rec : LoopState → Option Code → Loop, rec = fun st pe => { state := st, pending := pe, fn, tmps := a.tmps, params := ps, assign, body, defers := w.heap.size } := ⟨_, rfl⟩
  obtain ⟨W1, hW1⟩ : ∃ W1, (w.alloc (.deferred (some []))).alloc (.loop (rec .ready none)) = W1 := ⟨_, rfl⟩
  have hL1 : W1.heap[w.heap.size + 1]? = some (.loop (rec .ready none)) := by
    rw [← hW1]; have := World.alloc_heap_new (w.alloc (.deferred (some []))) (.loop (rec .ready none)); rwa [World.size_alloc] at this
  have hK1 : W1.heap[w.heap.size]? = some (.deferred (some [])) := by
    rw [← hW1]; exact (Below.heap_alloc _ _ _ (by simp)).trans (World.alloc_heap_new w _)
  have hb1 : Below w.heap.size w W1 := by
    rw [← hW1]; exact ((Below.refl _ w).alloc (Nat.le_refl _) _).alloc (by simp) _
  have hI1 : I [] W1 := hI _ _ _ h0 (.of_below hb1)
  refine ⟨w.heap.size + 1, [{ target := .collected w.heap.size, args := #[] }], W1, { target := .fn (.func gf) lb, args := #[.func (.yield (w.heap.size + 1)) #[] #[]] }, W1, gf,
    #[.func (.yield (w.heap.size + 1)) #[] #[]] ++ lb, W1, ?_, ?_, ?_, ?_, fun h => by simp [Fence.wide] at h, ?_⟩
  · rw [← hW1, hrec]; exact run_enterLoop_outer _ _ _ _ _
  · simp only [resolve, hg]
    simp [go_sem]
  · intro f' hf'; trivial
  · simp [invoke, go_sem, eg]
  · have hsz : W1.heap.size = w.heap.size + 2 := by rw [← hW1]; simp
    refine (hit W1 hb1 (n - 1) (w.heap.size + 1)
      (fun pre W => I pre W ∧ W.heap[w.heap.size + 1]? = some (.loop (rec .ready none)) ∧ W.heap[w.heap.size]? = some (.deferred (some [])))
      (fun pre W => ∃ c, Ix c pre W ∧ W.heap[w.heap.size + 1]? = some (.loop (rec .done (some c))) ∧ W.heap[w.heap.size]? = some (.deferred (some [])))
      ?_ ?_ ?_ ⟨hI1, hL1, hK1⟩).mono ?_
    · rintro pre U U' ⟨h1, h2, h3⟩ hs
      exact ⟨hI _ _ _ h1 (hs.mono (by omega)), (hs.low _ (by omega) (Array.getElem?_eq_some_iff.1 h2).1).trans h2, (hs.low _ (by omega) (Array.getElem?_eq_some_iff.1 h3).1).trans h3⟩
    · rintro pre U U' ⟨c, h1, h2, h3⟩ hs
      exact ⟨c, hIx _ _ _ _ h1 (hs.mono (by omega)), (hs.low _ (by omega) (Array.getElem?_eq_some_iff.1 h2).1).trans h2, (hs.low _ (by omega) (Array.getElem?_eq_some_iff.1 h3).1).trans h3⟩
    · rintro pre x rest vs U W hx ⟨hi, hl, hk⟩ hUW hy0
      have hl := (hUW.block _ (Array.getElem?_eq_some_iff.1 hl).1).trans hl
      have hk := (hUW.block _ (Array.getElem?_eq_some_iff.1 hk).1).trans hk
      have hlt : w.heap.size + 1 < W.heap.size := (Array.getElem?_eq_some_iff.1 hl).1
      obtain ⟨hps, ha⟩ := hassign (w.heap.size + 1) pre x rest vs U W hx hi hUW hy0
      have hy := run_yield (P := P) (args := vs) hl (by rw [hrec]; exact hps)
      rw [hrec] at hy
      refine ⟨fn, _, assign, body, hy, roundIn_of_wpIn hfn (wpIn_mono ha ?_)⟩
      rintro e a₁ Wa hp
      cases e with
      | normal =>
        obtain ⟨hka, hba, hz⟩ := hp
        have hla := hka.same _ _ (by omega) hl rfl
        have hKa := hka.same _ _ (by omega) hk rfl
        refine ⟨_, run_beginRound hla (by rw [hrec]), ?_⟩
        have hl2 : (Wa.putObj (w.heap.size + 1) (.loop { rec .ready none with state := .busy })).heap[w.heap.size + 1]? = some (.loop { rec .ready none with state := .busy }) := World.putObj_heap_same (Array.getElem?_eq_some_iff.1 hla).1
        have hk2 : (Wa.putObj (w.heap.size + 1) (.loop { rec .ready none with state := .busy })).heap[w.heap.size]? = some (.deferred (some [])) := (World.putObj_heap_other (by omega)).trans hKa
        have hs2 : Std w.heap.size Wa (Wa.putObj (w.heap.size + 1) (.loop { rec .ready none with state := .busy })) := .putObj _ hla rfl (by omega)
        refine wpIn_mono (hbody (w.heap.size + 1) pre x rest a₁ _ hx (hZ _ _ _ _ _ hz hs2)) ?_
        have fin : ∀ (jump : Option Code) (W3 : World), KeepRec w.heap.size (Wa.putObj (w.heap.size + 1) (.loop { rec .ready none with state := .busy })) W3 →
            (Instr.endRound (w.heap.size + 1) jump).run P W3 = .ok (.bool jump.isNone) (W3.putObj (w.heap.size + 1) (.loop (rec (if jump.isNone then .ready else .done) jump))) ∧
            Std w.heap.size W3 (W3.putObj (w.heap.size + 1) (.loop (rec (if jump.isNone then .ready else .done) jump))) ∧
            (W3.putObj (w.heap.size + 1) (.loop (rec (if jump.isNone then .ready else .done) jump))).heap[w.heap.size + 1]? = some (.loop (rec (if jump.isNone then .ready else .done) jump)) ∧
            (W3.putObj (w.heap.size + 1) (.loop (rec (if jump.isNone then .ready else .done) jump))).heap[w.heap.size]? = some (.deferred (some [])) := fun jump W3 hk3 => by
          have hl3 := hk3.same _ _ (by omega) hl2 rfl
          have := run_endRound (P := P) jump hl3
          rw [hrec] at this ⊢
          exact ⟨this, .putObj _ hl3 rfl (by omega), World.putObj_heap_same (Array.getElem?_eq_some_iff.1 hl3).1, (World.putObj_heap_other (by omega)).trans (hk3.same _ _ (by omega) hk2 rfl)⟩
        rintro e a3 W3 hp
        cases e with
        | normal =>
          obtain ⟨hk3, hkp3, hi3⟩ := hp
          obtain ⟨hr, hs3, hl4, hk4⟩ := fin none W3 hk3
          have hW : N0 ≤ W.heap.size := by omega
          exact ⟨_, _, hr, .inl ⟨rfl, ⟨hI _ _ _ hi3 hs3, hl4, hk4⟩, hs3.below ((hs2.below hba hN hW).trans hkp3) hN hW⟩⟩
        | ret =>
          obtain ⟨hk3, hi3⟩ := hp
          obtain ⟨hr, hs3, hl4, hk4⟩ := fin (some .ret) W3 hk3
          exact ⟨_, _, hr, .inr ⟨rfl, .ret, hIx _ _ _ _ hi3 hs3, hl4, hk4⟩⟩
        | exit id =>
          obtain ⟨hk3, hi3⟩ := hp
          obtain ⟨hr, hs3, hl4, hk4⟩ := fin (some (.exit id)) W3 hk3
          exact ⟨_, _, hr, .inr ⟨rfl, .exit id, hIx _ _ _ _ hi3 hs3, hl4, hk4⟩⟩
        | goto t =>
          obtain ⟨hk3, hi3⟩ := hp
          obtain ⟨hr, hs3, hl4, hk4⟩ := fin (some (.goto t)) W3 hk3
          exact ⟨_, _, hr, .inr ⟨rfl, .goto t, hIx _ _ _ _ hi3 hs3, hl4, hk4⟩⟩
        | panic ch => exact hp.elim
        | outgrown => exact hp.elim
      | ret => exact hp.elim
      | exit id => exact hp.elim
      | goto t => exact hp.elim
      | panic ch => exact hp.elim
      | outgrown => exact hp.elim
    · rintro e W2 ⟨⟨v, rfl⟩, (⟨hi, hl, hk⟩ | ⟨pre, hSp, c, hi, hl, hk⟩)⟩
      · exact ⟨none, _, by have := run_endLoop (P := P) hl (by rw [hrec]; simp); rw [hrec] at this; exact this,
          hdone _ _ (Nat.le_refl _) (hI _ _ _ hi (.putObj _ hl rfl (by omega))) ((World.putObj_heap_other (by omega)).trans hk)⟩
      · exact ⟨some c, _, by have := run_endLoop (P := P) hl (by rw [hrec]; simp); rw [hrec] at this; exact this,
          hstop _ c pre _ (Nat.le_refl _) hSp (hIx _ _ _ _ hi (.putObj _ hl rfl (by omega))) ((World.putObj_heap_other (by omega)).trans hk)⟩
/-- The word of an iterator that hands out things in an order that nobody knows: Next pre x: behind pre x may come; Fin xs: these may be all. -/
def IterN {α : Type} (P : Program) (gf : Nat) (lb : Array Value) (Next : List α → α → Prop) (Fin : List α → Prop) (Y : List α → α → Array Value → World → World → Prop) (N0 : Nat) (W : World) : Prop :=
  ∀ (n l : Nat) (J Jx : List α → World → Prop),
    (∀ pre U U', J pre U → Std W.heap.size U U' → J pre U') → (∀ pre U U', Jx pre U → Std W.heap.size U U' → Jx pre U') →
    (∀ pre x vs U W1, Next pre x → J pre U → Below U.heap.size U W1 → Y pre x vs U W1 → YieldAt Fence.wide (n - 1) P l vs W1 fun e W' =>
      (e = .returned (.bool true) ∧ J (pre ++ [x]) W' ∧ Below N0 W1 W' ∧ KeepRec W.heap.size W1 W') ∨ (e = .returned (.bool false) ∧ Jx (pre ++ [x]) W')) →
    J [] W → CallsIn Fence.wide n P gf (#[.func (.yield l) #[] #[]] ++ lb) W fun e W' => (∃ v, e = .returned v) ∧ ((∃ xs, Fin xs ∧ J xs W') ∨ ∃ pre, Jx pre W')
theorem KeepRec.up {B B' : Nat} {W W' : World} (h : KeepRec B W W') (hB : B ≤ B') : KeepRec B' W W' := ⟨h.size, fun k o hk => h.same k o (by omega)⟩
theorem KeepRec.putObj_low {B l : Nat} (W : World) (o : Obj) (hl : l < B) : KeepRec B W (W.putObj l o) := ⟨by simp, fun k o' hk ho _ => (World.putObj_heap_other (by omega)).trans ho⟩
/-- A range over a function that hands out things in an order that nobody knows. -/
theorem wp_rangeN {α : Type} {n : Nat} {P : Program} {g : Operand} {ps : Array Tmp} {assign body : Code} {Q : Exit → Act → World → Prop} {a : Act} {w : World}
    {gf : Nat} {lb : Array Value} (hg : a.eval g = .func (.func gf) #[] lb) (eg : ∀ args w, (callFunc gf args).run P w = .ok (.enter gf args) w)
    {Next : List α → α → Prop} {Fin : List α → Prop} {Y : List α → α → Array Value → World → World → Prop} {N0 : Nat}
    (hit : ∀ W, Below w.heap.size w W → IterN P gf lb Next Fin Y N0 W) (hN : N0 ≤ w.heap.size)
    (I : List α → World → Prop) (Ix : Code → List α → World → Prop) (Z : List α → α → Act → World → Prop)
    (hI : ∀ pre W W', I pre W → Std w.heap.size W W' → I pre W') (hIx : ∀ c pre W W', Ix c pre W → Std w.heap.size W W' → Ix c pre W')
    (hZ : ∀ pre x a₁ W W', Z pre x a₁ W → Std w.heap.size W W' → Z pre x a₁ W')
    (h0 : I [] w)
    (hassign : ∀ (l : Nat) pre x vs U W, Next pre x → I pre U → Below U.heap.size U W → Y pre x vs U W → vs.size = ps.size ∧
      assign.wpIn (Fence.wide.inRound l) (n - 1 - 1) P (Exit.then (fun a₁ W1 => KeepRec w.heap.size W W1 ∧ Below N0 W W1 ∧ Z pre x a₁ W1) (fun _ _ _ => False))
        { tmps := (ps.zip vs).foldl (fun t (p, v) => t.setIfInBounds p v) a.tmps, defers := [] } W)
    (hbody : ∀ (l : Nat) pre x a₁ W, Next pre x → Z pre x a₁ W → body.wpIn (Fence.wide.inRound l) (n - 1 - 1) P (roundEnd N0 w.heap.size I Ix (pre ++ [x]) W) a₁ W)
    (hdone : ∀ (D : Nat) (xs : List α) (W : World), w.heap.size ≤ D → Fin xs → I xs W → W.heap[D]? = some (.deferred (some [])) → Q .normal { a with defers := { target := .collected D, args := #[] } :: a.defers } W)
    (hstop : ∀ (D : Nat) (c : Code) (pre : List α) (W : World), w.heap.size ≤ D → Ix c pre W → W.heap[D]? = some (.deferred (some [])) →
      c.wpIn Fence.wide n P Q { a with defers := { target := .collected D, args := #[] } :: a.defers } W) :
    (Code.rangeFunc g ps assign body).wpIn Fence.wide n P Q a w := by
  refine wpIn_rangeFunc ?_
  intro fn hfn
  obtain ⟨rec, hrec⟩ : ∃ rec : LoopState → Option Code → Loop, rec = fun st pe => { state := st, pending := pe, fn, tmps := a.tmps, params := ps, assign, body, defers := w.heap.size } := ⟨_, rfl⟩
  obtain ⟨W1, hW1⟩ : ∃ W1, (w.alloc (.deferred (some []))).alloc (.loop (rec .ready none)) = W1 := ⟨_, rfl⟩
  have hL1 : W1.heap[w.heap.size + 1]? = some (.loop (rec .ready none)) := by
    rw [← hW1]; have := World.alloc_heap_new (w.alloc (.deferred (some []))) (.loop (rec .ready none)); rwa [World.size_alloc] at this
  have hK1 : W1.heap[w.heap.size]? = some (.deferred (some [])) := by
    rw [← hW1]; exact (Below.heap_alloc _ _ _ (by simp)).trans (World.alloc_heap_new w _)
  have hb1 : Below w.heap.size w W1 := by
    rw [← hW1]; exact ((Below.refl _ w).alloc (Nat.le_refl _) _).alloc (by simp) _
  have hI1 : I [] W1 := hI _ _ _ h0 (.of_below hb1)
  refine ⟨w.heap.size + 1, [{ target := .collected w.heap.size, args := #[] }], W1, { target := .fn (.func gf) lb, args := #[.func (.yield (w.heap.size + 1)) #[] #[]] }, W1, gf,
    #[.func (.yield (w.heap.size + 1)) #[] #[]] ++ lb, W1, ?_, ?_, ?_, ?_, fun h => by simp [Fence.wide] at h, ?_⟩
  · rw [← hW1, hrec]; exact run_enterLoop_outer _ _ _ _ _
  · simp only [resolve, hg]
    simp [go_sem]
  · intro f' hf'; trivial
  · simp [invoke, go_sem, eg]
  · have hsz : W1.heap.size = w.heap.size + 2 := by rw [← hW1]; simp
    refine (hit W1 hb1 (n - 1) (w.heap.size + 1)
      (fun pre W => I pre W ∧ W.heap[w.heap.size + 1]? = some (.loop (rec .ready none)) ∧ W.heap[w.heap.size]? = some (.deferred (some [])))
      (fun pre W => ∃ c, Ix c pre W ∧ W.heap[w.heap.size + 1]? = some (.loop (rec .done (some c))) ∧ W.heap[w.heap.size]? = some (.deferred (some [])))
      ?_ ?_ ?_ ⟨hI1, hL1, hK1⟩).mono ?_
    · rintro pre U U' ⟨h1, h2, h3⟩ hs
      exact ⟨hI _ _ _ h1 (hs.mono (by omega)), (hs.low _ (by omega) (Array.getElem?_eq_some_iff.1 h2).1).trans h2, (hs.low _ (by omega) (Array.getElem?_eq_some_iff.1 h3).1).trans h3⟩
    · rintro pre U U' ⟨c, h1, h2, h3⟩ hs
      exact ⟨c, hIx _ _ _ _ h1 (hs.mono (by omega)), (hs.low _ (by omega) (Array.getElem?_eq_some_iff.1 h2).1).trans h2, (hs.low _ (by omega) (Array.getElem?_eq_some_iff.1 h3).1).trans h3⟩
    · rintro pre x vs U W hx ⟨hi, hl, hk⟩ hUW hy0
      have hl := (hUW.block _ (Array.getElem?_eq_some_iff.1 hl).1).trans hl
      have hk := (hUW.block _ (Array.getElem?_eq_some_iff.1 hk).1).trans hk
      have hlt : w.heap.size + 1 < W.heap.size := (Array.getElem?_eq_some_iff.1 hl).1
      obtain ⟨hps, ha⟩ := hassign (w.heap.size + 1) pre x vs U W hx hi hUW hy0
      have hy := run_yield (P := P) (args := vs) hl (by rw [hrec]; exact hps)
      rw [hrec] at hy
      refine ⟨fn, _, assign, body, hy, roundIn_of_wpIn hfn (wpIn_mono ha ?_)⟩
      rintro e a₁ Wa hp
      cases e with
      | normal =>
        obtain ⟨hka, hba, hz⟩ := hp
        have hla := hka.same _ _ (by omega) hl rfl
        have hKa := hka.same _ _ (by omega) hk rfl
        refine ⟨_, run_beginRound hla (by rw [hrec]), ?_⟩
        have hl2 : (Wa.putObj (w.heap.size + 1) (.loop { rec .ready none with state := .busy })).heap[w.heap.size + 1]? = some (.loop { rec .ready none with state := .busy }) := World.putObj_heap_same (Array.getElem?_eq_some_iff.1 hla).1
        have hk2 : (Wa.putObj (w.heap.size + 1) (.loop { rec .ready none with state := .busy })).heap[w.heap.size]? = some (.deferred (some [])) := (World.putObj_heap_other (by omega)).trans hKa
        have hs2 : Std w.heap.size Wa (Wa.putObj (w.heap.size + 1) (.loop { rec .ready none with state := .busy })) := .putObj _ hla rfl (by omega)
        refine wpIn_mono (hbody (w.heap.size + 1) pre x a₁ _ hx (hZ _ _ _ _ _ hz hs2)) ?_
        have fin : ∀ (jump : Option Code) (W3 : World), KeepRec w.heap.size (Wa.putObj (w.heap.size + 1) (.loop { rec .ready none with state := .busy })) W3 →
            (Instr.endRound (w.heap.size + 1) jump).run P W3 = .ok (.bool jump.isNone) (W3.putObj (w.heap.size + 1) (.loop (rec (if jump.isNone then .ready else .done) jump))) ∧
            Std w.heap.size W3 (W3.putObj (w.heap.size + 1) (.loop (rec (if jump.isNone then .ready else .done) jump))) ∧
            (W3.putObj (w.heap.size + 1) (.loop (rec (if jump.isNone then .ready else .done) jump))).heap[w.heap.size + 1]? = some (.loop (rec (if jump.isNone then .ready else .done) jump)) ∧
            (W3.putObj (w.heap.size + 1) (.loop (rec (if jump.isNone then .ready else .done) jump))).heap[w.heap.size]? = some (.deferred (some [])) := fun jump W3 hk3 => by
          have hl3 := hk3.same _ _ (by omega) hl2 rfl
          have := run_endRound (P := P) jump hl3
          rw [hrec] at this ⊢
          exact ⟨this, .putObj _ hl3 rfl (by omega), World.putObj_heap_same (Array.getElem?_eq_some_iff.1 hl3).1, (World.putObj_heap_other (by omega)).trans (hk3.same _ _ (by omega) hk2 rfl)⟩
        rintro e a3 W3 hp
        cases e with
        | normal =>
          obtain ⟨hk3, hkp3, hi3⟩ := hp
          obtain ⟨hr, hs3, hl4, hk4⟩ := fin none W3 hk3
          have hW : N0 ≤ W.heap.size := by omega
          refine ⟨_, _, hr, .inl ⟨rfl, ⟨hI _ _ _ hi3 hs3, hl4, hk4⟩, hs3.below ((hs2.below hba hN hW).trans hkp3) hN hW, ?_⟩⟩
          rw [hsz]
          exact (((hka.up (by omega)).trans (.putObj_low _ _ (by omega))).trans (hk3.up (by omega))).trans (.putObj_low _ _ (by omega))
        | ret =>
          obtain ⟨hk3, hi3⟩ := hp
          obtain ⟨hr, hs3, hl4, hk4⟩ := fin (some .ret) W3 hk3
          exact ⟨_, _, hr, .inr ⟨rfl, .ret, hIx _ _ _ _ hi3 hs3, hl4, hk4⟩⟩
        | exit id =>
          obtain ⟨hk3, hi3⟩ := hp
          obtain ⟨hr, hs3, hl4, hk4⟩ := fin (some (.exit id)) W3 hk3
          exact ⟨_, _, hr, .inr ⟨rfl, .exit id, hIx _ _ _ _ hi3 hs3, hl4, hk4⟩⟩
        | goto t =>
          obtain ⟨hk3, hi3⟩ := hp
          obtain ⟨hr, hs3, hl4, hk4⟩ := fin (some (.goto t)) W3 hk3
          exact ⟨_, _, hr, .inr ⟨rfl, .goto t, hIx _ _ _ _ hi3 hs3, hl4, hk4⟩⟩
        | panic ch => exact hp.elim
        | outgrown => exact hp.elim
      | ret => exact hp.elim
      | exit id => exact hp.elim
      | goto t => exact hp.elim
      | panic ch => exact hp.elim
      | outgrown => exact hp.elim
    · rintro e W2 ⟨⟨v, rfl⟩, (⟨xs, hF, hi, hl, hk⟩ | ⟨pre, c, hi, hl, hk⟩)⟩
      · exact ⟨none, _, by have := run_endLoop (P := P) hl (by rw [hrec]; simp); rw [hrec] at this; exact this,
          hdone _ _ _ (Nat.le_refl _) hF (hI _ _ _ hi (.putObj _ hl rfl (by omega))) ((World.putObj_heap_other (by omega)).trans hk)⟩
      · exact ⟨some c, _, by have := run_endLoop (P := P) hl (by rw [hrec]; simp); rw [hrec] at this; exact this,
          hstop _ c pre _ (Nat.le_refl _) (hIx _ _ _ _ hi (.putObj _ hl rfl (by omega))) ((World.putObj_heap_other (by omega)).trans hk)⟩
theorem Std.owns {B : Nat} {W W' : World} {base e sz n : Nat} {v : Value} {xs : List Value} (h : Std B W W') (ho : W.ownsRow base e sz v n xs) : W'.ownsRow base e sz v n xs := by
  obtain ⟨h1, (h2 | ⟨g, cap, cur, rfl, hg, hh, hr⟩)⟩ := ho
  · exact ⟨h1, .inl h2⟩
  · exact ⟨h1, .inr ⟨g, cap, cur, rfl, hg, h.same _ _ hh rfl, hr⟩⟩

/-- A variable in a block of its own. -/
def Var (w : World) (b : Nat) (v : Value) : Prop := w.cell? ⟨b, 0, none⟩ = some v ∧ w.frozen? ⟨b, 0, none⟩ = false
theorem Var.lt {w : World} {b : Nat} {v : Value} (h : Var w b v) : b < w.heap.size := by have := World.block_lt_of_cell? w _ h.1; simpa using this
theorem Var.std {B : Nat} {W W' : World} {b : Nat} {v : Value} (h : Std B W W') (hv : Var W b v) : Var W' b v := ⟨h.cell hv.1, (h.frozen hv.1).trans hv.2⟩
theorem Var.block {w w' : World} {b : Nat} {v : Value} (hv : Var w b v) (h : w'.heap[b]? = w.heap[b]?) : Var w' b v :=
  ⟨(World.cell?_of_block h).trans hv.1, (World.frozen?_of_block h).trans hv.2⟩
theorem Var.alloc {w : World} {b : Nat} {v : Value} (hv : Var w b v) (o : Obj) : Var (w.alloc o) b v := hv.block (Below.heap_alloc _ _ _ hv.lt)
theorem Var.below {w w' : World} {b : Nat} {v : Value} (hv : Var w b v) (h : Below w.heap.size w w') : Var w' b v := hv.block (h.block _ hv.lt)
theorem Var.new (w : World) (v : Value) (t : TypeId) : Var (w.alloc (.cells #[v] t)) w.heap.size v := ⟨by simp, by simp⟩
theorem Var.set {w : World} {b : Nat} {v : Value} (hv : Var w b v) (u : Value) : Var (w.setCell ⟨b, 0, none⟩ u) b u :=
  ⟨World.cell?_setCell_same' _ _ _ (by rw [hv.1]; rfl), by rw [World.frozen?_setCell]; exact hv.2⟩
theorem Var.far {w : World} {b : Nat} {v : Value} (hv : Var w b v) {p : Addr} (hp : b ≠ p.block) (u : Value) : Var (w.setCell p u) b v := hv.block (Below.heap_setCell _ _ _ _ hp)

end Go.Proofs.Ytipdmnfkigoanaa
