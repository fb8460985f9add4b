import Derived.Test.YtipdmnfkigoanaaRG
import Derived.Test.YtipdmnfkigoanaaCel
import Derived.Deep.RegionLaw
import Derived.BigRegionIn
namespace Go.Proofs.Ytipdmnfkigoanaa
open Go.RowKit
attribute [local go_sem] World.cell?_alloc_some frozen_alloc_some Oper.semAt_some

/-! A drawn region within a round, by the plain laws. -/
def noDefer (o : Oper) : Bool := match o.op with | .defer _ => false | _ => true
theorem oper_in {l n : Nat} {P : Program} {o : Oper} {a : Act} {w : World} {K : Act → World → Prop} {Q : Exit → Act → World → Prop} (hnd : noDefer o = true) (h : Oper.wp P o a w K Q) : Oper.wpIn (Fence.wide.inRound l) n P o a w K Q := by
  refine ⟨fun _ _ => trivial, ?_⟩
  rw [Oper.semAt_eq _ _ _ (fun c hc => by unfold noDefer at hnd; rw [hc] at hnd; cases hnd)]
  unfold Oper.wp at h
  generalize (execOp a.eval o).run P w = r at *
  cases r with
  | ok x w' =>
    cases x with
    | enter f args => exact ⟨wide_n, (callsIn_wide.2 h).inRound l⟩
    | row r args => exact ⟨wide_n, fun c cs _ => let ⟨v, w', r, s⟩ := h c cs; ⟨v, w', r, stepsIn_wide.2 s⟩⟩
    | _ => first | exact h | exact h.elim
  | halt x w' => cases x <;> exact h
theorem any_in {l n : Nat} {P : Program} {md : Region.Mode} {ops : Array Oper} {Q : Exit → Act → World → Prop} (hnd : ops.all noDefer = true) (hno : ¬ LetsOut Q) : ∀ (fuel : Nat) (listed : Array Bool) (a : Act) (w : World),
    wpAny P md ops Q fuel listed a w → wpAnyIn (Fence.wide.inRound l) n P md ops Q fuel listed a w
  | 0, _, _, _, h => h
  | fuel + 1, _, _, _, h => ⟨h.1, fun i hi => by
    have h1 := h.2 i hi
    unfold wpOp at h1
    unfold wpOpIn
    cases ho : ops[i]? with
    | none => rw [ho] at h1; exact any_in hnd hno fuel _ _ _ h1
    | some o =>
      rw [ho] at h1
      dsimp only at h1 ⊢
      have hno2 : noDefer o = true := by
        obtain ⟨h2, h3⟩ := Array.getElem?_eq_some_iff.1 ho
        have := Array.all_eq_true.1 hnd i h2
        rwa [h3] at this
      split
      · rename_i hw
        rw [if_pos hw] at h1
        rcases h1 with h1 | ⟨-, h1⟩
        · exact Oper.wpIn_mono (fun a w => any_in hnd hno fuel _ a w) (oper_in hno2 h1)
        · exact absurd h1 hno
      · rename_i hw
        rw [if_neg hw] at h1
        exact ⟨fun _ _ => trivial, any_in hnd hno fuel _ _ _ h1⟩⟩

/-! A drawn region of loads, allocs, appends and last stores: what holds of the world (S) is shown anew behind each operation but the last ones (B). -/
def anyB (P : Program) (md : Region.Mode) (ops : Array Oper) (Q : Exit → Act → World → Prop) (S : World → Prop) (B : Nat → Bool) : Nat → Array Bool → Act → World → Prop
  | 0, l, a, w => Region.ready md ops l = [] ∧ Q .normal a w
  | f + 1, l, a, w => (Region.ready md ops l = [] → Q .normal a w) ∧ ∀ j ∈ Region.ready md ops l, wpOp P ops Q j (fun a' w' => (B j = false → S w') ∧ anyB P md ops Q S B f (l.setIfInBounds j true) a' w') a w
section
variable {P : Program} {md : Region.Mode} {ops : Array Oper} {Q : Exit → Act → World → Prop} {S : World → Prop} {B : Nat → Bool}
theorem any_of_B : ∀ (f : Nat) (l : Array Bool) (a : Act) (w : World), anyB P md ops Q S B f l a w → wpAny P md ops Q f l a w
  | 0, _, _, _, h => h
  | f + 1, _, _, _, h => ⟨h.1, fun j hj => wpOp_mono (fun a' w' h' => any_of_B f _ a' w' h'.2) (h.2 j hj)⟩
/-- operation j waits for operation i, maybe by way of others. -/
def reach (md : Region.Mode) (ops : Array Oper) : Nat → Nat → Nat → Bool
  | 0, _, _ => false
  | n + 1, j, i => match ops[j]? with | none => false | some o => o.after.any fun e => Region.binds md e && (e.on == i || reach md ops n e.on i)
/-- what has come up has all behind it that it waits for. -/
def Shut (md : Region.Mode) (ops : Array Oper) (l : Array Bool) : Prop := ∀ k ok, ops[k]? = some ok → l.getD k false = true → ∀ e ∈ ok.after, Region.binds md e = true → l.getD e.on false = true
theorem reach_listed {l : Array Bool} {i : Nat} (hc : Shut md ops l) : ∀ (n j : Nat) (o : Oper), ops[j]? = some o → (∀ e ∈ o.after, Region.binds md e = true → l.getD e.on false = true) → reach md ops n j i = true → l.getD i false = true := by
  intro n
  induction n with
  | zero => intro j o _ _ h; cases h
  | succ n ih =>
    intro j o ho hall h
    unfold reach at h
    rw [ho] at h
    simp only [Array.any_eq_true', Bool.and_eq_true, Bool.or_eq_true, beq_iff_eq] at h
    obtain ⟨e, he, hb, h2 | h2⟩ := h
    · rw [← h2]; exact hall e he hb
    · cases hk : ops[e.on]? with
      | none => cases n <;> simp [reach, hk] at h2
      | some ok => exact ih e.on ok hk (hc _ ok hk (hall e he hb)) h2
/-- all of B wait for operation i. -/
def waitB (md : Region.Mode) (ops : Array Oper) (B : Nat → Bool) (i : Nat) : Bool := (List.range ops.size).all fun j => !B j || reach md ops 4 j i
theorem waitB_spec {i j : Nat} {o : Oper} (h : waitB md ops B i = true) (ho : ops[j]? = some o) (hb : B j = true) : reach md ops 4 j i = true := by
  unfold waitB at h
  have h1 := List.all_eq_true.1 h j (List.mem_range.2 (Array.getElem?_eq_some_iff.1 ho).1)
  rw [hb] at h1
  simpa using h1
def shutB (md : Region.Mode) (ops : Array Oper) (l : Array Bool) : Bool := (List.range ops.size).all fun k => !l.getD k false || (match ops[k]? with | some ok => ok.after.all fun e => !Region.binds md e || l.getD e.on false | none => true)
theorem shutB_spec {l : Array Bool} (h : shutB md ops l = true) : Shut md ops l := fun k ok ho hl e he hb => by
  unfold shutB at h
  have h1 := List.all_eq_true.1 h k (List.mem_range.2 (Array.getElem?_eq_some_iff.1 ho).1)
  rw [hl, ho] at h1
  simp only [Bool.not_true, Bool.false_or, Array.all_eq_true', Bool.or_eq_true] at h1
  rcases h1 e he with h2 | h2
  · rw [hb] at h2; cases h2
  · exact h2
theorem takeB0 {i : Nat} {oi : Oper} {v : Value} (hi : ops[i]? = some oi) (hsel : Region.noSelect ops = true) (hQ : ∀ c a w, Q (.panic c) (a.put oi.dst v) w → Q (.panic c) a w) (hB : waitB md ops B i = true) : ∀ (f : Nat) (l : Array Bool) (a : Act) (w : World),
    Shut md ops l →
    (∀ j oj, ops[j]? = some oj → j ≠ i → l.getD j true = false → (∀ e ∈ oj.after, Region.binds md e = true → e.on ≠ i) → oi.apart ops oj = true) → i ∈ Region.ready md ops l → YieldsIf P ops S oi v a → S w →
    anyB P md ops Q S B f (l.setIfInBounds i true) (a.put oi.dst v) w → anyB P md ops Q S B (f + 1) l a w := by
  intro f
  induction f with
  | zero =>
    intro l a w _ _ hr hy hS H
    refine ⟨fun h => absurd hr (by rw [h]; exact List.not_mem_nil), fun j hj => ?_⟩
    by_cases e : j = i
    · cases e; exact hy.wpOp hi hS ⟨fun _ => hS, H⟩
    · exact absurd (ready_mono hj e) (by rw [H.1]; exact List.not_mem_nil)
  | succ f ih =>
    intro l a w hcl hfree hr hy hS H
    refine ⟨fun h => absurd hr (by rw [h]; exact List.not_mem_nil), fun j hj => ?_⟩
    by_cases e : j = i
    · cases e; exact hy.wpOp hi hS ⟨fun _ => hS, H⟩
    · obtain ⟨hun, oj, hoj, hall⟩ := mem_ready.1 hj
      have hnl : l.getD i false ≠ true := fun k1 => by
        have k0 := (mem_ready.1 hr).1
        by_cases hsz : i < l.size
        · rw [Array.getD_eq_getD_getElem?, Array.getElem?_eq_getElem hsz] at k0 k1
          simp only [Option.getD_some] at k0 k1
          rw [k0] at k1; cases k1
        · rw [Array.getD_eq_getD_getElem?, Array.getElem?_eq_none (by omega)] at k1; cases k1
      have hnot : ∀ e ∈ oj.after, Region.binds md e = true → e.on ≠ i := fun d hd hb he => hnl (by rw [← he]; exact hall d hd hb)
      have hBj : B j = false := Bool.eq_false_iff.2 fun hb => hnl (reach_listed hcl 4 j oj hoj hall (waitB_spec hB hoj hb))
      refine wpOp_mono (fun a' w' h3 => ⟨fun _ => h3.2.1 hBj, ih (l.setIfInBounds j true) a' w' (fun k ok hk hkl d hd hb => ?_) (fun k ok hk hki hun2 hno => hfree k ok hk hki ?_ hno) (ready_mono hr (Ne.symm e)) h3.1 (h3.2.1 hBj) ?_⟩)
        (wpOp_putIf hoj (hfree j oj hoj e hun hnot) (fun cs b => Region.noSelect_spec hsel i oi cs b hi) (fun cs b => Region.noSelect_spec hsel j oj cs b hoj) hQ hy (H.2 j (ready_mono hj e)))
      · by_cases hjk : j = k
        · subst hjk
          rw [hoj] at hk; cases hk
          exact getD_set_true (hall d hd hb)
        · rw [getD_set_ne false hjk] at hkl
          exact getD_set_true (hcl k ok hk hkl d hd hb)
      · by_cases hjk : j = k
        · rw [← hjk]; exact hun
        · rwa [getD_set_ne true hjk] at hun2
      · rw [Array.setIfInBounds_comm _ _ e]; exact h3.2.2
theorem takeB {i : Nat} {oi : Oper} {v : Value} {f : Nat} {l : Array Bool} {a : Act} {w : World} (d : Option Nat) (hi : ops[i]? = some oi) (hd : oi.dst = d) (hs : Region.noSelect ops = true) (hf : Region.free md ops l i = true)
    (hr : (Region.ready md ops l).contains i = true) (hB : waitB md ops B i = true) (hc : shutB md ops l = true) (hQ : ∀ c a w, Q (.panic c) (a.put d v) w → Q (.panic c) a w) (hy : YieldsIf P ops S oi v a) (hS : S w)
    (h : anyB P md ops Q S B f (l.setIfInBounds i true) (a.put d v) w) : anyB P md ops Q S B (f + 1) l a w := by
  subst hd
  exact takeB0 hi hs hQ hB f l a w (shutB_spec hc) (Region.free_spec hi hf) (by simpa using hr) hy hS h
theorem readyB1 {i f : Nat} {l : Array Bool} {a : Act} {w : World} (hr : Region.ready md ops l = [i]) (h : wpOp P ops Q i (fun a' w' => (B i = false → S w') ∧ anyB P md ops Q S B f (l.setIfInBounds i true) a' w') a w) : anyB P md ops Q S B (f + 1) l a w :=
  ⟨fun e => (by rw [e] at hr; cases hr), fun j hj => by
    rw [hr] at hj
    have := List.mem_singleton.1 hj
    subst this; exact h⟩
theorem readyB2 {i k f : Nat} {l : Array Bool} {a : Act} {w : World} (hr : Region.ready md ops l = [i, k]) (h : wpOp P ops Q i (fun a' w' => (B i = false → S w') ∧ anyB P md ops Q S B f (l.setIfInBounds i true) a' w') a w)
    (h2 : wpOp P ops Q k (fun a' w' => (B k = false → S w') ∧ anyB P md ops Q S B f (l.setIfInBounds k true) a' w') a w) : anyB P md ops Q S B (f + 1) l a w :=
  ⟨fun e => (by rw [e] at hr; cases hr), fun j hj => by
    rw [hr] at hj
    rcases List.mem_cons.1 hj with rfl | hj
    · exact h
    · have := List.mem_singleton.1 hj
      subst this; exact h2⟩
theorem opB {j f : Nat} {o : Oper} {l : Array Bool} {a : Act} {w : World} (hj : ops[j]? = some o) (hw : Region.wanted o (yielded ops a.tmps) = true)
    (h : ∀ K : Act → World → Prop, (∀ a' w', (B j = false → S w') ∧ anyB P md ops Q S B f (l.setIfInBounds j true) a' w' → K a' w') → Oper.wp P o a w K Q) :
    wpOp P ops Q j (fun a' w' => (B j = false → S w') ∧ anyB P md ops Q S B f (l.setIfInBounds j true) a' w') a w := by
  unfold wpOp
  rw [hj]
  dsimp only
  rw [if_pos hw]
  exact .inl (h _ fun _ _ k => k)
theorem doneB {l : Array Bool} {a : Act} {w : World} (hr : Region.ready md ops l = []) (h : Q .normal a w) : ∀ f, anyB P md ops Q S B f l a w
  | 0 => ⟨hr, h⟩
  | f + 1 => ⟨fun _ => h, fun j hj => absurd hj (by rw [hr]; exact List.not_mem_nil)⟩
end
/-- the operations from n on. -/
def lastB (n j : Nat) : Bool := decide (n ≤ j)
theorem cut4 {G : Prop} (R : World → Prop) (QQ : Value → Value → Value → Value → World → Prop) (pf : ∀ z1 z2 z3 z4 V, R V → QQ z1 z2 z3 z4 V) (main : (∀ z1 z2 z3 z4 V, R V → QQ z1 z2 z3 z4 V) → G) : G := main pf
end Go.Proofs.Ytipdmnfkigoanaa
