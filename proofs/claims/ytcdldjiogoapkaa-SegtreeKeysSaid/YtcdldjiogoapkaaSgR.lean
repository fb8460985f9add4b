import Derived.Test.YtcdldjiogoapkaaSgQ
import Derived.Test.YtcdldjiogoapkaaRG
import Derived.Stop.RegionWithIn
import Derived.BigRegionIn
namespace Go.Proofs.Ytcdldjiogoapkaa
open Go.RowKit
attribute [local go_sem] World.cell?_alloc_some frozen_alloc_some field_na field_ac field_as

/-- What walk hands out, and how it leaves the row of nodes. -/
def walkT : Nat → List Nd → Int → Nat → List (Nat × Int) × List Nd
  | 0, ns, i, lo => if i = 0 ∨ (getN ns i).a.c = 0 then ([], ns) else ([(lo, (getN ns i).a.s)], ns)
  | h + 1, ns, i, lo =>
    if i = 0 ∨ (getN ns i).a.c = 0 then ([], ns)
    else ((walkT h (pushN ns i).2 (pushN ns i).1.l lo).1 ++ (walkT h (walkT h (pushN ns i).2 (pushN ns i).1.l lo).2 (pushN ns i).1.r (lo + 2 ^ h)).1,
      (walkT h (walkT h (pushN ns i).2 (pushN ns i).1.l lo).2 (pushN ns i).1.r (lo + 2 ^ h)).2)

theorem walkT_ok (h : Nat) : ∀ (ns : List Nd) (i : Int) (lo : Nat), OkN ns → OkN (walkT h ns i lo).2 ∧ (walkT h ns i lo).2.length = ns.length := by
  induction h with
  | zero => intro ns i lo ok; unfold walkT; split <;> exact ⟨ok, rfl⟩
  | succ h ih =>
    intro ns i lo ok
    unfold walkT
    split
    · exact ⟨ok, rfl⟩
    · have h1 := ih (pushN ns i).2 (pushN ns i).1.l lo (ok.push i)
      have h2 := ih _ (pushN ns i).1.r (lo + 2 ^ h) h1.1
      exact ⟨h2.1, h2.2.trans (h1.2.trans (pushN_len ns i))⟩

/-- As Trk; blocks of colors Co may have turned too. -/
structure TrkJ (c : Nat) (Co : Nat → Prop) (χ0 : Col) (w0 : World) (χ : Col) (W : World) (pt : Nat) (ns : List Nd) (root lim : Int) : Prop where
  ag : ∀ b, b < w0.heap.size → χ b = χ0 b
  tr : TrAt c χ W pt ns root lim
  chg : Chg χ0 (fun x => Co x ∨ (c ≤ x ∧ x ≤ c + 2)) w0 W

variable {c pt : Nat} {Co : Nat → Prop} {χ0 χ χ' : Col} {w0 W W' : World} {ns ns' : List Nd} {root root' lim : Int} {b : Nat} {o : Obj}
theorem TrkJ.start (h : TrAt c χ0 w0 pt ns root lim) : TrkJ c Co χ0 w0 χ0 w0 pt ns root lim := ⟨fun _ _ => rfl, h, Chg.of_below (Below.refl _ _)⟩
theorem TrkJ.below (k : TrkJ c Co χ0 w0 χ W pt ns root lim) (hb : Below W.heap.size W W') : TrkJ c Co χ0 w0 (paint χ W.heap.size (c + 3)) W' pt ns root lim :=
  ⟨fun b h => (paint_low (Nat.lt_of_lt_of_le h k.chg.size)).trans (k.ag b h), k.tr.keep (Same.below (c + 3) hb), k.chg.step (Chg.of_below hb)⟩
theorem TrkJ.to (k : TrkJ c Co χ0 w0 χ W pt ns root lim) {C : Nat → Prop} (hC : ∀ x, C x → Co x ∨ (c ≤ x ∧ x ≤ c + 2)) (ag : ∀ b, b < W.heap.size → χ' b = χ b) (hc : Chg χ C W W') (ht : TrAt c χ' W' pt ns' root' lim) : TrkJ c Co χ0 w0 χ' W' pt ns' root' lim :=
  ⟨fun b h => (ag b (Nat.lt_of_lt_of_le h k.chg.size)).trans (k.ag b h), ht, k.chg.trans (χ' := fun b => if b < w0.heap.size then χ0 b else χ b) (fun b hb => if_pos hb) (by
    refine ⟨hc.os, hc.tape, hc.output, hc.size, fun b hb hn => hc.blk b hb fun hx => hn ?_⟩
    have := hC _ hx
    by_cases hb0 : b < w0.heap.size
    · rw [if_pos hb0]; rw [k.ag b hb0] at this; exact this
    · rw [if_neg hb0]; exact this)⟩
theorem TrkJ.call (k : TrkJ c Co χ0 w0 χ W pt ns root lim) (h : TrTo c χ W W' pt ns' root' lim) :
    ∃ χ', (∀ b, b < W.heap.size → χ' b = χ b) ∧ TrkJ c Co χ0 w0 χ' W' pt ns' root' lim ∧ Chg χ (fun x => c ≤ x ∧ x ≤ c + 2) W W' := by
  obtain ⟨χ', h1, h2, h3⟩ := h
  exact ⟨χ', h1, k.to (fun _ => .inr) h1 h3 h2, h3⟩
theorem TrkJ.round (k : TrkJ c Co χ0 w0 χ W pt ns root lim) (hCo : ∀ x, c ≤ x → x ≤ c + 3 → ¬ Co x) (ag : ∀ b, b < W.heap.size → χ' b = χ b) (hc : Chg χ Co W W') : TrkJ c Co χ0 w0 χ' W' pt ns root lim :=
  k.to (fun _ => .inl) ag hc (k.tr.keep (Same.chg' hc ag fun x hx => hCo x hx.1 (by omega)))
theorem Loc.round (l : Loc c w0 χ W b o) (hCo : ∀ x, c ≤ x → x ≤ c + 3 → ¬ Co x) (ag : ∀ b, b < W.heap.size → χ' b = χ b) (hc : Chg χ Co W W') : Loc c w0 χ' W' b o := by
  have hlt := (Array.getElem?_eq_some_iff.1 l.at_).1
  exact ⟨l.own, (ag b hlt).trans l.col, (hc.blk b hlt (by rw [l.col]; exact hCo _ (by omega) (by omega))).trans l.at_⟩
theorem Loc.newJ (k : TrkJ c Co χ0 w0 χ W pt ns root lim) (o : Obj) : Loc c w0 (paint χ W.heap.size (c + 3)) (W.alloc o) W.heap.size o := ⟨k.chg.size, paint_high (Nat.le_refl _), heap_alloc_at W o⟩

/-- What a walk leaves, having come to its end or not. -/
def WalkEnd (c : Nat) (Co : Nat → Prop) (χ : Col) (W : World) (pt : Nat) (root lim : Int) (J Jx : List (Nat × Int) → Col → World → Prop) (xs p0 : List (Nat × Int)) (r : List (Nat × Int) × List Nd) (e : Ending) (W' : World) : Prop :=
  ∃ χ2, ((e = .returned (.bool true) ∧ TrkJ c Co χ W χ2 W' pt r.2 root lim ∧ J (p0 ++ r.1) χ2 W') ∨
    (e = .returned (.bool false) ∧ (∀ b, b < W.heap.size → χ2 b = χ b) ∧ Chg χ (fun x => Co x ∨ (c ≤ x ∧ x ≤ c + 2)) W W' ∧ ∃ pre, pre <+: xs ∧ Jx pre χ2 W'))

/-- What a round does. -/
def Rounds (Co : Nat → Prop) (l : Nat) (J Jx : List (Nat × Int) → Col → World → Prop) (xs : List (Nat × Int)) : Prop :=
  ∀ m pre x rest χ1 U, xs = pre ++ x :: rest → J pre χ1 U → YieldAt Fence.wide m Try.prog l #[.int .u32 x.1, .int .i64 x.2] U fun e W' => ∃ χ2, (∀ b, b < U.heap.size → χ2 b = χ1 b) ∧ Chg χ1 Co U W' ∧
      ((e = .returned (.bool true) ∧ J (pre ++ [x]) χ2 W') ∨ (e = .returned (.bool false) ∧ Jx (pre ++ [x]) χ2 W'))
def Stays (Co : Nat → Prop) (J : List (Nat × Int) → Col → World → Prop) : Prop := ∀ pre χ1 χ2 U U', J pre χ1 U → Same Co χ1 χ2 U U' → J pre χ2 U'

set_option maxRecDepth 100000 in
set_option maxHeartbeats 4000000 in
theorem walk_none (n : Nat) (w : World) (pt lo h l : Nat) {χ : Col} {ns : List Nd} {J Jx : List (Nat × Int) → Col → World → Prop} {xs p0 : List (Nat × Int)} (hT : TrAt c χ w pt ns root lim) (_hCo : ∀ x, c ≤ x → x ≤ c + 3 → ¬ Co x)
    (hJ : Hid (Stays Co J)) (h0 : Hid (J p0 χ w)) :
    CallsIn Fence.wide n Try.prog 57 #[.pointer (some ⟨pt, 0, none⟩), .int .i32 0, blk lo h, .func (.yield l) #[] #[]] w (WalkEnd c Co χ w pt root lim J Jx xs p0 ([], ns)) := by
  refine callsIn_of_wp Try.func57 rfl trivial ?_ rfl
  simp only [Try.ntmps57, List.size_toArray, List.length_cons, List.length_nil, Nat.reduceAdd, Nat.reduceSub, Array.replicate_succ, Array.replicate_zero, List.push_toArray, List.append_toArray, List.nil_append, List.cons_append]
  have hb := (Below.refl _ w).alloc (Nat.le_refl _) (BoxB lo h)
  gi_wp2
  refine ⟨trivial, ?_⟩
  gi_wp2
  go_ret
  refine ⟨_, .inl ⟨rfl, (TrkJ.start hT).below hb, ?_⟩⟩
  rw [List.append_nil]
  exact hJ.out _ _ _ _ _ h0.out (Same.below (c + 3) hb)

set_option maxRecDepth 100000 in
set_option maxHeartbeats 4000000 in
theorem walk_dead (n : Nat) (w : World) (pt lo h l : Nat) (i : Int) {χ : Col} {ns : List Nd} {J Jx : List (Nat × Int) → Col → World → Prop} {xs p0 : List (Nat × Int)} (hT : TrAt c χ w pt ns root lim) (_hCo : ∀ x, c ≤ x → x ≤ c + 3 → ¬ Co x)
    (hi : 1 ≤ i) (i1 : i ≤ ns.length) (hc : Hid ((getN ns i).a.c = 0)) (hJ : Hid (Stays Co J)) (h0 : Hid (J p0 χ w)) :
    CallsIn Fence.wide n Try.prog 57 #[.pointer (some ⟨pt, 0, none⟩), .int .i32 i, blk lo h, .func (.yield l) #[] #[]] w (WalkEnd c Co χ w pt root lim J Jx xs p0 ([], ns)) := by
  have hne : ¬ i = 0 := by omega
  have hb := (Below.refl _ w).alloc (Nat.le_refl _) (BoxB lo h)
  have K0 := (TrkJ.start (Co := Co) hT).below hb
  refine callsIn_of_wp Try.func57 rfl trivial ?_ rfl
  simp only [Try.ntmps57, List.size_toArray, List.length_cons, List.length_nil, Nat.reduceAdd, Nat.reduceSub, Array.replicate_succ, Array.replicate_zero, List.push_toArray, List.append_toArray, List.nil_append, List.cons_append]
  gi_wp2_with (refine ⟨trivial, wide_n, ?_⟩; gi_at_call 44; refine (callsIn_wide.2 (at_calls _ _ i K0.tr (by omega) i1)).mono ?_; rintro e w1 ⟨rfl, hb1⟩; have hc' := hc.out; simp only [Nd.val])
  go_ret
  refine ⟨_, .inl ⟨rfl, K0.below hb1, ?_⟩⟩
  rw [List.append_nil]
  exact hJ.out _ _ _ _ _ (hJ.out _ _ _ _ _ h0.out (Same.below (c + 3) hb)) (Same.below (c + 3) hb1)
end Go.Proofs.Ytcdldjiogoapkaa
