import Derived.Test.YtipdmnfkigoanaaIvK
namespace Go.Proofs.Ytipdmnfkigoanaa
open Go.RowKit
attribute [local go_sem] World.cell?_alloc_some frozen_alloc_some

/-! Areas: a set for each label. -/
abbrev Ar := List (List Sp)
theorem infoSl : (Try.prog.info? 64).map (fun i => (i.zero, i.size, i.bytes)) = some (some (.slice none 0 0), 1, 24) := by kernel_rfl
abbrev RdA (w : World) (v : Value) (a : Ar) : Prop := IsL 1 (rSl 2 rSpan 0) 0 (fun _ => 0) w v a
theorem RdA.keep {w w' : World} {v : Value} {a : Ar} (h : RdA w v a) (hb : Below w.heap.size w w') : RdA w' v a :=
  IsL.keep (D := fun _ => True) (by omega) (rSl_on (by omega) (rSpan_on _) trivial) trivial h (Same.below' hb)
theorem RdA.drewN {w : World} {v : Value} {a : Ar} (h : RdA w v a) (d : Nat) : RdA (w.drewN d) v a := h.keep (below_drewN _ _ _)
theorem RdA.get {w : World} {A : Option Addr} {cap n : Nat} {a : Ar} (h : RdA w (.slice A n cap) a) (i : Nat) (hi : i < a.length) :
    ∃ b o v, A = some ⟨b, o, none⟩ ∧ w.cell? ⟨b, o + i, none⟩ = some v ∧ RdS w v a[i] := h.getS i hi
theorem RdA.nil {w : World} : RdA w (.slice none 0 0) [] := ⟨none, 0, rfl, by simp, by simp, ⟨by simp, fun _ => rfl⟩, fun i hi => by simp at hi⟩
/-- the label's set. -/
def atA (a : Ar) (i : Nat) : List Sp := a.getD i []
theorem atA_lt {a : Ar} {i : Nat} (h : i < a.length) : atA a i = a[i] := by unfold atA; simp [List.getD, List.getElem?_eq_getElem h]
theorem atA_ge {a : Ar} {i : Nat} (h : a.length ≤ i) : atA a i = [] := by unfold atA; simp [List.getD, List.getElem?_eq_none h]
/-- few spans for each label. -/
def Sm (n : Nat) (a : Ar) : Prop := ∀ l ∈ a, l.length ≤ n
theorem Sm.at {n : Nat} {a : Ar} (h : Sm n a) (i : Nat) : (atA a i).length ≤ n := by
  by_cases c : i < a.length
  · rw [atA_lt c]; exact h _ (List.getElem_mem c)
  · rw [atA_ge (by omega)]; simp

set_option maxHeartbeats 1000000 in
theorem at_calls (w : World) (v : Value) (a : Ar) (i : Nat) (hr : RdA w v a) :
    Calls Try.prog 38 #[v, .int .i64 i] w fun e w' => ∃ u A c, u = .slice A (atA a i).length c ∧ e = .returned u ∧ RdS w u (atA a i) ∧ w = w' := by
  obtain ⟨A, cap, rfl, a1, a2, a3, -⟩ := id hr
  unfold maxLen at a2
  have HR := Lib.hid hr
  clear hr
  by_cases hlt : i < a.length
  · obtain ⟨b, o, u, rfl, hc, hu⟩ := HR.out.get i hlt
    have HU := Lib.hid hu
    obtain ⟨A', c', rfl, -⟩ := id hu
    have HA := Lib.hid (atA_lt hlt)
    clear hu
    go_enter Try.func38, Try.ntmps38
    go_wp2
    go_ret
    exact ⟨.slice A' a[i].length c', A', c', by rw [HA.out], rfl, by rw [HA.out]; exact HU.out, rfl⟩
  · have HA := Lib.hid (atA_ge (a := a) (i := i) (by omega))
    go_enter Try.func38, Try.ntmps38
    go_wp2
    go_ret
    exact ⟨.slice none 0 0, none, 0, by rw [HA.out]; rfl, rfl, by rw [HA.out]; exact RdS.nil, rfl⟩

/-- What a function does with two sets. -/
def DoSp (g : Nat) (Q : List Sp → List Sp → Nat → Prop) : Prop := ∀ (W : World) (v u : Value) (l m : List Sp), RdS W v l → RdS W u m → l.length ≤ 1000 → m.length ≤ 1000 →
  Calls Try.prog g #[v, u] W fun e w' => ∃ v' l', e = .returned v' ∧ NewS W.heap.size w' v' l' ∧ IsSet (Q l m) l' ∧ l'.length ≤ l.length + m.length + 1 ∧ Below W.heap.size W w'

/-- outer rows of color 1, inner ones of color 2. -/
def OwnA (base : Nat) (χ : Col) (w : World) (v : Value) (a : Ar) : Prop :=
  ∃ vs : List Value, w.ownsRow base 64 1 v a.length vs ∧ (∀ b, v.ownBlock = some b → χ b = 1) ∧ ∀ i (hi : i < a.length), rSl 2 rSpan 2 χ w ((vs.drop i).take 1) a[i]
theorem rSl_blind {c : Nat} {χ : Col} {w : World} {cs : List Value} {l : List Sp} (h : rSl 2 rSpan c χ w cs l) : rSl 2 rSpan 0 (fun _ => 0) w cs l := by
  obtain ⟨v, e, h⟩ := h
  exact ⟨v, e, h.blind⟩
theorem OwnA.rd {base : Nat} {χ : Col} {w : World} {v : Value} {a : Ar} (h : OwnA base χ w v a) (hl : a.length ≤ 1000000) : RdA w v a := by
  obtain ⟨vs, h1, h2, h3⟩ := h
  exact IsL.of_owns (by omega) h1 (by omega) (fun _ _ => rfl) fun i hi => rSl_blind (by simpa using h3 i hi)
theorem OwnA.keep {base : Nat} {χ χ' : Col} {w w' : World} {v : Value} {a : Ar} (h : OwnA base χ w v a) (hs : Same (fun x => x = 1 ∨ x = 2) χ χ' w w') : OwnA base χ' w' v a := by
  obtain ⟨vs, h1, h2, h3⟩ := h
  refine ⟨vs, owns_same h1 fun b e => (hs b (h1.lt b e).2 (.inl (h2 b e))).2, fun b e => (hs b (h1.lt b e).2 (.inl (h2 b e))).1.trans (h2 b e), fun i hi => ?_⟩
  exact rSl_on (D := fun x => x = 1 ∨ x = 2) (by omega) (rSpan_on _) (.inr rfl) _ _ _ _ _ _ (h3 i hi) hs
/-- one more set at the end. -/
theorem OwnA.push {base : Nat} {χ : Col} {w w1 : World} {v v' u : Value} {a : Ar} {l : List Sp} {vs : List Value}
    (h1 : w.ownsRow base 64 1 v a.length vs) (h2 : ∀ b, v.ownBlock = some b → χ b = 1) (h3 : ∀ i (hi : i < a.length), rSl 2 rSpan 2 χ w ((vs.drop i).take 1) a[i]) (hu : IsL 2 rSpan 2 χ w u l)
    (hown : w1.ownsRow base 64 1 v' (a.length + 1) (vs ++ [u])) (hg : (w.alloc (.cells #[u] 64)).grownBy w1 v.ownBlock) (hat : v'.ownBlock = v.ownBlock ∨ v'.ownBlock = some (w.alloc (.cells #[u] 64)).heap.size) :
    OwnA base (paint χ w.heap.size 1) w1 v' (a ++ [l]) := by
  obtain ⟨k1, k2⟩ := own_push h1 h2 hg hat
  have hs : Same (fun x => x = 2) χ (paint χ w.heap.size 1) w w1 := Same.chg 1 k2 fun x e => by omega
  have hvs : vs.length = a.length := by have := h1.1; simpa using this
  refine ⟨vs ++ [u], by rw [List.length_append]; exact hown, k1, fun i hi => ?_⟩
  by_cases hi' : i < a.length
  · rw [List.getElem_append_left hi', List.drop_append_of_le_length (by omega), List.take_append_of_le_length (by simp; omega)]
    exact rSl_on (D := fun x => x = 2) (by omega) (rSpan_on _) rfl _ _ _ _ _ _ (h3 i hi') hs
  · have hie : i = a.length := by simp at hi; omega
    subst hie
    have e1 : List.take 1 (List.drop a.length (vs ++ [u])) = [u] := by rw [← hvs, List.drop_left]; rfl
    rw [List.getElem_append_right (by omega), e1]
    simp only [Nat.sub_self, List.getElem_cons_zero]
    exact ⟨u, rfl, IsL.keep (D := fun x => x = 2) (by omega) (rSpan_on _) rfl hu hs⟩
end Go.Proofs.Ytipdmnfkigoanaa
