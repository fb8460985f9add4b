import Derived.Test.YtcdldjiogoapkaaSgA
import Derived.Deep.RegionHeld3
namespace Go.Proofs.Ytcdldjiogoapkaa
open Go.RowKit

attribute [local go_sem] World.cell?_alloc_some frozen_alloc_some

/-- A node. -/
structure Nd where
  l : Int
  r : Int
  a : Ag
  k : Bool
def Nd.zero : Nd := ⟨0, 0, Ag.zero, false⟩
abbrev Nd.val (n : Nd) : Value := .agg #[.int .i32 n.l, .int .i32 n.r, .int .i64 n.a.c, .int .i64 n.a.s, .int .i64 n.a.mn, .int .i64 n.a.mx, .bool n.k]
def Nd.cells (n : Nd) : List Value := [.int .i32 n.l, .int .i32 n.r, .int .i64 n.a.c, .int .i64 n.a.s, .int .i64 n.a.mn, .int .i64 n.a.mx, .bool n.k]

def getN (ns : List Nd) (i : Int) : Nd := if i < 1 then Nd.zero else ns.getD (i - 1).toNat Nd.zero
def setN (ns : List Nd) (i : Int) (n : Nd) : List Nd := if i < 1 then ns else ns.set (i - 1).toNat n

/-- An arena at block qa, of color c; its row of color c + 1. -/
def ArAt (c : Nat) (χ : Col) (w : World) (qa : Nat) (ns : List Nd) (lim : Int) : Prop :=
  ∃ rv, χ qa = c ∧ w.cell? ⟨qa, 0, none⟩ = some rv ∧ w.frozen? ⟨qa, 0, none⟩ = false ∧ w.cell? ⟨qa, 1, none⟩ = some (.int .i64 lim) ∧ w.frozen? ⟨qa, 1, none⟩ = false ∧
    w.ownsRow 0 95 7 rv ns.length (ns.flatMap Nd.cells) ∧ (∀ b, rv.ownBlock = some b → χ b = c + 1) ∧ ns.length ≤ 4194304 ∧ lim ≤ 4194304

theorem there_calls (w : World) (qa : Nat) (i : Int) {c : Nat} {χ : Col} {ns : List Nd} {lim : Int} (h : ArAt c χ w qa ns lim) (i0 : 0 ≤ i) (i1 : i ≤ ns.length) :
    Calls Try.prog 62 #[.pointer (some ⟨qa, 0, none⟩), .int .i32 i] w fun e w' => e = .returned (.bool (decide (1 ≤ i))) ∧ w' = w := by
  obtain ⟨rv, h0, h1, h2, h3, h4, h5, h6, h7, h8⟩ := h
  obtain ⟨A, cap, rfl⟩ := owns_form h5
  have hw : wrap64 i = i := by unfold wrap64; omega
  go_enter Try.func62, Try.ntmps62
  go_wp2
  all_goals go_ret
  all_goals exact ⟨ret_bool (by simp; omega), rfl⟩

theorem nodes_at {w : World} {v : Value} {ns : List Nd} (h : w.ownsRow 0 95 7 v ns.length (ns.flatMap Nd.cells)) (k : Nat) (hk : k < ns.length) :
    ∃ g cap, v = .slice (some ⟨g, 0, none⟩) ns.length cap ∧ ns.length ≤ cap ∧ cap ≤ maxLen ∧ (∀ o, w.frozen? ⟨g, o, none⟩ = false) ∧ ∀ j u, ns[k].cells[j]? = some u → w.cell? ⟨g, k * 7 + j, none⟩ = some u := by
  obtain ⟨A, cap, rfl⟩ := owns_form h
  obtain ⟨k1, (⟨e, h0⟩ | ⟨g, _, cur, e, hg, hh, hcap, hmax, hsz, htk⟩)⟩ := id h
  · omega
  · cases e
    refine ⟨g, cap, rfl, hcap, hmax, fun o => by simp [World.frozen?, hh], fun j u hu => ?_⟩
    have hj : j < 7 := by have := (List.getElem?_eq_some_iff.1 hu).1; simpa [Nd.cells] using this
    have e1 : (ns.flatMap Nd.cells)[k * 7 + j]? = some u := by
      clear h k1 htk hsz hh hcap
      induction ns generalizing k with
      | nil => simp at hk
      | cons a ns ih =>
        cases k with
        | zero => simp only [List.flatMap_cons]; rw [List.getElem?_append_left (by simp [Nd.cells]; omega)]; simpa using hu
        | succ k =>
          rw [List.flatMap_cons, List.getElem?_append_right (by simp [Nd.cells]; omega)]
          have := ih k (by simpa using hk) (by simpa using hu)
          rw [← this]
          congr 1
          simp [Nd.cells]; omega
    have := h.cells (g := g) rfl _ _ e1
    have e2 : (⟨g, 0, none⟩ : Addr).add (k * 7 + j) = ⟨g, k * 7 + j, none⟩ := by unfold Addr.add; split <;> simp_all
    rwa [e2] at this

theorem getN_zero (ns : List Nd) : getN ns 0 = Nd.zero := rfl
theorem getN_succ (ns : List Nd) (k : Nat) (hk : k < ns.length) : getN ns ((k : Int) + 1) = ns[k] := by
  unfold getN
  rw [if_neg (by omega)]
  have : ((k : Int) + 1 - 1).toNat = k := by omega
  rw [this]
  simp [hk]

theorem setN_succ (ns : List Nd) (k : Nat) (n : Nd) : setN ns ((k : Int) + 1) n = ns.set k n := by
  unfold setN
  rw [if_neg (by omega), show ((k : Int) + 1 - 1).toNat = k from by omega]

theorem ArAt.keep {c : Nat} {χ χ' : Col} {w w' : World} {qa : Nat} {ns : List Nd} {lim : Int} (h : ArAt c χ w qa ns lim) (hs : Same (fun x => x = c ∨ x = c + 1) χ χ' w w') : ArAt c χ' w' qa ns lim := by
  obtain ⟨rv, h0, h1, h2, h3, h4, h5, h6, h7⟩ := h
  have hq := World.block_lt_of_cell? w _ h1
  obtain ⟨hx, hb⟩ := hs qa hq (.inl h0)
  exact ⟨rv, hx.trans h0, (World.cell?_of_block hb).trans h1, (World.frozen?_of_block hb).trans h2, (World.cell?_of_block hb).trans h3, (World.frozen?_of_block hb).trans h4,
    owns_same h5 fun b e => (hs b (h5.lt b e).2 (.inr (h6 b e))).2, fun b e => ((hs b (h5.lt b e).2 (.inr (h6 b e))).1).trans (h6 b e), h7⟩

theorem get_calls (w : World) (qa : Nat) (i : Int) {c : Nat} {χ : Col} {ns : List Nd} {lim : Int} (h : ArAt c χ w qa ns lim) (i0 : 0 ≤ i) (i1 : i ≤ ns.length) :
    Calls Try.prog 61 #[.pointer (some ⟨qa, 0, none⟩), .int .i32 i] w fun e w' =>
      (∃ u, e = .returned (.tuple #[(getN ns i).val, u])) ∧ Below w.heap.size w w' := by
  have H : ∀ o, ArAt c χ (w.alloc o) qa ns lim := fun o => h.keep (Same.below' ((Below.refl _ w).alloc (Nat.le_refl _) o))
  have HH := Lib.hid H
  clear H
  obtain ⟨rv, h0, h1, h2, h3, h4, h5, h6, h7, h8⟩ := h
  have n1 := World.new_ne w _ h1
  by_cases hi : i = 0
  · subst hi
    go_enter Try.func61, Try.ntmps61
    go_wp2_with fail
    refine (there_calls _ _ 0 (HH.out _) (by omega) (by omega)).mono ?_
    rintro e w1 ⟨rfl, rfl⟩
    go_wp2
    refine bodyPost_ret (v := .tuple #[Nd.zero.val, .int .i64 4]) (by simp [results, Try.results61, go_sem, Nd.zero, Ag.zero]) rfl ⟨⟨_, rfl⟩, ?_⟩
    exact (Below.refl _ w).alloc (Nat.le_refl _) _
  · obtain ⟨k, rfl⟩ : ∃ k : Nat, i = (k : Int) + 1 := ⟨(i - 1).toNat, by omega⟩
    have hk : k < ns.length := by omega
    rw [getN_succ _ _ hk]
    obtain ⟨g, cap, rfl, hcap, hmax, hfr, hcs⟩ := nodes_at h5 k hk
    have c0 : w.cell? ⟨g, k * 7, none⟩ = some (.int .i32 ns[k].l) := hcs 0 _ rfl
    have c1 := hcs 1 _ rfl
    have c2 := hcs 2 _ rfl
    have c3 := hcs 3 _ rfl
    have c4 := hcs 4 _ rfl
    have c5 := hcs 5 _ rfl
    have c6 := hcs 6 _ rfl
    have n2 := World.new_ne w _ c0
    go_enter Try.func61, Try.ntmps61
    go_wp2_with fail
    refine (there_calls _ _ (k + 1) (HH.out _) (by omega) (by omega)).mono ?_
    rintro e w1 ⟨rfl, rfl⟩
    rw [show decide ((1 : Int) ≤ (k : Int) + 1) = true from by simp; omega]
    go_wp2
    refine bodyPost_ret (v := .tuple #[ns[k].val, .int .i64 0]) (by simp [results, Try.results61, go_sem]) rfl ⟨⟨_, rfl⟩, ?_⟩
    exact (Below.refl _ w).alloc (Nat.le_refl _) _

/-- What a call does that turns an arena: it is as told, and nothing else has turned. -/
def ArTo (c : Nat) (χ : Col) (w w' : World) (qa : Nat) (ns : List Nd) (lim : Int) : Prop :=
  ∃ χ', (∀ b, b < w.heap.size → χ' b = χ b) ∧ ArAt c χ' w' qa ns lim ∧ Chg χ (fun x => x = c ∨ x = c + 1) w w'

theorem setN_cells (ns : List Nd) (k : Nat) (n : Nd) (hk : k < ns.length) :
    (((((((ns.flatMap Nd.cells).set (k * 7) (.int .i32 n.l)).set (k * 7 + 1) (.int .i32 n.r)).set (k * 7 + 2) (.int .i64 n.a.c)).set (k * 7 + 3) (.int .i64 n.a.s)).set (k * 7 + 4) (.int .i64 n.a.mn)).set (k * 7 + 5) (.int .i64 n.a.mx)).set (k * 7 + 6) (.bool n.k)
      = (ns.set k n).flatMap Nd.cells := by
  induction ns generalizing k with
  | nil => simp at hk
  | cons a ns ih =>
    cases k with
    | zero => simp [Nd.cells]
    | succ k =>
      have h7 : ∀ j, (k + 1) * 7 + j = 7 + (k * 7 + j) := fun j => by omega
      have h70 : (k + 1) * 7 = 7 + k * 7 := by omega
      have hs : ∀ (l : List Value) j v, (a.cells ++ l).set (7 + j) v = a.cells ++ l.set j v := fun l j v => by
        rw [List.set_append_right _ _ (by simp [Nd.cells])]
        congr 2
        simp [Nd.cells]
      simp only [List.flatMap_cons, List.set_cons_succ, h7]
      rw [h70, hs, hs, hs, hs, hs, hs, hs, ← ih k (by simpa using hk)]

theorem cells_len (ns : List Nd) : (ns.flatMap Nd.cells).length = ns.length * 7 := by
  induction ns with
  | nil => rfl
  | cons a ns ih => simp [ih, Nd.cells]; omega

/-- A node's seven cells are stored. -/
def setNW (w : World) (g o : Nat) (n : Nd) : World :=
  ((((((w.setCell ⟨g, o, none⟩ (.int .i32 n.l)).setCell ⟨g, o + 1, none⟩ (.int .i32 n.r)).setCell ⟨g, o + 2, none⟩ (.int .i64 n.a.c)).setCell ⟨g, o + 3, none⟩ (.int .i64 n.a.s)).setCell ⟨g, o + 4, none⟩ (.int .i64 n.a.mn)).setCell
    ⟨g, o + 5, none⟩ (.int .i64 n.a.mx)).setCell ⟨g, o + 6, none⟩ (.bool n.k)
theorem setNW_chg {χ : Col} {C : Nat → Prop} (w : World) (g o : Nat) (n : Nd) (hc : C (χ g)) : Chg χ C w (setNW w g o n) :=
  ((((((Chg.setCell w ⟨g, o, none⟩ _ hc).step (.setCell _ ⟨g, o + 1, none⟩ _ hc)).step (.setCell _ ⟨g, o + 2, none⟩ _ hc)).step (.setCell _ ⟨g, o + 3, none⟩ _ hc)).step
    (.setCell _ ⟨g, o + 4, none⟩ _ hc)).step (.setCell _ ⟨g, o + 5, none⟩ _ hc)).step (.setCell _ ⟨g, o + 6, none⟩ _ hc)
theorem setNW_owns {w : World} {base k g cap : Nat} {n : Nd} {ns : List Nd} (h : w.ownsRow base 95 7 (.slice (some ⟨g, 0, none⟩) ns.length cap) ns.length (ns.flatMap Nd.cells)) (hk : k < ns.length) :
    (setNW w g (k * 7) n).ownsRow base 95 7 (.slice (some ⟨g, 0, none⟩) ns.length cap) ns.length ((ns.set k n).flatMap Nd.cells) := by
  rw [← setN_cells _ _ _ hk]
  exact owns_setCell (owns_setCell (owns_setCell (owns_setCell (owns_setCell (owns_setCell (owns_setCell h))))))

theorem set_close {w W : World} {qa g cap k c : Nat} {n : Nd} {χ : Col} {ns : List Nd} {lim : Int} (o : Obj) (h0 : χ qa = c) (h1 : w.cell? ⟨qa, 0, none⟩ = some (.slice (some ⟨g, 0, none⟩) ns.length cap))
    (h2 : w.frozen? ⟨qa, 0, none⟩ = false) (h3 : w.cell? ⟨qa, 1, none⟩ = some (.int .i64 lim)) (h4 : w.frozen? ⟨qa, 1, none⟩ = false)
    (h5 : w.ownsRow 0 95 7 (.slice (some ⟨g, 0, none⟩) ns.length cap) ns.length (ns.flatMap Nd.cells)) (h6 : ∀ b, (Value.slice (some ⟨g, 0, none⟩) ns.length cap).ownBlock = some b → χ b = c + 1)
    (h7 : ns.length ≤ 4194304) (h8 : lim ≤ 4194304) (hk : k < ns.length) (hW : W = (setNW (w.alloc o) g (k * 7) n).drew) : ArTo c χ w W qa (setN ns ((k : Int) + 1) n) lim := by
  subst hW
  have hg : χ g = c + 1 := h6 g rfl
  have hqg : qa ≠ g := fun e => by subst e; omega
  have hC : ∀ (χ : Col) (C : Nat → Prop), C (χ g) → Chg χ C w (setNW (w.alloc o) g (k * 7) n).drew := fun χ C hc => ((Chg.of_below ((Below.refl _ w).alloc (Nat.le_refl _) o)).step (setNW_chg _ _ _ _ hc)).drew
  have hR : (setNW (w.alloc o) g (k * 7) n).drew.ownsRow 0 95 7 (.slice (some ⟨g, 0, none⟩) ns.length cap) ns.length ((ns.set k n).flatMap Nd.cells) := owns_drew (setNW_owns (h5.alloc o) hk)
  have hB := (hC (fun b => b) (· = g) rfl).blk qa (World.block_lt_of_cell? w _ h1) hqg
  rw [setN_succ]
  have e1 := (World.cell?_of_block (a := ⟨qa, 0, none⟩) hB).trans h1
  have e2 := (World.frozen?_of_block (a := ⟨qa, 0, none⟩) hB).trans h2
  have e3 := (World.cell?_of_block (a := ⟨qa, 1, none⟩) hB).trans h3
  have e4 := (World.frozen?_of_block (a := ⟨qa, 1, none⟩) hB).trans h4
  have e5 : (ns.set k n).length = ns.length := List.length_set
  refine ⟨χ, fun _ _ => rfl, ⟨.slice (some ⟨g, 0, none⟩) ns.length cap, h0, e1, e2, e3, e4, ?_, h6, ?_, h8⟩, hC χ _ (.inr hg)⟩
  · rw [e5]; exact hR
  · rw [e5]; exact h7

theorem set_calls (w : World) (qa : Nat) (i : Int) (n : Nd) {c : Nat} {χ : Col} {ns : List Nd} {lim : Int} (h : ArAt c χ w qa ns lim) (i0 : 1 ≤ i) (i1 : i ≤ ns.length) :
    Calls Try.prog 47 #[.pointer (some ⟨qa, 0, none⟩), .int .i32 i, n.val] w fun e w' =>
      e = .returned (.int .i64 0) ∧ ArTo c χ w w' qa (setN ns i n) lim := by
  have H : ∀ o, ArAt c χ (w.alloc o) qa ns lim := fun o => h.keep (Same.below' ((Below.refl _ w).alloc (Nat.le_refl _) o))
  have HH := Lib.hid H
  clear H
  obtain ⟨rv, h0, h1, h2, h3, h4, h5, h6, h7, h8⟩ := h
  have n1 := World.new_ne w _ h1
  obtain ⟨k, rfl⟩ : ∃ k : Nat, i = (k : Int) + 1 := ⟨(i - 1).toNat, by omega⟩
  have hk : k < ns.length := by omega
  obtain ⟨g, cap, rfl, hcap, hmax, hfr, hcs⟩ := nodes_at h5 k hk
  have c0 : w.cell? ⟨g, k * 7, none⟩ = some (.int .i32 ns[k].l) := hcs 0 _ rfl
  have c1 := hcs 1 _ rfl
  have c2 := hcs 2 _ rfl
  have c3 := hcs 3 _ rfl
  have c4 := hcs 4 _ rfl
  have c5 := hcs 5 _ rfl
  have c6 := hcs 6 _ rfl
  have n2 := World.new_ne w _ c0
  have f0 := hfr (k * 7)
  have f1 := hfr (k * 7 + 1)
  have f2 := hfr (k * 7 + 2)
  have f3 := hfr (k * 7 + 3)
  have f4 := hfr (k * 7 + 4)
  have f5 := hfr (k * 7 + 5)
  have f6 := hfr (k * 7 + 6)
  go_enter Try.func47, Try.ntmps47
  go_wp2_with fail
  refine (there_calls _ _ (k + 1) (HH.out _) (by omega) (by omega)).mono ?_
  rintro e w1 ⟨rfl, rfl⟩
  rw [show decide ((1 : Int) ≤ (k : Int) + 1) = true from by simp; omega]
  go_wp2
  go_region
  all_goals go_wp2
  go_ret
  exact ⟨rfl, set_close _ h0 h1 h2 h3 h4 h5 h6 h7 h8 hk rfl⟩
end Go.Proofs.Ytcdldjiogoapkaa
