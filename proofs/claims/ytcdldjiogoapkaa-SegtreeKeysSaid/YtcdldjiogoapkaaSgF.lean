import Derived.Test.YtcdldjiogoapkaaSgE
import Derived.Deep.RegionHeld3
namespace Go.Proofs.Ytcdldjiogoapkaa
open Go.RowKit
attribute [local go_sem] World.cell?_alloc_some frozen_alloc_some field_na field_ac field_as

/-- Within a call that began at w0, where a tree at pt lay under χ0: how it stands at W, under χ. -/
structure Trk (c : Nat) (χ0 : Col) (w0 : World) (χ : Col) (W : World) (pt : Nat) (ns : List Nd) (root lim : Int) : Prop where
  ag : ∀ b, b < w0.heap.size → χ b = χ0 b
  tr : TrAt c χ W pt ns root lim
  chg : Chg χ0 (fun x => c ≤ x ∧ x ≤ c + 2) w0 W
/-- A block of the call's own: no part of the tree. -/
structure Loc (c : Nat) (w0 : World) (χ : Col) (W : World) (b : Nat) (o : Obj) : Prop where
  own : w0.heap.size ≤ b
  col : χ b = c + 3
  at_ : W.heap[b]? = some o

variable {c pt : Nat} {χ0 χ χ' : Col} {w0 W W' : World} {ns ns' : List Nd} {root root' lim : Int} {b : Nat} {o : Obj}

theorem Trk.start (h : TrAt c χ0 w0 pt ns root lim) : Trk c χ0 w0 χ0 w0 pt ns root lim := ⟨fun _ _ => rfl, h, Chg.of_below (Below.refl _ _)⟩
theorem Trk.below (k : Trk c χ0 w0 χ W pt ns root lim) (hb : Below W.heap.size W W') : Trk c χ0 w0 (paint χ W.heap.size (c + 3)) W' pt ns root lim :=
  ⟨fun b h => (paint_low (Nat.lt_of_lt_of_le h k.chg.size)).trans (k.ag b h), k.tr.keep (Same.below (c + 3) hb), k.chg.step (Chg.of_below hb)⟩
theorem Trk.call (k : Trk c χ0 w0 χ W pt ns root lim) (h : TrTo c χ W W' pt ns' root' lim) :
    ∃ χ', (∀ b, b < W.heap.size → χ' b = χ b) ∧ Trk c χ0 w0 χ' W' pt ns' root' lim ∧ Chg χ (fun x => c ≤ x ∧ x ≤ c + 2) W W' := by
  obtain ⟨χ', h1, h2, h3⟩ := h
  refine ⟨χ', h1, ⟨fun b h => (h1 b (Nat.lt_of_lt_of_le h k.chg.size)).trans (k.ag b h), h2, k.chg.trans (χ' := fun b => if b < w0.heap.size then χ0 b else χ b) (fun b hb => if_pos hb) ⟨h3.os, h3.tape, h3.output, h3.size, fun b hb hc => h3.blk b hb ?_⟩⟩, h3⟩
  by_cases hb0 : b < w0.heap.size
  · rw [if_pos hb0] at hc; rw [k.ag b hb0]; exact hc
  · rw [if_neg hb0] at hc; exact hc
theorem Trk.to (k : Trk c χ0 w0 χ W pt ns root lim) : TrTo c χ0 w0 W pt ns root lim := ⟨χ, k.ag, k.tr, k.chg⟩
theorem Trk.set (k : Trk c χ0 w0 χ W pt ns root lim) (l : Loc c w0 χ W b o) (i : Nat) (v : Value) : Trk c χ0 w0 χ (W.setCell ⟨b, i, none⟩ v) pt ns root lim :=
  ⟨k.ag, k.tr.keep (Same.chg' (C := (· = c + 3)) (Chg.setCell W ⟨b, i, none⟩ v l.col) (fun _ _ => rfl) (fun x hx => by omega)),
    ⟨k.chg.os, k.chg.tape, k.chg.output, by simp [World.setCell]; exact k.chg.size, fun b' hb' hc => (Below.heap_setCell _ _ _ _ (by have := l.own; show b' ≠ b; omega)).trans (k.chg.blk b' hb' hc)⟩⟩

theorem Loc.new (k : Trk c χ0 w0 χ W pt ns root lim) (o : Obj) : Loc c w0 (paint χ W.heap.size (c + 3)) (W.alloc o) W.heap.size o := ⟨k.chg.size, paint_high (Nat.le_refl _), heap_alloc_at W o⟩
theorem Loc.below (l : Loc c w0 χ W b o) (hb : Below W.heap.size W W') : Loc c w0 (paint χ W.heap.size (c + 3)) W' b o :=
  ⟨l.own, (paint_low (Array.getElem?_eq_some_iff.1 l.at_).1).trans l.col, kept_at hb l.at_⟩
theorem Loc.call (l : Loc c w0 χ W b o) (ha : ∀ b, b < W.heap.size → χ' b = χ b) (hc : Chg χ (fun x => c ≤ x ∧ x ≤ c + 2) W W') : Loc c w0 χ' W' b o := by
  have hlt := (Array.getElem?_eq_some_iff.1 l.at_).1
  exact ⟨l.own, (ha b hlt).trans l.col, (hc.blk b hlt (by rw [l.col]; omega)).trans l.at_⟩
theorem Loc.set {cs : Array Value} {t : TypeId} (l : Loc c w0 χ W b (.cells cs t)) (i : Nat) (v : Value) : Loc c w0 χ (W.setCell ⟨b, i, none⟩ v) b (.cells (cs.setIfInBounds i v) t) :=
  ⟨l.own, l.col, by simp only [World.setCell, Array.getElem?_modify]; simp [l.at_]⟩
theorem Loc.other {b' : Nat} (l : Loc c w0 χ W b o) (hb : b ≠ b') (i : Nat) (v : Value) : Loc c w0 χ (W.setCell ⟨b', i, none⟩ v) b o :=
  ⟨l.own, l.col, (Below.heap_setCell _ _ _ _ hb).trans l.at_⟩
theorem Trk.drew (k : Trk c χ0 w0 χ W pt ns root lim) : Trk c χ0 w0 χ W.drew pt ns root lim :=
  ⟨k.ag, k.tr.keep (Same.below' (undrew_r (Below.refl _ _))), k.chg.drew⟩
theorem Loc.drew (l : Loc c w0 χ W b o) : Loc c w0 χ W.drew b o := ⟨l.own, l.col, l.at_⟩

def pushN (ns : List Nd) (i : Int) : Nd × List Nd :=
  if (getN ns i).k then ({ getN ns i with k := false }, setN (killN (killN ns (getN ns i).l) (getN ns i).r) i { getN ns i with k := false }) else (getN ns i, ns)
/-- The children of all nodes are nodes, or none. -/
def OkN (ns : List Nd) : Prop := ∀ n ∈ ns, 0 ≤ n.l ∧ n.l ≤ ns.length ∧ 0 ≤ n.r ∧ n.r ≤ ns.length
theorem OkN.get {ns : List Nd} (h : OkN ns) (i : Int) : 0 ≤ (getN ns i).l ∧ (getN ns i).l ≤ ns.length ∧ 0 ≤ (getN ns i).r ∧ (getN ns i).r ≤ ns.length := by
  unfold getN
  split
  · exact ⟨Int.le_refl 0, by show (0 : Int) ≤ _; omega, Int.le_refl 0, by show (0 : Int) ≤ _; omega⟩
  · by_cases hl : (i - 1).toNat < ns.length
    · have e : ns.getD (i - 1).toNat Nd.zero = ns[(i - 1).toNat] := by rw [List.getD_eq_getElem?_getD, List.getElem?_eq_getElem hl]; rfl
      rw [e]; exact h _ (List.getElem_mem hl)
    · have e : ns.getD (i - 1).toNat Nd.zero = Nd.zero := by simp; rw [List.getElem?_eq_none (by omega)]; rfl
      rw [e]
      exact ⟨Int.le_refl 0, by show (0 : Int) ≤ _; omega, Int.le_refl 0, by show (0 : Int) ≤ _; omega⟩

theorem Trk.setNW {cs : Array Value} {t : TypeId} (k : Trk c χ0 w0 χ W pt ns root lim) (l : Loc c w0 χ W b (.cells cs t)) (i : Nat) (n : Nd) : Trk c χ0 w0 χ (setNW W b i n) pt ns root lim :=
  ((((((k.set l i _).set (l.set i _) (i + 1) _).set ((l.set i _).set (i + 1) _) (i + 2) _).set (((l.set i _).set (i + 1) _).set (i + 2) _) (i + 3) _).set ((((l.set i _).set (i + 1) _).set (i + 2) _).set (i + 3) _) (i + 4) _).set
    (((((l.set i _).set (i + 1) _).set (i + 2) _).set (i + 3) _).set (i + 4) _) (i + 5) _).set ((((((l.set i _).set (i + 1) _).set (i + 2) _).set (i + 3) _).set (i + 4) _).set (i + 5) _) (i + 6) _

set_option maxRecDepth 100000 in
set_option maxHeartbeats 2000000 in
theorem push_calls (w : World) (pt : Nat) (i : Int) {c : Nat} {χ : Col} {ns : List Nd} {root lim : Int} (h : TrAt c χ w pt ns root lim) (hok : OkN ns) (i0 : 1 ≤ i) (i1 : i ≤ ns.length) :
    Calls Try.prog 46 #[.pointer (some ⟨pt, 0, none⟩), .int .i32 i] w fun e w' => e = .returned (pushN ns i).1.val ∧ TrTo c χ w w' pt (pushN ns i).2 root lim := by
  obtain ⟨l0, l1, r0, r1⟩ := hok.get i
  cases hk : (getN ns i).k with
  | false =>
    have hp : pushN ns i = (getN ns i, ns) := by unfold pushN; rw [hk]; rfl
    rw [hp]
    have K1 := (Trk.start h).below ((Below.refl _ w).alloc (Nat.le_refl _) (.cells #[.int .i32 0, .int .i32 0, .int .i64 0, .int .i64 0, .int .i64 0, .int .i64 0, .bool false] 95))
    have R1 := Loc.new (Trk.start h) (.cells #[.int .i32 0, .int .i32 0, .int .i64 0, .int .i64 0, .int .i64 0, .int .i64 0, .bool false] 95)
    go_enter Try.func46, Try.ntmps46
    go_wp2_with fail
    refine (at_calls _ _ _ K1.tr (by omega) i1).mono ?_
    rintro e w1 ⟨rfl, hb1⟩
    have K2 := K1.below hb1
    have R2 := R1.below hb1
    obtain ⟨⟨x0, x1, x2, x3, x4, x5, x6⟩, y0, y1, y2, y3, y4, y5, y6⟩ := cells7 R2.at_
    have K3 := K2.below ((Below.refl _ w1).alloc (Nat.le_refl _) (.cells #[.int .i32 (getN ns i).l, .int .i32 (getN ns i).r, .int .i64 (getN ns i).a.c, .int .i64 (getN ns i).a.s, .int .i64 (getN ns i).a.mn, .int .i64 (getN ns i).a.mx, .bool false] 95))
    have R3 := R2.below ((Below.refl _ w1).alloc (Nat.le_refl _) (.cells #[.int .i32 (getN ns i).l, .int .i32 (getN ns i).r, .int .i64 (getN ns i).a.c, .int .i64 (getN ns i).a.s, .int .i64 (getN ns i).a.mn, .int .i64 (getN ns i).a.mx, .bool false] 95))
    go_wp2
    refine bodyPost_ret (v := (getN ns i).val) (by simp [results, Try.results46, go_sem, *]) rfl ⟨rfl, ?_⟩
    exact (K3.setNW R3 0 { getN ns i with k := false }).to
  | true =>
    have hp : pushN ns i = ({ getN ns i with k := false }, setN (killN (killN ns (getN ns i).l) (getN ns i).r) i { getN ns i with k := false }) := by unfold pushN; rw [hk]; rfl
    rw [hp]
    have K1 := (Trk.start h).below ((Below.refl _ w).alloc (Nat.le_refl _) (.cells #[.int .i32 0, .int .i32 0, .int .i64 0, .int .i64 0, .int .i64 0, .int .i64 0, .bool false] 95))
    have R1 := Loc.new (Trk.start h) (.cells #[.int .i32 0, .int .i32 0, .int .i64 0, .int .i64 0, .int .i64 0, .int .i64 0, .bool false] 95)
    go_enter Try.func46, Try.ntmps46
    go_wp2_with fail
    refine (at_calls _ _ _ K1.tr (by omega) i1).mono ?_
    rintro e w1 ⟨rfl, hb1⟩
    have K2 := K1.below hb1
    have R2 := R1.below hb1
    have K3 := K2.below ((Below.refl _ w1).alloc (Nat.le_refl _) (.cells #[.int .i32 (getN ns i).l, .int .i32 (getN ns i).r, .int .i64 (getN ns i).a.c, .int .i64 (getN ns i).a.s, .int .i64 (getN ns i).a.mn, .int .i64 (getN ns i).a.mx, .bool true] 95))
    have R3 := R2.below ((Below.refl _ w1).alloc (Nat.le_refl _) (.cells #[.int .i32 (getN ns i).l, .int .i32 (getN ns i).r, .int .i64 (getN ns i).a.c, .int .i64 (getN ns i).a.s, .int .i64 (getN ns i).a.mn, .int .i64 (getN ns i).a.mx, .bool true] 95))
    have L3 := Loc.new K2 (.cells #[.int .i32 (getN ns i).l, .int .i32 (getN ns i).r, .int .i64 (getN ns i).a.c, .int .i64 (getN ns i).a.s, .int .i64 (getN ns i).a.mn, .int .i64 (getN ns i).a.mx, .bool true] 95)
    go_wp2_with fail
    refine (kill_calls _ _ _ K3.tr l0 l1).mono ?_
    rintro e w2 ⟨rfl, hT⟩
    obtain ⟨χ4, ag, K4, ch⟩ := K3.call hT
    have R4 := R3.call ag ch
    have L4 := L3.call ag ch
    clear hT ag ch K1 K2 K3 R1 R2 R3 L3
    obtain ⟨⟨x0, x1, x2, x3, x4, x5, x6⟩, y0, y1, y2, y3, y4, y5, y6⟩ := cells7 L4.at_
    go_wp2_with fail
    refine (kill_calls _ _ _ K4.tr r0 (by rw [killN_len]; exact r1)).mono ?_
    rintro e w3 ⟨rfl, hT⟩
    obtain ⟨χ5, ag, K5, ch⟩ := K4.call hT
    have R5 := R4.call ag ch
    have L5 := L4.call ag ch
    clear x0 x1 x2 x3 x4 x5 x6 y0 y1 y2 y3 y4 y5 y6 hT ag ch K4 R4 L4
    obtain ⟨⟨x0, x1, x2, x3, x4, x5, x6⟩, y0, y1, y2, y3, y4, y5, y6⟩ := cells7 L5.at_
    have K6 := K5.set L5 6 (.bool false)
    have R6 := R5.other (b' := w1.heap.size) (by have := hb1.size; simp at this; omega) 6 (.bool false)
    have L6 : Loc c w χ5 (w3.setCell ⟨w1.heap.size, 6, none⟩ (.bool false)) w1.heap.size (.cells #[.int .i32 (getN ns i).l, .int .i32 (getN ns i).r, .int .i64 (getN ns i).a.c, .int .i64 (getN ns i).a.s, .int .i64 (getN ns i).a.mn, .int .i64 (getN ns i).a.mx, .bool false] 95) := L5.set 6 _
    go_wp2
    clear x0 x1 x2 x3 x4 x5 x6 y0 y1 y2 y3 y4 y5 y6 K5 R5 L5
    obtain ⟨W6, hW6⟩ : ∃ W6, W6 = w3.setCell ⟨w1.heap.size, 6, none⟩ (.bool false) := ⟨_, rfl⟩
    rw [← hW6] at K6 R6 L6 ⊢
    clear hW6
    obtain ⟨⟨x0, x1, x2, x3, x4, x5, x6⟩, y0, y1, y2, y3, y4, y5, y6⟩ := cells7 L6.at_
    obtain ⟨qa, -, q1, -, -, -, ha⟩ := id K6.tr
    have HA := Lib.hid (ha.keep (w' := W6.drew) (Same.below' (undrew_r (Below.refl _ _))))
    clear ha
    go_region_law (go_simp; go_at_call 47; refine (set_calls _ _ _ { getN ns i with k := false } HA.out (by omega) (by rw [killN_len, killN_len]; exact i1)).mono ?_; rintro e w4 ⟨rfl, hA⟩)
    all_goals
      obtain ⟨χ7, ag, K7, ch⟩ := K6.call (TrTo.of_ar K6.tr (undrew_r (Below.refl _ _)) q1 hA)
      have R7 := R6.call ag ch
      have L7 := L6.call ag ch
      clear x0 x1 x2 x3 x4 x5 x6 y0 y1 y2 y3 y4 y5 y6 ag ch K6 R6 L6 hA q1
      obtain ⟨⟨x0, x1, x2, x3, x4, x5, x6⟩, y0, y1, y2, y3, y4, y5, y6⟩ := cells7 L7.at_
      obtain ⟨⟨z0, z1, z2, z3, z4, z5, z6⟩, u0, u1, u2, u3, u4, u5, u6⟩ := cells7 R7.at_
      go_wp2
      refine bodyPost_ret (v := Nd.val { getN ns i with k := false }) (by simp [results, Try.results46, go_sem, *]) rfl ⟨rfl, ?_⟩
      exact (K7.setNW R7 0 { getN ns i with k := false }).to

theorem set4_cell {w : World} {b j : Nat} {u v2 v3 v4 v5 : Value} (hj : j < 2) (h : w.cell? ⟨b, j, none⟩ = some u) :
    ((((w.setCell ⟨b, 2, none⟩ v2).setCell ⟨b, 3, none⟩ v3).setCell ⟨b, 4, none⟩ v4).setCell ⟨b, 5, none⟩ v5).cell? ⟨b, j, none⟩ = some u := by
  rw [World.cell?_setCell_other _ _ _ _ (fun e => by injection e; omega), World.cell?_setCell_other _ _ _ _ (fun e => by injection e; omega), World.cell?_setCell_other _ _ _ _ (fun e => by injection e; omega),
    World.cell?_setCell_other _ _ _ _ (fun e => by injection e; omega)]
  exact h

def joinN (ns : List Nd) (i : Int) (n : Nd) : List Nd := setN ns i { n with a := Ag.merge (getN ns n.l).a (getN ns n.r).a }

set_option maxRecDepth 100000 in
set_option maxHeartbeats 2000000 in
theorem join_calls (w : World) (pt : Nat) (i : Int) (n : Nd) {c : Nat} {χ : Col} {ns : List Nd} {root lim : Int} (h : TrAt c χ w pt ns root lim) (i0 : 1 ≤ i) (i1 : i ≤ ns.length)
    (l0 : 0 ≤ n.l) (l1 : n.l ≤ ns.length) (r0 : 0 ≤ n.r) (r1 : n.r ≤ ns.length) :
    Calls Try.prog 49 #[.pointer (some ⟨pt, 0, none⟩), .int .i32 i, n.val] w fun e w' => e = .returned (.tuple #[]) ∧ TrTo c χ w w' pt (joinN ns i n) root lim := by
  have K1 := (Trk.start h).below ((Below.refl _ w).alloc (Nat.le_refl _) (.cells #[.int .i32 n.l, .int .i32 n.r, .int .i64 n.a.c, .int .i64 n.a.s, .int .i64 n.a.mn, .int .i64 n.a.mx, .bool n.k] 95))
  have L1 := Loc.new (Trk.start h) (.cells #[.int .i32 n.l, .int .i32 n.r, .int .i64 n.a.c, .int .i64 n.a.s, .int .i64 n.a.mn, .int .i64 n.a.mx, .bool n.k] 95)
  go_enter Try.func49, Try.ntmps49
  go_wp2
  obtain ⟨W1, hW1⟩ : ∃ W1, W1 = w.alloc (.cells #[.int .i32 n.l, .int .i32 n.r, .int .i64 n.a.c, .int .i64 n.a.s, .int .i64 n.a.mn, .int .i64 n.a.mx, .bool n.k] 95) := ⟨_, rfl⟩
  rw [← hW1] at K1 L1 ⊢
  clear hW1
  obtain ⟨⟨x0, x1, x2, x3, x4, x5, x6⟩, y0, y1, y2, y3, y4, y5, y6⟩ := cells7 L1.at_
  have HT : Hid (∀ w', Below W1.heap.size W1 w' → TrAt c (paint χ w.heap.size (c + 3)) w' pt ns root lim) := fun w' hb => K1.tr.keep (Same.below' hb)
  have hB1 : Below W1.heap.size W1 W1.drew := undrew_r (Below.refl _ _)
  have HX : Hid (∀ w', Below W1.heap.size W1 w' → (w'.cell? ⟨w.heap.size, 0, none⟩ = some (.int .i32 n.l) ∧ w'.cell? ⟨w.heap.size, 1, none⟩ = some (.int .i32 n.r) ∧ w'.cell? ⟨w.heap.size, 2, none⟩ = some (.int .i64 n.a.c) ∧ w'.cell? ⟨w.heap.size, 3, none⟩ = some (.int .i64 n.a.s) ∧ w'.cell? ⟨w.heap.size, 4, none⟩ = some (.int .i64 n.a.mn) ∧ w'.cell? ⟨w.heap.size, 5, none⟩ = some (.int .i64 n.a.mx) ∧
      w'.frozen? ⟨w.heap.size, 2, none⟩ = false ∧ w'.frozen? ⟨w.heap.size, 3, none⟩ = false ∧ w'.frozen? ⟨w.heap.size, 4, none⟩ = false ∧ w'.frozen? ⟨w.heap.size, 5, none⟩ = false ∧ Below W1.heap.size W1 w')) := fun w' hb => by
    obtain ⟨⟨x0, x1, x2, x3, x4, x5, x6⟩, y0, y1, y2, y3, y4, y5, y6⟩ := cells7 (kept_at hb L1.at_)
    exact ⟨x0, x1, x2, x3, x4, x5, y2, y3, y4, y5, hb⟩
  clear x0 x1 x2 x3 x4 x5 x6 y0 y1 y2 y3 y4 y5 y6
  go_region_held3 (fun w' => w'.cell? ⟨w.heap.size, 0, none⟩ = some (.int .i32 n.l) ∧ w'.cell? ⟨w.heap.size, 1, none⟩ = some (.int .i32 n.r))
    (first | with_reducible exact ⟨(HX.out _ hB4).1, (HX.out _ hB4).2.1⟩ | with_reducible exact ⟨(HX.out _ hB3).1, (HX.out _ hB3).2.1⟩ | with_reducible exact ⟨(HX.out _ hB2).1, (HX.out _ hB2).2.1⟩ | with_reducible exact ⟨(HX.out _ hB1).1, (HX.out _ hB1).2.1⟩ | with_reducible exact ⟨set4_cell (Nat.zero_lt_succ _) (HX.out _ hB4).1, set4_cell (Nat.lt_succ_self _) (HX.out _ hB4).2.1⟩)
    (first
      | (go_at_call 44; have hS := hB2; refine (at_calls _ _ n.r (HT.out _ hB2) r0 r1).mono ?_; rintro e w3 ⟨rfl, hb3⟩; have hB3 := hB2.trans (hb3.mono hB2.size); simp only [Nd.val])
      | (go_at_call 44; refine (at_calls _ _ n.l (HT.out _ hB1) l0 l1).mono ?_; rintro e w2 ⟨rfl, hb2⟩; have hB2 := hB1.trans (hb2.mono hB1.size); simp only [Nd.val])
      | (go_at_call 54; refine (merge_calls _ (getN ns n.l).a (getN ns n.r).a).mono ?_; rintro e w4 ⟨rfl, hb4⟩; have hB4 := hB3.trans (hb4.mono hB3.size); obtain ⟨-, -, z2, z3, z4, z5, f2, f3, f4, f5, -⟩ := HX.out _ hB4; simp only [Ag.val]))
  obtain ⟨m, hm⟩ : ∃ m, m = (getN ns n.l).a.merge (getN ns n.r).a := ⟨_, rfl⟩
  have hj : joinN ns i n = setN ns i { n with a := m } := by rw [hm]; rfl
  rw [← hm]
  have HJ := Lib.hid hj
  have K4 := K1.below hB4
  have L4 := L1.below hB4
  have K5 := (((K4.set L4 2 (.int .i64 m.c)).set (L4.set 2 _) 3 (.int .i64 m.s)).set ((L4.set 2 _).set 3 _) 4 (.int .i64 m.mn)).set (((L4.set 2 _).set 3 _).set 4 _) 5 (.int .i64 m.mx)
  have L5 : Loc c w (paint (paint χ w.heap.size (c + 3)) W1.heap.size (c + 3)) ((((w4.setCell ⟨w.heap.size, 2, none⟩ (.int .i64 m.c)).setCell ⟨w.heap.size, 3, none⟩ (.int .i64 m.s)).setCell ⟨w.heap.size, 4, none⟩ (.int .i64 m.mn)).setCell ⟨w.heap.size, 5, none⟩ (.int .i64 m.mx)) w.heap.size
      (.cells #[.int .i32 n.l, .int .i32 n.r, .int .i64 m.c, .int .i64 m.s, .int .i64 m.mn, .int .i64 m.mx, .bool n.k] 95) := (((L4.set 2 _).set 3 _).set 4 _).set 5 _
  go_wp2
  clear z2 z3 z4 z5 f2 f3 f4 f5 K1 L1 K4 L4 hB4 hB3 hB2 hB1 hb2 hb3 hb4 HT HX hj hm
  obtain ⟨W6, hW6⟩ : ∃ W6, W6 = ((((w4.setCell ⟨w.heap.size, 2, none⟩ (.int .i64 m.c)).setCell ⟨w.heap.size, 3, none⟩ (.int .i64 m.s)).setCell ⟨w.heap.size, 4, none⟩ (.int .i64 m.mn)).setCell ⟨w.heap.size, 5, none⟩ (.int .i64 m.mx)) := ⟨_, rfl⟩
  rw [← hW6] at K5 L5 ⊢
  clear hW6
  obtain ⟨⟨x0, x1, x2, x3, x4, x5, x6⟩, y0, y1, y2, y3, y4, y5, y6⟩ := cells7 L5.at_
  obtain ⟨qa, -, q1, -, -, -, ha⟩ := id K5.tr
  have HA := Lib.hid (ha.keep (w' := W6.drew) (Same.below' (undrew_r (Below.refl _ _))))
  clear ha
  go_region_law (go_simp; go_at_call 47; refine (set_calls _ _ _ { n with a := m } HA.out (by omega) (by omega)).mono ?_; rintro e w7 ⟨rfl, hA⟩)
  all_goals
    obtain ⟨χ7, ag, K7, ch⟩ := K5.call (TrTo.of_ar K5.tr (undrew_r (Below.refl _ _)) q1 hA)
    go_wp2
    go_end0
    exact ⟨rfl, by rw [HJ.out]; exact K7.to⟩
end Go.Proofs.Ytcdldjiogoapkaa
