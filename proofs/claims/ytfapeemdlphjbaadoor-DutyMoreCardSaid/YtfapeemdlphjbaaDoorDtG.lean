import Derived.Test.YtfapeemdlphjbaaDoorDtF
import Derived.Test.YtfapeemdlphjbaaDoorRG
namespace Go.Proofs.YtfapeemdlphjbaaDoor
open Go.RowKit
attribute [local go_sem] World.cell?_alloc_some frozen_alloc_some

/-! The pairs, one by one. -/
noncomputable def clTo (l : List Gr) (ten : Int) (i : Nat) : List (Nat × Nat) := (List.range i).flatMap (clRow l ten)
theorem clTo_succ (l : List Gr) (ten : Int) (i : Nat) : clTo l ten (i + 1) = clTo l ten i ++ clRow l ten i := by
  unfold clTo; rw [List.range_succ, List.flatMap_append]; simp
theorem clTo_all (l : List Gr) (ten : Int) : clTo l ten l.length = clL l ten := (clL_rows l ten).symm
noncomputable def rowTo (l : List Gr) (ten : Int) (i k : Nat) : List (Nat × Nat) := ((List.range k).filter fun k => match l[i]?, l[i + k]? with | some g, some h => g.ten == ten && clB g h | _, _ => false).map fun k => (i, i + k)
theorem rowTo_all (l : List Gr) (ten : Int) (i : Nat) : rowTo l ten i (l.length - i) = clRow l ten i := rfl
theorem rowTo_succ (l : List Gr) (ten : Int) (i k : Nat) (hi : i < l.length) (hk : i + k < l.length) : rowTo l ten i (k + 1) = rowTo l ten i k ++ if (l[i].ten == ten && clB l[i] l[i + k]) = true then [(i, i + k)] else [] := by
  unfold rowTo
  rw [List.range_succ, List.filter_append, List.map_append]
  congr 1
  simp only [List.filter_cons, List.filter_nil, List.getElem?_eq_getElem hi, List.getElem?_eq_getElem hk]
  by_cases h : (l[i].ten == ten && clB l[i] l[i + k]) = true
  · rw [if_pos h, if_pos h]; rfl
  · rw [if_neg h, if_neg h]; rfl
theorem rowTo_pre (l : List Gr) (ten : Int) (i : Nat) {k n : Nat} (h : k ≤ n) : rowTo l ten i k <+: rowTo l ten i n := by
  unfold rowTo
  obtain ⟨m, rfl⟩ : ∃ m, n = k + m := ⟨n - k, by omega⟩
  rw [List.range_add, List.filter_append, List.map_append]
  exact List.prefix_append _ _
theorem clTo_pre (l : List Gr) (ten : Int) {i n : Nat} (h : i ≤ n) : clTo l ten i <+: clTo l ten n := by
  unfold clTo
  obtain ⟨m, rfl⟩ : ∃ m, n = i + m := ⟨n - i, by omega⟩
  rw [List.range_add, List.flatMap_append]
  exact List.prefix_append _ _
theorem cl_split (l : List Gr) (ten : Int) (i k : Nat) (hi : i < l.length) (hk : i + k < l.length) (h : (l[i].ten == ten && clB l[i] l[i + k]) = true) :
    ∃ rest, clL l ten = (clTo l ten i ++ rowTo l ten i k) ++ (i, i + k) :: rest := by
  obtain ⟨r1, h1⟩ := rowTo_pre l ten i (show k + 1 ≤ l.length - i by omega)
  obtain ⟨r2, h2⟩ := clTo_pre l ten (show i + 1 ≤ l.length from hi)
  refine ⟨r1 ++ r2, ?_⟩
  rw [← clTo_all, ← h2, clTo_succ, ← rowTo_all, ← h1, rowTo_succ l ten i k hi hk, if_pos h]
  simp

/-- What comes with a pair. -/
def YPair (x : Nat × Nat) (vs : Array Value) : Prop := vs = #[.int .i64 x.1, .int .i64 x.2]

theorem clashes0_calls (w : World) (A : Option Addr) (n c : Nat) (ten : Int) :
    Calls Tryd.prog 19 #[.slice A n c, .int .i64 ten] w fun e w' =>
      e = .returned (.func (.func 30) #[] #[.pointer (some ⟨w.heap.size, 0, none⟩), .pointer (some ⟨w.heap.size + 1, 0, none⟩)]) ∧ w' = (w.alloc (.cells #[.slice A n c] 22)).alloc (.cells #[.int .i64 ten] 3) := by
  go_enter Tryd.func19, Tryd.ntmps19
  go_wp2
  go_ret
  exact ⟨rfl, rfl⟩

/-- What the iterator keeps between its rounds: its two captured variables, and what was there before. -/
structure St (Co : Nat → Prop) (cT : Nat) (w0 W : World) (χ : Col) (bl bt : Nat) (v : Value) (ten : Int) (χ1 : Col) (wr : World) : Prop where
  low : ∀ b, b < w0.heap.size → ¬ Co (χ b)
  sz : w0.heap.size ≤ W.heap.size
  nl : ¬ Co (χ bl)
  nt : ¬ Co (χ bt)
  ll : bl < W.heap.size
  lt : bt < W.heap.size
  ag : ∀ b, b < W.heap.size → χ1 b = χ b
  ch : Chg χ (fun x => Co x ∨ x = cT) W wr
  bel : Below w0.heap.size w0 wr
  cl : wr.cell? ⟨bl, 0, none⟩ = some v
  ct : wr.cell? ⟨bt, 0, none⟩ = some (.int .i64 ten)
theorem St.below {Co : Nat → Prop} {cT : Nat} {w0 W : World} {χ χ1 : Col} {bl bt : Nat} {v : Value} {ten : Int} {wr wr' : World} (h : St Co cT w0 W χ bl bt v ten χ1 wr) (hb : Below wr.heap.size wr wr') :
    St Co cT w0 W χ bl bt v ten (paint χ1 wr.heap.size cT) wr' :=
  ⟨h.low, h.sz, h.nl, h.nt, h.ll, h.lt, fun b hb => (paint_low (by have := h.ch.size; omega)).trans (h.ag b hb), h.ch.trans h.ag (.of_below hb), h.bel.trans (hb.mono h.bel.size),
    (hb.cell (World.block_lt_of_cell? _ _ h.cl)).trans h.cl, (hb.cell (World.block_lt_of_cell? _ _ h.ct)).trans h.ct⟩
theorem St.yield {Co : Nat → Prop} {cT : Nat} {w0 W : World} {χ χ1 χ2 : Col} {bl bt : Nat} {v : Value} {ten : Int} {wr wr' : World} (h : St Co cT w0 W χ bl bt v ten χ1 wr) (ag : ∀ b, b < wr.heap.size → χ2 b = χ1 b) (hc : Chg χ1 Co wr wr') :
    St Co cT w0 W χ bl bt v ten χ2 wr' := by
  have hs := h.ch.size
  have l1 := h.ll
  have l2 := h.lt
  exact ⟨h.low, h.sz, h.nl, h.nt, h.ll, h.lt, fun b hb => (ag b (by omega)).trans (h.ag b hb), h.ch.trans h.ag (hc.mono fun _ => .inl),
    h.bel.trans (hc.below (n := w0.heap.size) (fun b hb => by rw [h.ag b (by have := h.sz; omega)]; exact h.low b hb) h.bel.size),
    (World.cell?_of_block (hc.blk bl (by omega) (by rw [h.ag bl h.ll]; exact h.nl))).trans h.cl, (World.cell?_of_block (hc.blk bt (by omega) (by rw [h.ag bt h.lt]; exact h.nt))).trans h.ct⟩
/-- A variable of the iterator's own. -/
def BoxA (cT : Nat) (b : Nat) (o : Obj) (χ : Col) (w : World) : Prop := χ b = cT ∧ w.heap[b]? = some o
theorem BoxA.lt {cT b : Nat} {o : Obj} {χ : Col} {w : World} (h : BoxA cT b o χ w) : b < w.heap.size := (Array.getElem?_eq_some_iff.1 h.2).1
theorem BoxA.below {cT b c : Nat} {o : Obj} {χ : Col} {w w' : World} (h : BoxA cT b o χ w) (hb : Below w.heap.size w w') : BoxA cT b o (paint χ w.heap.size c) w' :=
  ⟨(paint_low h.lt).trans h.1, (hb.block b h.lt).trans h.2⟩
theorem BoxA.yield {Co : Nat → Prop} {cT b : Nat} {o : Obj} {χ χ2 : Col} {w w' : World} (h : BoxA cT b o χ w) (ag : ∀ b, b < w.heap.size → χ2 b = χ b) (hc : Chg χ Co w w') (hT : ¬ Co cT) : BoxA cT b o χ2 w' :=
  ⟨(ag b h.lt).trans h.1, (hc.blk b h.lt (by rw [h.1]; exact hT)).trans h.2⟩
/-- a grant's cells, in a later world. -/
theorem RdG.getB {w0 w : World} {A : Option Addr} {cap n : Nat} {l : List Gr} (h : RdG w0 (.slice A n cap) l) (hb : Below w0.heap.size w0 w) (i : Nat) (hi : i < l.length) :
    ∃ b o v, A = some ⟨b, o, none⟩ ∧ w.cell? ⟨b, o + i * 7, none⟩ = some (.int .i64 l[i].par) ∧ w.cell? ⟨b, o + i * 7 + 1, none⟩ = some (.int .i64 l[i].hol) ∧ w.cell? ⟨b, o + i * 7 + 2, none⟩ = some (.int .i64 l[i].ten) ∧
      w.cell? ⟨b, o + i * 7 + 3, none⟩ = some (.int .i64 l[i].dep) ∧ w.cell? ⟨b, o + i * 7 + 4, none⟩ = some (.bool l[i].wr) ∧ w.cell? ⟨b, o + i * 7 + 5, none⟩ = some v ∧ w.cell? ⟨b, o + i * 7 + 6, none⟩ = some (.int .i64 l[i].exp) ∧ RdA w0 v l[i].ar := by
  obtain ⟨b, o, v, e, c0, c1, c2, c3, c4, c5, c6, h⟩ := h.get i hi
  have k : ∀ {a : Addr} {u : Value}, w0.cell? a = some u → w.cell? a = some u := fun h => (hb.cell (World.block_lt_of_cell? _ _ h)).trans h
  exact ⟨b, o, v, e, k c0, k c1, k c2, k c3, k c4, k c5, k c6, h⟩

set_option maxRecDepth 100000 in
set_option maxHeartbeats 4000000 in
theorem clashes_iter (w0 W : World) (v : Value) (bl bt : Nat) (l : List Gr) (ten : Int) {χ : Col} {Co : Nat → Prop} {cT : Nat} (hr : RdG w0 v l) (hf : FewG l) (hb : Below w0.heap.size w0 W) (hlow : ∀ b, b < w0.heap.size → ¬ Co (χ b)) (hT : ¬ Co cT)
    (hbl : W.cell? ⟨bl, 0, none⟩ = some v) (hbt : W.cell? ⟨bt, 0, none⟩ = some (.int .i64 ten)) (nl : ¬ Co (χ bl)) (nt : ¬ Co (χ bt)) :
    IterC Tryd.prog 30 #[.pointer (some ⟨bl, 0, none⟩), .pointer (some ⟨bt, 0, none⟩)] YPair Co (fun x => x = cT) (fun _ _ => True) (clL l ten) χ W := by
  intro n yl J Jx hJ hJx hY h0
  obtain ⟨A, cap, rfl, a1, a2, a3, -⟩ := id hr
  unfold maxLen at a2
  have ha63 := a3.1
  clear a3
  have S0 : Hid (St Co cT w0 W χ bl bt (.slice A l.length cap) ten χ W) := ⟨hlow, hb.size, nl, nt, World.block_lt_of_cell? _ _ hbl, World.block_lt_of_cell? _ _ hbt, fun _ _ => rfl, .of_below (Below.refl _ _), hb, hbl, hbt⟩
  have HR := Lib.hid hr
  have HF := Lib.hid hf
  have HJ := Lib.hid hJ
  have HY := Lib.hid hY
  have HT := Lib.hid hT
  clear hJ hJx hY hr hf hlow hT hb nl nt hbt
  refine callsIn_of_wp Tryd.func30 rfl trivial ?_ rfl
  simp only [Tryd.ntmps30, List.size_toArray, List.length_cons, List.length_nil, Nat.reduceAdd, Nat.reduceSub, Array.replicate_succ, Array.replicate_zero, List.push_toArray, List.append_toArray, List.nil_append, List.cons_append]
  gi_wp2
  gi_loopw [10] (fun i wr => ∃ (k : Nat) (χ1 : Col), k ≤ l.length ∧ i = .int .i64 k ∧ J (clTo l ten k) χ1 wr ∧ Hid (St Co cT w0 W χ bl bt (.slice A l.length cap) ten χ1 wr)) (fun i _ => l.length - (intOf i).toNat)
  case atStart => exact ⟨0, χ, by omega, rfl, h0, S0⟩
  case round =>
    obtain ⟨k, χ1, hk, rfl, hJk, S1⟩ := hrel
    obtain ⟨wo, rfl⟩ : ∃ wo, wo = wr := ⟨_, rfl⟩
    by_cases hlt : k < l.length
    · obtain ⟨gb, go, u, rfl, c0, c1, c2, c3, c4, c5, c6, hu⟩ := HR.out.getB S1.out.bel k hlt
      have hfk := HF.out _ (List.getElem_mem hlt)
      obtain ⟨⟨gp, gh, gt, gd, gw, ga, ge⟩, hg⟩ : ∃ g, g = l[k] := ⟨_, rfl⟩
      rw [← hg] at c0 c1 c2 c3 c4 c6 hu hfk
      have HG := Lib.hid hg
      dsimp only at c0 c1 c2 c3 c4 c6 hu hfk
      obtain ⟨A', c', rfl, -⟩ := id hu
      have HU := Lib.hid hu
      have HFK := Lib.hid hfk
      have x1 := S1.out.cl
      have hcap : k < cap := by omega
      clear hg hu hfk
      obtain ⟨n2, hn2⟩ : ∃ n2, n2 = l.length - k := ⟨_, rfl⟩
      have hkn : k + n2 = l.length := by omega
      gi_wp2
      rw [← hn2]
      have hba := (Below.refl wo.heap.size wo).alloc (Nat.le_refl _) (.cells #[.int .i64 gp, .int .i64 gh, .int .i64 gt, .int .i64 gd, .bool gw, .slice A' ga.length c', .int .i64 ge] 31)
      have B2 : Hid (BoxA cT wo.heap.size (.cells #[.int .i64 gp, .int .i64 gh, .int .i64 gt, .int .i64 gd, .bool gw, .slice A' ga.length c', .int .i64 ge] 31) (paint χ1 wo.heap.size cT) (wo.alloc (.cells #[.int .i64 gp, .int .i64 gh, .int .i64 gt, .int .i64 gd, .bool gw, .slice A' ga.length c', .int .i64 ge] 31))) := ⟨paint_high (Nat.le_refl _), heap_alloc_at _ _⟩
      have S2 := Lib.hid (S1.out.below hba)
      have J2 := HJ.out _ _ _ _ _ hJk (Same.below cT hba)
      obtain ⟨wA, hwA⟩ : ∃ wA, wA = wo.alloc (.cells #[.int .i64 gp, .int .i64 gh, .int .i64 gt, .int .i64 gd, .bool gw, .slice A' ga.length c', .int .i64 ge] 31) := ⟨_, rfl⟩
      rw [← hwA] at B2 S2 J2 ⊢
      clear hba hwA hn2 hJk c0 c1 c2 c3 c4 c5 c6 x1
      have hkl : n2 ≤ 9223372036854775807 := by omega
      gi_loopw [19] (fun j wr => ∃ (q : Nat) (χ2 : Col), q ≤ n2 ∧ j = .int .i64 q ∧ J (clTo l ten k ++ rowTo l ten k q) χ2 wr ∧ Hid (St Co cT w0 W χ bl bt (.slice (some ⟨gb, go, none⟩) l.length cap) ten χ2 wr) ∧ Hid (BoxA cT wo.heap.size (.cells #[.int .i64 gp, .int .i64 gh, .int .i64 gt, .int .i64 gd, .bool gw, .slice A' ga.length c', .int .i64 ge] 31) χ2 wr)) (fun j _ => n2 - (intOf j).toNat)
      case atStart => exact ⟨0, _, by omega, rfl, by simpa [rowTo] using J2, S2, B2⟩
      case round =>
        obtain ⟨q, χ2, hq, rfl, hJq, S3, B3⟩ := hrel
        by_cases hlq : q < n2
        · obtain ⟨gb2, go2, u2, e2, d0, d1, d2, d3, d4, d5, d6, hu2⟩ := HR.out.getB S3.out.bel (k + q) (by omega)
          cases e2
          rw [show go + (k + q) * 7 = go + k * 7 + q * 7 by omega] at d0 d1 d2 d3 d4 d5 d6
          have hfk2 := HF.out _ (List.getElem_mem (show k + q < l.length by omega))
          have HRW := Lib.hid (rowTo_succ l ten k q hlt (by omega))
          have HSP := Lib.hid (cl_split l ten k q hlt (by omega))
          rw [← HG.out] at HRW HSP
          obtain ⟨⟨hp, hh, ht, hd, hw, hA, he⟩, hE⟩ : ∃ h, h = l[k + q] := ⟨_, rfl⟩
          rw [← hE] at d0 d1 d2 d3 d4 d6 hu2 hfk2 HRW HSP
          dsimp only at d0 d1 d2 d3 d4 d6 hu2 hfk2
          obtain ⟨B', b', rfl, -⟩ := id hu2
          have HU2 := Lib.hid hu2
          have HFK2 := Lib.hid hfk2
          have x2 := S3.out.ct
          obtain ⟨⟨p0, p1, p2, p3, p4, p5, p6⟩, -⟩ := cells7 B3.out.2
          have hkq : k + q < l.length := by omega
          obtain ⟨c, hc⟩ : ∃ c, c = clB ⟨gp, gh, gt, gd, gw, ga, ge⟩ ⟨hp, hh, ht, hd, hw, hA, he⟩ := ⟨_, rfl⟩
          have HC := Lib.hid hc
          rw [← hc] at HRW HSP
          clear hE hu2 hfk2 hc
          have hbb := (Below.refl wr.heap.size wr).alloc (Nat.le_refl _) (.cells #[.int .i64 hp, .int .i64 hh, .int .i64 ht, .int .i64 hd, .bool hw, .slice B' hA.length b', .int .i64 he] 31)
          have S4 := Lib.hid (S3.out.below hbb)
          have B4 := Lib.hid (B3.out.below (c := cT) hbb)
          have J4 := HJ.out _ _ _ _ _ hJq (Same.below cT hbb)
          by_cases hten : gt = ten
          · have hcond : ((gt == ten) && c) = c := by simp [hten]
            rw [hcond] at HRW HSP
            clear hcond
            obtain rfl := hten
            cases c with
            | false =>
              have HR2 : Hid (rowTo l gt k (q + 1) = rowTo l gt k q) := by show _ = _; rw [HRW.out, if_neg (by simp), List.append_nil]
              gi_wp2_with (refine ⟨trivial, wide_n, ?_⟩; gi_at_call 31; refine (callsIn_wide.2 (clash_calls _ ⟨gp, gh, gt, gd, gw, ga, ge⟩ ⟨hp, hh, ht, hd, hw, hA, he⟩ _ _ (HU.out.keep S4.out.bel) (HU2.out.keep S4.out.bel) HFK.out HFK2.out)).mono ?_; rw [← HC.out]; rintro e w1 ⟨rfl, hb1⟩; have S5 := Lib.hid (S4.out.below (hb1.mono (Nat.le_refl _))); have B5 := Lib.hid (B4.out.below (c := cT) (hb1.mono (Nat.le_refl _))); have J5 := HJ.out _ _ _ _ _ J4 (Same.below cT hb1))
              refine ⟨fun f h => (by cases h), ?_⟩
              gi_wp2
              go_roundw
              case rel => exact ⟨q + 1, _, hlq, by go_num, by rw [HR2.out]; exact J5, S5, B5⟩
              case measure => simp [intOf]; omega
            | true =>
              have HR2 : Hid (rowTo l gt k (q + 1) = rowTo l gt k q ++ [(k, k + q)]) := by show _ = _; rw [HRW.out, if_pos rfl]
              obtain ⟨rest, hrest⟩ := HSP.out rfl
              have HREST := Lib.hid hrest
              clear hrest
              gi_wp2_with (refine ⟨trivial, wide_n, ?_⟩; gi_at_call 31; refine (callsIn_wide.2 (clash_calls _ ⟨gp, gh, gt, gd, gw, ga, ge⟩ ⟨hp, hh, ht, hd, hw, hA, he⟩ _ _ (HU.out.keep S4.out.bel) (HU2.out.keep S4.out.bel) HFK.out HFK2.out)).mono ?_; rw [← HC.out]; rintro e w1 ⟨rfl, hb1⟩; have S5 := Lib.hid (S4.out.below (hb1.mono (Nat.le_refl _))); have B5 := Lib.hid (B4.out.below (c := cT) (hb1.mono (Nat.le_refl _))); have J5 := HJ.out _ _ _ _ _ J4 (Same.below cT hb1))
              obtain ⟨fn, tm, asg, bd, hy, hR5⟩ := HY.out (n - 1) _ (k, k + q) rest #[.int .i64 k, .int .i64 ((k : Int) + q)] _ _ HREST.out J5 (by simp [YPair])
              have HR5 := Lib.hid hR5
              clear hR5 J4 J5 hJq
              rw [hy]
              gi_wp2
              refine ⟨wide_n, HR5.out.mono ?_⟩
              rintro e W4 ⟨χ4, ag4, hc4, hj4⟩
              have S6 := Lib.hid (S5.out.yield ag4 hc4)
              have B6 := Lib.hid (B5.out.yield ag4 hc4 HT.out)
              clear ag4 hc4
              rcases hj4 with ⟨rfl, hj⟩ | ⟨rfl, hj⟩
              · gi_wp2
                go_roundw
                case rel => exact ⟨q + 1, χ4, hlq, by go_num, by rw [HR2.out, ← List.append_assoc]; exact hj, S6, B6⟩
                case measure => simp [intOf]; omega
              · gi_wp2
                refine bodyPost_ret (results_none rfl _ _ _) rfl ?_
                exact ⟨⟨_, rfl⟩, χ4, S6.out.ag, S6.out.ch, .inr ⟨_, ⟨rest, by rw [HREST.out]; simp⟩, hj⟩⟩
          · have hcond : ¬ ((gt == ten) && c) = true := by simp [hten]
            have HR2 : Hid (rowTo l ten k (q + 1) = rowTo l ten k q) := by show _ = _; rw [HRW.out, if_neg hcond, List.append_nil]
            clear hcond
            have hbe : (gt == ten) = false := by simp [hten]
            clear hten
            gi_wp2
            refine ⟨trivial, ?_⟩
            gi_wp2
            refine ⟨fun f h => (by cases h), ?_⟩
            gi_wp2
            go_roundw
            case rel => exact ⟨q + 1, _, hlq, by go_num, by rw [HR2.out]; exact J4, S4, B4⟩
            case measure => simp [intOf]; omega
        · have hqq : q = n2 := by omega
          subst hqq
          have hJ6 : Hid (J (clTo l ten (k + 1)) χ2 wr) := by
            show J _ _ _
            rw [clTo_succ, ← rowTo_all, show l.length - k = q by omega]; exact hJq
          clear hJq
          gi_wp2
          go_roundw
          case rel => exact ⟨k + 1, χ2, hlt, by go_num, hJ6.out, S3⟩
          case measure => simp [intOf]; omega
    · have hkk : k = l.length := by omega
      rw [hkk, clTo_all] at hJk
      clear hkk
      gi_wp2
      go_end0
      exact ⟨⟨_, rfl⟩, χ1, S1.out.ag, S1.out.ch, .inl ⟨trivial, hJk⟩⟩
end Go.Proofs.YtfapeemdlphjbaaDoor
