import Derived.Test.YtddpnldgfdooiaaTkE
import Derived.Test.YtddpnldgfdooiaaMpB
import Derived.Test.YtddpnldgfdooiaaRF
namespace Go.Proofs.Ytddpnldgfdooiaa
open Go.RowKit Go.Maps
attribute [local go_sem] Oper.semAt_some World.cell?_alloc_some frozen_alloc_some

/-! The keys of a map, in an order that nobody knows. -/
theorem keys_calls (w : World) (mb : Nat) :
    Calls Try.prog 24 #[.map (some mb)] w fun e w' =>
      e = .returned (.func (.func 27) #[] #[.pointer (some ⟨w.heap.size, 0, none⟩)]) ∧ w' = w.alloc (.cells #[.map (some mb)] 52) := by
  go_enter Try.func24, Try.ntmps24
  go_wp2
  go_ret
  exact ⟨rfl, rfl⟩
def NextK (F : Int → Option Ses) (pre : List Int) (x : Int) : Prop := (F x).isSome = true ∧ x ∉ pre
def FinK (F : Int → Option Ses) (xs : List Int) : Prop := xs.Nodup ∧ ∀ x, x ∈ xs ↔ (F x).isSome = true
theorem FinK.card {F : Int → Option Ses} {xs : List Int} (h : FinK F xs) : Card F xs.length := ⟨xs, h.1, h.2, rfl⟩
def YKey (_ : List Int) (x : Int) (vs : Array Value) (_ _ : World) : Prop := vs = #[.int .u64 x]
theorem wpListIn_nextS {w : World} {b n nn r cnt : Nat} {Fe : Fence} {F : Int → Option Ses} {left : Int → Bool} {ops : Array Oper} {rest : List Oper} {o : Oper} {a : Act} {Q : Exit → Act → World → Prop} (hg : o.guard = none) (it : Operand) (hop : o.op = Op.next it false) (hit : a.eval it = .pointer (some ⟨r, 0, none⟩)) (h : RangeF krU erS w b r n F left cnt)
    (hDone : (∀ x, krU.ok x → left x = false) → wpListIn Fe nn Try.prog ops Q rest (a.put o.dst (.tuple #[.bool false])) w)
    (hMore : ∀ (x p b' l : Int) (w' : World) (cnt' : Nat), (Lit.int .u64 x).wf = true → left x = true → F x = some (p, b', l) → RangeF krU erS w' b r n F (fun y => left y && !decide (y = x)) cnt' → cnt' < cnt →
      w.grownBy w' (some r) → w'.heap.size = w.heap.size → (Instr.entry (.pointer (some ⟨r, 0, none⟩))).run Try.prog w' = .ok (.tuple #[.int .u64 x, .agg #[.int .i64 p, .int .i64 b', .int .i64 l]]) w' → wpListIn Fe nn Try.prog ops Q rest (a.put o.dst (.tuple #[.bool true, .int .u64 x, .agg #[.int .i64 p, .int .i64 b', .int .i64 l]])) w') :
    wpListIn Fe nn Try.prog ops Q (o :: rest) a w :=
  wpListIn_nextF hg it hop hit h hDone fun x s w' cnt' h1 h2 h3 h4 h5 h6 h7 h8 => hMore x s.1 s.2.1 s.2.2 w' cnt' h1 h2 h3 h4 h5 h6 h7 h8
theorem RangeF.rec {w : World} {b r n cnt : Nat} {F : Int → Option Ses} {left : Int → Bool} (h : RangeF krU erS w b r n F left cnt) : ∃ o, w.heap[r]? = some o ∧ isRec o = true := by
  obtain ⟨D, lf, ⟨es, clock, since, seen, c0, h1, h2, h3, h4, h5, h6⟩, h7⟩ := h
  exact ⟨_, h5, rfl⟩
theorem RangeF.std {w w' : World} {b r n cnt B : Nat} {F : Int → Option Ses} {left : Int → Bool} (h : RangeF krU erS w b r n F left cnt) (hg : w.grownBy w' (some r)) (hB : B ≤ r) : Std B w w' := by
  obtain ⟨o, h1, h2⟩ := h.rec
  refine ⟨hg.os, hg.tape, hg.output, hg.size, fun k hk hkw => hg.block k hkw (fun e => by have := Option.some.inj e; omega), fun k o' ho hr => ?_⟩
  by_cases e : k = r
  · subst e
    rw [h1] at ho
    cases ho
    rw [h2] at hr; cases hr
  · exact (hg.block k (Array.getElem?_eq_some_iff.1 ho).1 (fun e2 => e (Option.some.inj e2))).trans ho
set_option maxHeartbeats 2000000 in
set_option maxRecDepth 100000 in
theorem keys1_iter (w0 W : World) (bx mb m : Nat) {F : Int → Option Ses} (hm : MapF krU erS w0 mb m F) (hb : Below w0.heap.size w0 W) (hbox : W.cell? ⟨bx, 0, none⟩ = some (.map (some mb))) :
    IterN Try.prog 27 #[.pointer (some ⟨bx, 0, none⟩)] (NextK F) (FinK F) YKey w0.heap.size W := by
  intro n l J Jx hJ hJx hY h0
  have hmW : MapF krU erS W mb m F := hm.below (hb.block _ hm.lt)
  have hml := hm.lt
  have HJ := Lib.hid hJ; clear hJ
  have HY := Lib.hid hY; clear hY
  clear hJx
  refine callsIn_of_wp Try.func27 rfl trivial ?_ rfl
  simp only [Try.ntmps27, List.size_toArray, List.length_cons, List.length_nil, Nat.reduceAdd, Nat.reduceSub, Array.replicate_succ, Array.replicate_zero, List.push_toArray, List.append_toArray, List.nil_append, List.cons_append]
  gi_wp2_with (first
    | (gi_at_range; refine wpListIn_rangeF rfl _ rfl Try.underlying52 rfl hmW ?_; intro w1 c0 hrg0 hg0 hs0)
    | fail)
  go_frame
  gi_loopw [6] (fun _ wr => ∃ (left : Int → Bool) (cnt : Nat) (pre : List Int), RangeF krU erS wr mb W.heap.size m F left cnt ∧ J pre wr ∧ Below w0.heap.size w0 wr ∧ pre.Nodup ∧ ∀ x, x ∈ pre ↔ (F x).isSome = true ∧ left x = false) (fun _ wr => wr.rangeLeft mb W.heap.size)
  case atStart =>
    have hb1 := grown_below0 hg0
    exact ⟨_, _, [], hrg0, HJ.out _ _ _ h0 (Std.of_below hb1), hb.trans (hb1.mono hb.size), List.nodup_nil, fun x => by cases F x <;> simp⟩
  case round =>
    obtain ⟨left, cnt, pre, hrg, hJp, hbr, hnd, hmem⟩ := hrel
    have hws := hb.size
    gi_wp2_with (first
      | (gi_at_next; refine wpListIn_nextS rfl _ rfl rfl hrg ?_ ?_)
      | fail)
    · intro hl0
      gi_wp2
      go_end0
      refine ⟨⟨_, rfl⟩, .inl ⟨pre, ⟨hnd, fun x => ?_⟩, hJp⟩⟩
      rw [hmem x]
      constructor
      · exact fun h => h.1
      · intro h
        obtain ⟨s, hs⟩ := Option.isSome_iff_exists.1 h
        exact ⟨h, hl0 x (hm.ok hs)⟩
    · intro x p' b l w2 cnt1 hx hlx hs hrg1 hlt hg1 hs1 hen
      have hJ2 := HJ.out _ _ _ hJp (hrg.std hg1 (Nat.le_refl _))
      have hsome : (F x).isSome = true := by rw [hs]; rfl
      have hnx : x ∉ pre := fun h => by have := (hmem x).1 h; rw [hlx] at this; cases this.2
      have hb2 : Below w0.heap.size w0 w2 := hbr.trans ⟨hg1.os, hg1.tape, hg1.output, hg1.size, fun k hk => hg1.block k (by have := hbr.size; omega) (fun e => by have := Option.some.inj e; omega)⟩
      obtain ⟨fn, tmps, assign, body, hy, hR⟩ := HY.out pre x #[.int .u64 x] w2 w2 ⟨hsome, hnx⟩ hJ2 (Below.refl _ _) rfl
      have HH := Lib.hid HY; clear HY
      have HR := Lib.hid hR; clear hR
      have HM := Lib.hid hmem
      have HS := Lib.hid hs
      have HLX := Lib.hid hlx
      clear hs1 hmem hs hlx hsome
      gi_wp2_with fail
      refine ⟨wide_n, HR.out.mono ?_⟩
      obtain ⟨ob, ho1, ho2⟩ := hrg1.rec
      have hmb1 : mb < w2.heap.size := hrg1.owns.lt
      rintro e W3 (⟨rfl, hJ3, hk3, hr3⟩ | ⟨rfl, hJx3⟩)
      · have hrg3 : RangeF krU erS W3 mb W.heap.size m F (fun y => left y && !decide (y = x)) cnt1 := hrg1.of_blocks (hk3.block _ hml) ((hr3.same _ _ (Nat.le_refl _) ho1 ho2).trans ho1.symm)
        gi_wp2
        go_roundw
        case rel =>
          refine ⟨_, cnt1, pre ++ [x], hrg3, hJ3, hb2.trans hk3, ?_, fun y => ?_⟩
          · rw [List.nodup_append]
            exact ⟨hnd, by simp, fun a ha b hb e => hnx (by simp at hb; rw [← hb, ← e]; exact ha)⟩
          · rw [List.mem_append, HM.out y, List.mem_singleton]
            by_cases e : y = x
            · subst e; simp [HS.out]
            · simp [e]
        case measure => rw [hrg3.left_eq, hrg.left_eq]; exact hlt
      · gi_wp2
        refine bodyPost_ret (results_none rfl _ _ _) rfl ?_
        exact ⟨⟨_, rfl⟩, .inr ⟨pre ++ [x], hJx3⟩⟩
end Go.Proofs.Ytddpnldgfdooiaa
