import Derived.Test.YtjlkkbjolfhobaaDoorArC
import Derived.Test.YtjlkkbjolfhobaaDoorRG
import Derived.Test.YtjlkkbjolfhobaaDoorIvJ
namespace Go.Proofs.YtjlkkbjolfhobaaDoor
open Go.RowKit
attribute [local go_sem] World.cell?_alloc_some frozen_alloc_some

/-- the set of a row of spans. -/
def nf (l : List Sp) : List Sp := buildL l [] 0
theorem nf_spec {l : List Sp} (h : WfS l) : IsSet (fun k => Mem k l) (nf l) := buildMake_spec h
/-- the spans of the first k labels, each with its label. -/
def cellsTo (a : Ar) (k : Nat) : List (Nat × Sp) := (List.range k).flatMap fun i => (nf (atA a i)).map fun s => (i, s)
theorem cellsTo_succ (a : Ar) (k : Nat) : cellsTo a (k + 1) = cellsTo a k ++ (nf (atA a k)).map fun s => (k, s) := by
  unfold cellsTo; rw [List.range_succ, List.flatMap_append]; simp
theorem cellsTo_pre (a : Ar) {k n : Nat} (h : k ≤ n) : cellsTo a k <+: cellsTo a n := by
  induction n with
  | zero => rw [show k = 0 by omega]; exact List.prefix_refl _
  | succ n ih =>
    by_cases e : k = n + 1
    · rw [e]; exact List.prefix_refl _
    · rw [cellsTo_succ]; exact (ih (by omega)).trans (List.prefix_append _ _)
def cellsL (a : Ar) : List (Nat × Sp) := cellsTo a a.length

/-- What comes with a cell. -/
def YCell (x : Nat × Sp) (vs : Array Value) : Prop := vs = #[.int .i64 x.1, .agg #[.int .u32 x.2.1, .int .u32 x.2.2]]

theorem cells_calls (w : World) (A : Option Addr) (n c : Nat) :
    Calls Tryd.prog 39 #[.slice A n c] w fun e w' =>
      e = .returned (.func (.func 56) #[] #[.pointer (some ⟨w.heap.size, 0, none⟩)]) ∧ w' = w.alloc (.cells #[.slice A n c] 22) := by
  go_enter Tryd.func39, Tryd.ntmps39
  go_wp2
  go_ret
  exact ⟨rfl, rfl⟩

set_option maxRecDepth 100000 in
set_option maxHeartbeats 4000000 in
theorem cells_iter (w0 W : World) (v : Value) (bx : Nat) (a : Ar) {χ : Col} {Co : Nat → Prop} {cT : Nat} (hr : RdA w0 v a) (hs : Sm 100000 a) (hb : Below w0.heap.size w0 W) (hlow : ∀ b, b < w0.heap.size → ¬ Co (χ b)) (hT : ¬ Co cT)
    (hbox : W.cell? ⟨bx, 0, none⟩ = some v) :
    IterC Tryd.prog 56 #[.pointer (some ⟨bx, 0, none⟩)] YCell Co (fun x => x = cT) (fun _ _ => True) (cellsL a) χ W := by
  intro n l J Jx hJ hJx hY h0
  obtain ⟨A, cap, rfl, a1, a2, a3, -⟩ := id hr
  unfold maxLen at a2
  have HR := Lib.hid hr
  have HSM := Lib.hid hs
  have HJ := Lib.hid hJ
  have HY := Lib.hid hY
  have HL := Lib.hid hlow
  have HT := Lib.hid hT
  clear hJ hJx hY hr hs hlow hT
  have hz0 := hb.size
  refine callsIn_of_wp Tryd.func56 rfl trivial ?_ rfl
  simp only [Tryd.ntmps56, List.size_toArray, List.length_cons, List.length_nil, Nat.reduceAdd, Nat.reduceSub, Array.replicate_succ, Array.replicate_zero, List.push_toArray, List.append_toArray, List.nil_append, List.cons_append]
  gi_wp2
  gi_loopw [9] (fun i wr => ∃ (k : Nat) (χ1 : Col), k ≤ a.length ∧ i = .int .i64 k ∧ J (cellsTo a k) χ1 wr ∧ Hid (∀ b, b < W.heap.size → χ1 b = χ b) ∧ Hid (Chg χ (fun x => Co x ∨ x = cT) W wr) ∧ Below w0.heap.size w0 wr) (fun i _ => a.length - (intOf i).toNat)
  case atStart => exact ⟨0, χ, by omega, rfl, h0, fun _ _ => rfl, Chg.of_below (Below.refl _ _), hb⟩
  case round =>
    obtain ⟨k, χ1, hk, rfl, hJk, AG, CH, hbr⟩ := hrel
    obtain ⟨wo, rfl⟩ : ∃ wo, wo = wr := ⟨_, rfl⟩
    by_cases hlt : k < a.length
    · obtain ⟨gb, go, u, rfl, hc, hu⟩ := (HR.out.keep hbr).get k hlt
      have hll := HSM.out _ (List.getElem_mem hlt)
      obtain ⟨m, hm⟩ : ∃ m, m = a[k] := ⟨_, rfl⟩
      rw [← hm] at hu hll
      have hat : Hid (atA a k = m) := by show _ = _; rw [atA_lt hlt, hm]
      obtain ⟨A', c', rfl, -⟩ := id hu
      have HU := Lib.hid hu
      clear hm hu
      gi_wp2_with (refine ⟨trivial, wide_n, ?_⟩; gi_at_call 29; refine (callsIn_wide.2 (make_calls _ _ _ HU.out hll)).mono ?_; rintro e w1 ⟨v1, r, rfl, N1, hset, hrl, hb1⟩; obtain ⟨A1, c1, rfl⟩ := N1.form)
      have hwf : WfS m := fun s hs => HU.out.wf s hs
      have hrn : r = nf m := hset.eq (nf_spec hwf) fun _ => Iff.rfl
      have N1' := Lib.hid N1
      have hn1 : r.length ≤ 1000000 := N1.2.2
      have hrn' : Hid (atA a k = m ∧ r = nf m) := ⟨hat.out, hrn⟩
      clear hset hrn hwf hll N1
      gi_wp2
      gi_loopw [17] (fun j wr => ∃ (q : Nat) (χ2 : Col), q ≤ r.length ∧ j = .int .i64 q ∧ J (cellsTo a k ++ (r.take q).map fun s => (k, s)) χ2 wr ∧ Hid (∀ b, b < w1.heap.size → χ2 b = paint χ1 wo.heap.size cT b) ∧ Hid (Chg (paint χ1 wo.heap.size cT) (fun x => Co x) w1 wr)) (fun j _ => r.length - (intOf j).toNat)
      case atStart => exact ⟨0, paint χ1 wo.heap.size cT, by omega, rfl, by simpa using HJ.out _ _ _ _ _ hJk (Same.below cT hb1), fun _ _ => rfl, Chg.of_below (Below.refl _ _)⟩
      case round =>
        obtain ⟨q, χ2, hq, rfl, hJq, AG2, CH2⟩ := hrel
        by_cases hlq : q < r.length
        · have hsz1 := hb1.size
          have N2 : NewS wo.heap.size wr (.slice A1 r.length c1) r := ⟨owns_same N1'.out.1 fun b e => CH2.out.blk b (N1'.out.1.lt b e).2 (by rw [paint_high (N1'.out.1.lt b e).1]; exact HT.out), N1'.out.2⟩
          obtain ⟨gb2, go2, rfl, p0, p1, -⟩ := N2.rd.get q hlq
          clear N2
          obtain ⟨s1, hs1⟩ : ∃ s1, s1 = r[q] := ⟨_, rfl⟩
          rw [← hs1] at p0 p1
          have HTK : Hid (r.take (q + 1) = r.take q ++ [s1]) := by rw [hs1]; exact List.take_succ_eq_append_getElem hlq
          have hsplit : Hid (∃ rest, cellsL a = (cellsTo a k ++ (r.take q).map fun s => (k, s)) ++ (k, s1) :: rest) := by
            obtain ⟨rest, hrest⟩ := cellsTo_pre a (show k + 1 ≤ a.length from hlt)
            refine ⟨(r.drop (q + 1)).map (fun s => (k, s)) ++ rest, ?_⟩
            show cellsTo a a.length = _
            rw [← hrest, cellsTo_succ, hrn'.out.1, ← hrn'.out.2]
            conv => lhs; rw [← List.take_append_drop (q + 1) r, HTK.out]
            simp
          clear hs1
          gi_wp2
          have hba := (Below.refl wr.heap.size wr).alloc (Nat.le_refl _) (.cells #[.int .u32 s1.1, .int .u32 s1.2] 37)
          have hJa := HJ.out _ _ _ _ _ hJq (Same.below cT hba)
          obtain ⟨rest, hrest⟩ := hsplit.out
          obtain ⟨fn, tm, asg, bd, hy, hR5⟩ := HY.out (n - 1) _ (k, s1) rest _ _ _ hrest hJa rfl
          have HR5 := Lib.hid hR5
          have HREST := Lib.hid hrest
          clear hR5 hrest hJa hJq
          rw [hy]
          gi_wp2
          refine ⟨wide_n, HR5.out.mono ?_⟩
          rintro e W4 ⟨χ4, ag4, hc4, hj4⟩
          have hc4' : Hid (Chg χ2 (fun x => Co x) wr W4) := (Chg.of_below hba).trans (χ' := paint χ2 wr.heap.size cT) (fun b hb => paint_low hb) hc4
          have ag4' : Hid (∀ b, b < wr.heap.size → χ4 b = χ2 b) := fun b hb => (ag4 b (by have := hba.size; omega)).trans (paint_low hb)
          have hsw : w1.heap.size ≤ wr.heap.size := CH2.out.size
          have hc5 : Hid (Chg (paint χ1 wo.heap.size cT) (fun x => Co x) w1 W4) := CH2.out.trans AG2.out hc4'.out
          have ag5 : Hid (∀ b, b < w1.heap.size → χ4 b = paint χ1 wo.heap.size cT b) := fun b hb => (ag4'.out b (by omega)).trans (AG2.out b hb)
          clear hc4 ag4 hba
          rcases hj4 with ⟨rfl, hj⟩ | ⟨rfl, hj⟩
          · gi_wp2
            go_roundw
            case rel => exact ⟨q + 1, χ4, hlq, by go_num, by rw [HTK.out, List.map_append, List.map_cons, List.map_nil, ← List.append_assoc]; exact hj, ag5, hc5⟩
            case measure => simp [intOf]; omega
          · gi_wp2
            refine bodyPost_ret (results_none rfl _ _ _) rfl ?_
            have hzo := hbr.size
            have hz1 := hb1.size
            have hWo : W.heap.size ≤ wo.heap.size := CH.out.size
            refine ⟨⟨_, rfl⟩, χ4, fun b hb => (ag5.out b (by omega)).trans ((paint_low (by omega)).trans (AG.out b hb)), ?_, .inr ⟨_, ⟨rest, ?_⟩, hj⟩⟩
            · exact (CH.out.trans (χ' := χ1) AG.out ((Chg.of_below hb1).trans (χ' := paint χ1 wo.heap.size cT) (fun b hb => paint_low hb) (hc5.out.mono fun _ => .inl)))
            · rw [HREST.out]; simp
        · have hqq : q = r.length := by omega
          subst hqq
          have hzo := hbr.size
          have hz1 := hb1.size
          have hWo : W.heap.size ≤ wo.heap.size := CH.out.size
          have hJ6 : Hid (J (cellsTo a (k + 1)) χ2 wr) := by
            show J _ _ _
            rw [cellsTo_succ, hrn'.out.1, ← hrn'.out.2]
            rw [List.take_length] at hJq; exact hJq
          have AG6 : Hid (∀ b, b < W.heap.size → χ2 b = χ b) := fun b hb => (AG2.out b (by omega)).trans ((paint_low (by omega)).trans (AG.out b hb))
          have CH6 : Hid (Chg χ (fun x => Co x ∨ x = cT) W wr) := (CH.out.trans (χ' := χ1) AG.out ((Chg.of_below hb1).trans (χ' := paint χ1 wo.heap.size cT) (fun b hb => paint_low hb) (CH2.out.mono fun _ => .inl)))
          have hb6 : Below w0.heap.size w0 wr := (hbr.trans (hb1.mono hzo)).trans (CH2.out.below (n := w0.heap.size) (fun b hb => by rw [paint_low (by omega), AG.out b (by omega)]; exact HL.out b hb) (by omega))
          clear hJq
          gi_wp2
          go_roundw
          case rel => exact ⟨k + 1, χ2, hlt, by go_num, hJ6.out, AG6, CH6, hb6⟩
          case measure => simp [intOf]; omega
    · have hkk : k = a.length := by omega
      rw [hkk] at hJk
      clear hkk
      gi_wp2
      go_end0
      exact ⟨⟨_, rfl⟩, χ1, AG.out, CH.out, .inl ⟨trivial, hJk⟩⟩
end Go.Proofs.YtjlkkbjolfhobaaDoor
