import Derived.Test.YtfapeemdlphjbaaDoorArF
import Derived.Test.YtfapeemdlphjbaaDoorRH
namespace Go.Proofs.YtfapeemdlphjbaaDoor
open Go.RowKit
attribute [local go_sem] World.cell?_alloc_some frozen_alloc_some

/-- the places of the bits that are 1. -/
def bitsN (n : Nat) : List Nat := (List.range 64).filter fun i => n.testBit i
theorem bitsN_mem {n i : Nat} : i ∈ bitsN n ↔ i < 64 ∧ n.testBit i = true := by unfold bitsN; simp
theorem bitsN_zero : bitsN 0 = [] := by unfold bitsN; simp
theorem filt_first (p : Nat → Bool) (k : Nat) (hlo : ∀ i, i < k → p i = false) (hk : p k = true) : ∀ N, k < N → (List.range N).filter p = k :: (List.range N).filter fun i => p i && !(i == k) := by
  intro N hN
  induction N with
  | zero => omega
  | succ N ih =>
    rw [List.range_succ, List.filter_append, List.filter_append]
    by_cases e : k = N
    · subst e
      have h1 : (List.range k).filter p = [] := List.filter_eq_nil_iff.2 fun i hi => by simp at hi; simp [hlo i hi]
      have h2 : (List.range k).filter (fun i => p i && !(i == k)) = [] := List.filter_eq_nil_iff.2 fun i hi => by simp at hi; simp [hlo i hi]
      rw [h1, h2]; simp [hk]
    · rw [ih (by omega)]
      have : (N == k) = false := by simp; omega
      simp [List.filter_cons, this]
theorem bitsN_step {n : Nat} (h0 : n ≠ 0) (h : n < 18446744073709551616) : bitsN n = Lib.ctz 64 n :: bitsN (n &&& (n - 1)) ∧ Lib.ctz 64 n < 64 ∧ n &&& (n - 1) < n := by
  obtain ⟨m, hm, hk⟩ := Lib.ctzFrom_spec 64 n (by omega) h
  have e : Lib.ctz 64 n = Lib.ctzFrom 64 n := by unfold Lib.ctz; rw [if_neg h0]
  rw [← e] at hm hk
  generalize Lib.ctz 64 n = k at hm hk ⊢
  have hp : 0 < 2 ^ k := Nat.two_pow_pos k
  have e1 : n = 2 ^ (k + 1) * m + 2 ^ k := by rw [hm, Nat.pow_succ, Nat.mul_add, Nat.mul_assoc, Nat.mul_one]
  have e2 : n - 1 = 2 ^ (k + 1) * m + (2 ^ k - 1) := by omega
  have hlt : 2 ^ k < 2 ^ (k + 1) := by rw [Nat.pow_succ]; omega
  have t1 : ∀ i, n.testBit i = if i < k + 1 then decide (i = k) else m.testBit (i - (k + 1)) := fun i => by
    rw [e1, Nat.testBit_two_pow_mul_add _ hlt, Nat.testBit_two_pow]
    by_cases c : i = k
    · subst c; simp
    · have : ¬ k = i := fun h => c h.symm
      simp [c, this]
  have t2 : ∀ i, (n - 1).testBit i = if i < k + 1 then decide (i < k) else m.testBit (i - (k + 1)) := fun i => by
    rw [e2, Nat.testBit_two_pow_mul_add _ (by omega), Nat.testBit_two_pow_sub_one]
  have t3 : ∀ i, (n &&& (n - 1)).testBit i = (n.testBit i && !(i == k)) := fun i => by
    rw [Nat.testBit_and, t1, t2]
    by_cases c : i < k + 1
    · by_cases d : i = k
      · subst d; simp
      · simp [c, d]
    · have d : ¬ i = k := by omega
      simp [c, d]
  refine ⟨?_, hk, ?_⟩
  · unfold bitsN
    rw [filt_first (fun i => n.testBit i) k (fun i hi => by rw [t1, if_pos (by omega)]; simp; omega) (by rw [t1, if_pos (by omega)]; simp) 64 hk]
    congr 1
    exact List.filter_congr fun i _ => (t3 i).symm
  · have := Nat.and_le_right (n := n) (m := n - 1); omega

/-- What comes with a bit. -/
def YBit (x : Nat) (vs : Array Value) : Prop := vs = #[.int .i64 x]
theorem bits_calls (w : World) (n : Nat) :
    Calls Tryd.prog 27 #[.int .u64 n] w fun e w' =>
      e = .returned (.func (.func 38) #[] #[.pointer (some ⟨w.heap.size, 0, none⟩)]) ∧ w' = w.alloc (.cells #[.int .u64 n] 61) := by
  go_enter Tryd.func27, Tryd.ntmps27
  go_wp2
  go_ret
  exact ⟨rfl, rfl⟩

set_option maxRecDepth 100000 in
set_option maxHeartbeats 4000000 in
theorem bits_iter (W : World) (n bx : Nat) {χ : Col} {Co : Nat → Prop} (hn : n < 18446744073709551616)
    (hbox : W.cell? ⟨bx, 0, none⟩ = some (.int .u64 n)) :
    IterP Tryd.prog 38 #[.pointer (some ⟨bx, 0, none⟩)] YBit Co (fun _ => False) Tab (fun _ _ => True) (bitsN n) χ W := by
  intro q l J Jx hP hJ hJx hY h0
  have HJ := Lib.hid hJ
  have HY := Lib.hid hY
  have HP := Lib.hid hP
  clear hJ hJx hY hP
  have htc := Lib.hid fun (W' : World) (x : Nat) (hx : x < 18446744073709551616) (h : Tab W') => tz_calls x hx W' h
  refine callsIn_of_wp Tryd.func38 rfl trivial ?_ rfl
  simp only [Tryd.ntmps38, List.size_toArray, List.length_cons, List.length_nil, Nat.reduceAdd, Nat.reduceSub, Array.replicate_succ, Array.replicate_zero, List.push_toArray, List.append_toArray, List.nil_append, List.cons_append]
  gi_wp2
  gi_loopw [3] (fun i wr => ∃ (left : Nat) (pre : List Nat) (χ1 : Col), i = .int .u64 left ∧ left < 18446744073709551616 ∧ Hid (bitsN n = pre ++ bitsN left) ∧ J pre χ1 wr ∧ Hid (∀ b, b < W.heap.size → χ1 b = χ b) ∧ Hid (Chg χ Co W wr)) (fun i _ => (intOf i).toNat)
  case atStart => exact ⟨n, [], χ, rfl, hn, rfl, h0, fun _ _ => rfl, Chg.of_below (Below.refl _ _)⟩
  case round =>
    obtain ⟨left, pre, χ1, rfl, hleft, HB, hJk, AG, CH⟩ := hrel
    by_cases h0' : left = 0
    · subst h0'
      have HB2 : pre = bitsN n := by rw [HB.out, bitsN_zero]; simp
      subst HB2
      gi_wp2
      go_end0
      exact ⟨⟨_, rfl⟩, χ1, AG.out, CH.out.mono fun _ => .inl, .inl ⟨trivial, hJk⟩⟩
    · obtain ⟨s1, s2, s3⟩ := bitsN_step h0' hleft
      obtain ⟨c, hc⟩ : ∃ c, c = Lib.ctz 64 left := ⟨_, rfl⟩
      obtain ⟨nx, hnx⟩ : ∃ nx, nx = left &&& (left - 1) := ⟨_, rfl⟩
      rw [← hc, ← hnx] at s1
      rw [← hc] at s2
      rw [← hnx] at s3
      have htz := htc.out wr left hleft (HP.out _ _ _ hJk)
      rw [← hc] at htz
      have HTZ := Lib.hid htz
      have hand : bits BinOp.and IntKind.u64 (left : Int) ((left : Int) - 1) = (nx : Int) := by
        rw [show (left : Int) - 1 = ((left - 1 : Nat) : Int) by omega, bits_and_u64_nat _ _ hleft (by omega), hnx]
      have HB2 : Hid (bitsN n = (pre ++ [c]) ++ bitsN nx) := by show _ = _; rw [HB.out, s1]; simp
      have hne : ((left : Int) == 0) = false := by simpa using h0'
      clear htz hc hnx s1
      gi_wp2_with (refine ⟨trivial, wide_n, ?_⟩; gi_at_call 39; refine (callsIn_wide.2 HTZ.out).mono ?_; rintro e wr ⟨rfl, rfl⟩)
      obtain ⟨fn, tm, asg, bd, hy, hR5⟩ := HY.out (q - 1) pre c (bitsN nx) _ _ _ (by rw [HB2.out]; simp) hJk rfl
      have HR5 := Lib.hid hR5
      clear hR5 hJk
      rw [hy]
      gi_wp2
      refine ⟨wide_n, HR5.out.mono ?_⟩
      rintro e W4 ⟨χ4, ag4, hc4, hj4⟩
      have hWr : W.heap.size ≤ wr.heap.size := CH.out.size
      have AG4 : Hid (∀ b, b < W.heap.size → χ4 b = χ b) := fun b hb => (ag4 b (by omega)).trans (AG.out b hb)
      have CH4 : Hid (Chg χ Co W W4) := CH.out.trans AG.out hc4
      clear hc4 ag4
      rcases hj4 with ⟨rfl, hj⟩ | ⟨rfl, hj⟩
      · gi_wp2_with (rw [hand])
        go_roundw
        case rel => exact ⟨nx, pre ++ [c], χ4, rfl, by omega, HB2, hj, AG4, CH4⟩
        case measure => simp [intOf]; omega
      · gi_wp2
        refine bodyPost_ret (results_none rfl _ _ _) rfl ?_
        exact ⟨⟨_, rfl⟩, χ4, AG4.out, CH4.out.mono fun _ => .inl, .inr ⟨pre ++ [c], ⟨bitsN nx, HB2.out.symm⟩, hj⟩⟩
end Go.Proofs.YtfapeemdlphjbaaDoor
