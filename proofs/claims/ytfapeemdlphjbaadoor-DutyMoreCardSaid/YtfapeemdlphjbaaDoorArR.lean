import Derived.Test.YtfapeemdlphjbaaDoorArP
import Derived.Laws.BitsAllLaws
namespace Go.Proofs.YtfapeemdlphjbaaDoor
open Go.RowKit

/-! Plain laws of the areas that a mask makes. -/
theorem i64_and_low (n : Int) : bits .and .i64 n 15 = n % 16 ∧ bits .and .i64 n 31 = n % 32 := by
  have key : ∀ k : Nat, (BitVec.ofInt 64 n &&& BitVec.ofNat 64 (2 ^ k - 1)).toNat = (n % ((2 ^ 64 : Nat) : Int)).toNat &&& (2 ^ k - 1) % 2 ^ 64 := fun k => by
    rw [BitVec.toNat_and, BitVec.toNat_ofInt, BitVec.toNat_ofNat]
  constructor
  · have k4 := key 4
    rw [show (2 ^ 4 - 1) % 2 ^ 64 = 2 ^ 4 - 1 by decide, Nat.and_two_pow_sub_one_eq_mod] at k4
    show IntKind.i64.wrap ((BitVec.ofInt 64 n &&& BitVec.ofInt 64 15).toNat : Nat) = n % 16
    rw [show BitVec.ofInt 64 15 = BitVec.ofNat 64 (2 ^ 4 - 1) by decide, k4, IntKind.wrap_i64]
    omega
  · have k5 := key 5
    rw [show (2 ^ 5 - 1) % 2 ^ 64 = 2 ^ 5 - 1 by decide, Nat.and_two_pow_sub_one_eq_mod] at k5
    show IntKind.i64.wrap ((BitVec.ofInt 64 n &&& BitVec.ofInt 64 31).toNat : Nat) = n % 32
    rw [show BitVec.ofInt 64 31 = BitVec.ofNat 64 (2 ^ 5 - 1) by decide, k5, IntKind.wrap_i64]
    omega
theorem nf_len {l : List Sp} (h : WfS l) : (nf l).length ≤ l.length := by
  have hp : ((l.filter okSp).mergeSort fun s t => decide (s.1 ≤ t.1)).Perm (l.filter okSp) := List.mergeSort_perm _ _
  have hs : ((l.filter okSp).mergeSort fun s t => decide (s.1 ≤ t.1)).Pairwise fun s t => s.1 ≤ t.1 := by
    have := List.pairwise_mergeSort (le := fun (s t : Sp) => decide (s.1 ≤ t.1)) (by intro a b c h1 h2; simp at *; omega) (by intro a b; simp; omega) (l.filter okSp)
    exact this.imp fun h => by simpa using h
  rw [(nf_spec h).eq (make_spec h hp hs) (fun _ => Iff.rfl)]
  refine Nat.le_trans (mfold_len _) ?_
  rw [hp.length_eq]
  exact List.length_filter_le _ _
theorem nf_len20 {l : List Sp} (h : WfS l) (h20 : ¬ 20 < l.length) : (nf l).length ≤ 20 := Nat.le_trans (nf_len h) (by omega)
theorem ofL_at (N : Nat) (pre : List Nat) (m : List Sp) (i : Nat) : atA (ofL N pre m) i = if i < N ∧ i ∈ pre then m else [] := by
  by_cases h : i < N
  · rw [atA_lt (by rw [ofL_len]; exact h)]
    simp [ofL, h]
  · rw [atA_ge (by rw [ofL_len]; omega)]
    simp [h]
theorem mem_ofL {N x i k : Nat} {m : List Sp} (hN : N ≤ 16) : Mem k (atA (ofL N (bitsN x) m) i) ↔ (i < N ∧ x.testBit i = true) ∧ Mem k m := by
  rw [ofL_at]
  by_cases h : i < N ∧ i ∈ bitsN x
  · rw [if_pos h]
    exact ⟨fun g => ⟨⟨h.1, (bitsN_mem.1 h.2).2⟩, g⟩, fun g => g.2⟩
  · rw [if_neg h]
    exact ⟨fun g => (mem_nil g).elim, fun g => absurd ⟨g.1.1, bitsN_mem.2 ⟨by omega, g.1.2⟩⟩ h⟩
theorem in_ofL {N x key : Nat} {lab : Int} {s : List Sp} (hN : N ≤ 16) (hs : WfS s) :
    inA (ofL N (bitsN x) (nf s)) lab key = (decide (0 ≤ lab) && decide (lab < N) && x.testBit lab.toNat && memB key s) := eq_of_iff (by
  simp only [Bool.and_eq_true, decide_eq_true_iff, in_of, mem_ofL hN, memB_iff, (nf_spec hs).iff]
  constructor
  · rintro ⟨h0, ⟨h1, h2⟩, h3⟩; exact ⟨⟨⟨h0, by omega⟩, h2⟩, h3⟩
  · rintro ⟨⟨⟨h0, h1⟩, h2⟩, h3⟩; exact ⟨h0, ⟨by omega, h2⟩, h3⟩)
theorem ofL_wf {N : Nat} {pre : List Nat} {m : List Sp} (hm : WfS m) : ∀ l ∈ ofL N pre m, WfS l := fun l hl => by
  simp only [ofL, List.mem_map] at hl
  obtain ⟨i, -, rfl⟩ := hl
  split
  · exact hm
  · intro s hs; simp at hs
theorem ofL_sm {N n : Nat} {pre : List Nat} {m : List Sp} (hm : m.length ≤ n) : Sm n (ofL N pre m) := fun l hl => by
  simp only [ofL, List.mem_map] at hl
  obtain ⟨i, -, rfl⟩ := hl
  split
  · exact hm
  · simp
theorem mask_ofL {N x : Nat} {s : List Sp} (hN : N ≤ 16) (hs : WfS s) (hne : nf s ≠ []) : maskA (ofL N (bitsN x) (nf s)) = x &&& (2 ^ N - 1) := by
  obtain ⟨k, hk⟩ : ∃ k, Mem k (nf s) := Classical.byContradiction fun h => hne ((nf_nil hs).2 fun k hk => h ⟨k, ((nf_spec hs).iff k).2 hk⟩)
  refine Nat.eq_of_testBit_eq fun i => eq_of_iff ?_
  rw [maskA_bit (ofL_wf (nf_spec hs).nf.wf), Nat.testBit_and, Nat.testBit_two_pow_sub_one, Bool.and_eq_true, decide_eq_true_iff]
  unfold HasL
  simp only [mem_ofL hN]
  exact ⟨fun ⟨_, k, h, _⟩ => ⟨h.2, h.1⟩, fun ⟨h1, h2⟩ => ⟨by omega, k, ⟨h2, h1⟩, hk⟩⟩
theorem mask_ofL0 {N x : Nat} {s : List Sp} (hN : N ≤ 16) (hs : WfS s) (hne : nf s = []) : maskA (ofL N (bitsN x) (nf s)) = 0 := by
  refine Nat.eq_of_testBit_eq fun i => eq_of_iff ?_
  rw [maskA_bit (ofL_wf (nf_spec hs).nf.wf), Nat.zero_testBit, hne]
  unfold HasL
  simp only [mem_ofL hN]
  exact ⟨fun ⟨_, k, _, h⟩ => (mem_nil h).elim, fun h => by simp at h⟩
theorem same_uL {N x y z : Nat} {m : List Sp} {u : Ar} (hN : N ≤ 16) (hu : IsU (ofL N (bitsN x) m) (ofL N (bitsN y) m) u) (hz : ∀ i, z.testBit i = (x.testBit i || y.testBit i)) :
    subB u (ofL N (bitsN z) m) = true ∧ subB (ofL N (bitsN z) m) u = true := by
  have e : ∀ i k, Mem k (atA u i) ↔ Mem k (atA (ofL N (bitsN z) m) i) := fun i k => by
    rw [(hu i).iff, mem_ofL hN, mem_ofL hN, mem_ofL hN, hz, Bool.or_eq_true]
    constructor
    · rintro (⟨⟨a, b⟩, c⟩ | ⟨⟨a, b⟩, c⟩)
      · exact ⟨⟨a, .inl b⟩, c⟩
      · exact ⟨⟨a, .inr b⟩, c⟩
    · rintro ⟨⟨a, b | b⟩, c⟩
      · exact .inl ⟨⟨a, b⟩, c⟩
      · exact .inr ⟨⟨a, b⟩, c⟩
  exact ⟨subB_iff.2 fun i k h => (e i k).1 h, subB_iff.2 fun i k h => (e i k).2 h⟩
theorem same_mL {N x y z : Nat} {m : List Sp} {u : Ar} (hN : N ≤ 16) (hu : IsM (ofL N (bitsN x) m) (ofL N (bitsN y) m) u) (hz : ∀ i, z.testBit i = (x.testBit i && y.testBit i)) :
    subB u (ofL N (bitsN z) m) = true ∧ subB (ofL N (bitsN z) m) u = true := by
  have e : ∀ i k, Mem k (atA u i) ↔ Mem k (atA (ofL N (bitsN z) m) i) := fun i k => by
    rw [(hu i).iff, mem_ofL hN, mem_ofL hN, mem_ofL hN, hz, Bool.and_eq_true]
    exact ⟨fun ⟨⟨⟨a, b⟩, c⟩, ⟨_, b2⟩, _⟩ => ⟨⟨a, b, b2⟩, c⟩, fun ⟨⟨a, b, b2⟩, c⟩ => ⟨⟨⟨a, b⟩, c⟩, ⟨a, b2⟩, c⟩⟩
  exact ⟨subB_iff.2 fun i k h => (e i k).1 h, subB_iff.2 fun i k h => (e i k).2 h⟩
theorem same_dL {N x y z : Nat} {m : List Sp} {u : Ar} (hN : N ≤ 16) (hu : IsD (ofL N (bitsN x) m) (ofL N (bitsN y) m) u) (hz : ∀ i, i < 16 → z.testBit i = (x.testBit i && !y.testBit i)) :
    subB u (ofL N (bitsN z) m) = true ∧ subB (ofL N (bitsN z) m) u = true := by
  have e : ∀ i k, Mem k (atA u i) ↔ Mem k (atA (ofL N (bitsN z) m) i) := fun i k => by
    rw [(hu i).iff, mem_ofL hN, mem_ofL hN, mem_ofL hN]
    constructor
    · rintro ⟨⟨⟨a, b⟩, c⟩, h⟩
      refine ⟨⟨a, ?_⟩, c⟩
      rw [hz i (by omega), b]
      cases q : y.testBit i
      · rfl
      · exact (h ⟨⟨a, q⟩, c⟩).elim
    · rintro ⟨⟨a, b⟩, c⟩
      rw [hz i (by omega), Bool.and_eq_true, Bool.not_eq_true'] at b
      exact ⟨⟨⟨a, b.1⟩, c⟩, fun h => by rw [b.2] at h; simp at h⟩
  exact ⟨subB_iff.2 fun i k h => (e i k).1 h, subB_iff.2 fun i k h => (e i k).2 h⟩
theorem andnot_nat (x y : Nat) (hx : x < 4294967296) (hy : y < 4294967296) : ∃ z : Nat, bits .andNot .u32 (x : Int) (y : Int) = (z : Int) ∧ z < 4294967296 ∧ ∀ i, i < 16 → z.testBit i = (x.testBit i && !y.testBit i) := by
  refine ⟨x &&& (4294967295 - y), u32_andNot_nat x y hx hy, Nat.lt_of_le_of_lt Nat.and_le_left hx, fun i hi => ?_⟩
  rw [Nat.testBit_and, show 4294967295 - y = 2 ^ 32 - (y + 1) by omega, Nat.testBit_two_pow_sub_succ (by omega)]
  simp [show i < 32 by omega]
theorem bit_at {x : Nat} {lab : Nat} (hx : x < 4294967296) : bits .and .u32 ((x >>> lab : Nat) : Int) 1 = if x.testBit lab then 1 else 0 := by
  have h1 : x >>> lab < 4294967296 := Nat.lt_of_le_of_lt (Nat.shiftRight_le _ _) hx
  have h2 := u32_and_nat (x >>> lab) 1 h1 (by decide)
  rw [show ((1 : Nat) : Int) = 1 by rfl] at h2
  rw [h2, Nat.and_one_is_mod, Nat.testBit_eq_decide_div_mod_eq, Nat.shiftRight_eq_div_pow]
  rcases Nat.mod_two_eq_zero_or_one (x / 2 ^ lab) with h | h <;> simp [h]
theorem low_mask {N : Nat} (hN : N ≤ 16) : ∃ p : Nat, p = 2 ^ N ∧ 1 ≤ p ∧ p ≤ 65536 := ⟨2 ^ N, rfl, Nat.one_le_two_pow, by
  have : 2 ^ N ≤ 2 ^ 16 := Nat.pow_le_pow_right (by omega) hN
  omega⟩
theorem low_and {x M : Nat} (hx : x < 4294967296) (hM : M < 16) : bits .and .u32 (x : Int) (((2 : Int) ^ (1 + M) - 1) % 4294967296) = ((x &&& (2 ^ (M + 1) - 1) : Nat) : Int) := by
  obtain ⟨p, hp, h1, h2⟩ := low_mask (N := M + 1) (by omega)
  have e : (2 : Int) ^ (1 + M) = (p : Int) := by rw [hp, Nat.add_comm 1 M]; simp
  rw [e, ← hp, show ((p : Int) - 1) % 4294967296 = ((p - 1 : Nat) : Int) by omega, u32_and_nat _ _ hx (by omega)]
end Go.Proofs.YtfapeemdlphjbaaDoor
