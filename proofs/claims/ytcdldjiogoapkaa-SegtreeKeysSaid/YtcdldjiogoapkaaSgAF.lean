import Derived.Test.YtcdldjiogoapkaaSgAE
namespace Go.Proofs.Ytcdldjiogoapkaa
open Go.RowKit

/-- How many of the last bits have to go till two keys are one. -/
def distF : Nat → Nat → Nat → Nat
  | 0, _, _ => 0
  | f + 1, a, b => if a = b then 0 else distF f (a / 2) (b / 2) + 1
theorem distF_spec (f : Nat) : ∀ (a b : Nat), a < 2 ^ f → b < 2 ^ f → distF f a b ≤ f ∧ ∀ d, (distF f a b ≤ d ↔ a / 2 ^ d = b / 2 ^ d) := by
  induction f with
  | zero =>
    intro a b ha hb
    have : a = 0 := by simpa using ha
    have : b = 0 := by simpa using hb
    subst a b
    exact ⟨Nat.le_refl _, fun d => by simp [distF]⟩
  | succ f ih =>
    intro a b ha hb
    obtain ⟨h1, h2⟩ := ih (a / 2) (b / 2) (by rw [Nat.pow_succ] at ha; omega) (by rw [Nat.pow_succ] at hb; omega)
    unfold distF
    by_cases e : a = b
    · subst e; rw [if_pos rfl]; exact ⟨Nat.zero_le _, fun d => by simp⟩
    · rw [if_neg e]
      refine ⟨by omega, fun d => ?_⟩
      cases d with
      | zero => simp [e]
      | succ d =>
        rw [Nat.pow_succ, Nat.mul_comm, ← Nat.div_div_eq_div_mul, ← Nat.div_div_eq_div_mul, ← h2 d]
        omega
def lackL : List Nat → Nat → Nat
  | [], _ => 33
  | k :: ks, key => min (distF 32 k key) (lackL ks key)
theorem lackL_le (ks : List Nat) (key : Nat) : lackL ks key ≤ 33 := by
  induction ks with
  | nil => exact Nat.le_refl _
  | cons k ks ih => exact Nat.le_trans (Nat.min_le_right _ _) ih
theorem lackL_spec (ks : List Nat) (key : Nat) (hks : ∀ k ∈ ks, k < 4294967296) (hk : key < 4294967296) : Lacks (fun k => k ∈ ks) key (lackL ks key) := by
  refine ⟨lackL_le _ _, fun d hd => ?_⟩
  induction ks with
  | nil => simp [lackL]; omega
  | cons k ks ih =>
    have h1 := (distF_spec 32 k key (hks k (by simp)) hk).2 d
    have h2 := ih (fun k hk => hks k (by simp [hk]))
    show min _ _ ≤ d ↔ _
    have hmin : min (distF 32 k key) (lackL ks key) ≤ d ↔ distF 32 k key ≤ d ∨ lackL ks key ≤ d := by omega
    rw [hmin, h1, h2]
    simp
theorem Lacks.congr {e e' : Nat → Prop} {key m : Nat} (h : Lacks e key m) (he : ∀ k, e k ↔ e' k) : Lacks e' key m :=
  ⟨h.1, fun d hd => by rw [h.2 d hd]; exact ⟨fun ⟨k, a, b⟩ => ⟨k, (he k).1 a, b⟩, fun ⟨k, a, b⟩ => ⟨k, (he k).2 a, b⟩⟩⟩
theorem STr.congr {c pt n : Nat} {χ : Col} {w : World} {lim : Int} {row : List (Nat × Int)} {e e' : Nat → Prop} (h : STr c χ w pt lim row e n) (he : ∀ k, e k ↔ e' k) : STr c χ w pt lim row e' n := by
  obtain ⟨ns, root, h1, ⟨t, k1, k2, k3, k4, k5, k6, k7, k8⟩, h3⟩ := h
  exact ⟨ns, root, h1, ⟨t, k1, k2, k3, k4, k5, k6, fun k => (k7 k).trans (he k), k8⟩, h3⟩

/-- Within a law: the tree, of color 1 (to 3), with its row, all keys that were ever put (the last one first), and its nodes. -/
structure Lw (w : World) (χ : Col) (W : World) (pt : Nat) (lim : Int) (row : List (Nat × Int)) (ever : List Nat) (n : Nat) : Prop where
  tr : STr 1 χ W pt lim row (fun k => k ∈ ever) n
  bel : Below w.heap.size w W
  low : ∀ b, b < w.heap.size → χ b = 0
abbrev tree1 (x : Nat) : Prop := 1 ≤ x ∧ x ≤ 1 + 2

variable {w : World} {χ : Col} {W W' : World} {pt n n' : Nat} {lim : Int} {row row' : List (Nat × Int)} {ever : List Nat}
theorem Lw.below (h : Lw w χ W pt lim row ever n) (hb : Below W.heap.size W W') (c : Nat) : Lw w (paint χ W.heap.size c) W' pt lim row ever n :=
  ⟨h.tr.keep (Same.below c hb), h.bel.trans (hb.mono h.bel.size), fun b hl => (paint_low (Nat.lt_of_lt_of_le hl h.bel.size)).trans (h.low b hl)⟩
theorem Lw.chg {χ' : Col} (h : Lw w χ W pt lim row ever n) (ag : ∀ b, b < W.heap.size → χ' b = χ b) (hc : Chg χ tree1 W W') (ht : STr 1 χ' W' pt lim row' (fun k => k ∈ ever) n') : Lw w χ' W' pt lim row' ever n' :=
  ⟨ht, h.bel.trans (hc.below (fun b hb e => by rw [h.low b hb] at e; omega) h.bel.size), fun b hb => (ag b (Nat.lt_of_lt_of_le hb h.bel.size)).trans (h.low b hb)⟩
theorem Lw.call (h : Lw w χ W pt lim row ever n) (hs : STo 1 χ W W' pt lim row' (fun k => k ∈ ever) n') : ∃ χ', (∀ b, b < W.heap.size → χ' b = χ b) ∧ Chg χ tree1 W W' ∧ Lw w χ' W' pt lim row' ever n' := by
  obtain ⟨χ', h1, h2, h3⟩ := hs
  exact ⟨χ', h1, h3, h.chg h1 h3 h2⟩
theorem Lw.put {key : Nat} (h : Lw w χ W pt lim row ever n) (hs : STo 1 χ W W' pt lim row' (fun k => k = key ∨ k ∈ ever) n') : ∃ χ', (∀ b, b < W.heap.size → χ' b = χ b) ∧ Chg χ tree1 W W' ∧ Lw w χ' W' pt lim row' (key :: ever) n' := by
  obtain ⟨χ', h1, h2, h3⟩ := hs
  exact ⟨χ', h1, h3, ⟨h2.congr fun k => by simp, h.bel.trans (h3.below (fun b hb e => by rw [h.low b hb] at e; omega) h.bel.size), fun b hb => (h1 b (Nat.lt_of_lt_of_le hb h.bel.size)).trans (h.low b hb)⟩⟩
theorem s_putok (W : World) (key m : Nat) (v : Int) (h : Lw w χ W pt lim row ever n) (he : ∀ k ∈ ever, k < 4294967296) (hk : key < 4294967296) (hv : wrap64 v = v) (hl : 0 ≤ lim) (hm : lackL ever key = m) (hf : (n : Int) + m ≤ lim) :
    Calls Try.prog 13 #[.pointer (some ⟨pt, 0, none⟩), .int .u32 key, .int .i64 v] W fun e W' => e = .returned (.int .i64 0) ∧ STo 1 χ W W' pt lim (putL key v row) (fun k => k = key ∨ k ∈ ever) (n + m) :=
  s_put_ok W key m v h.tr hk hv hl (hm ▸ lackL_spec ever key he hk) hf
theorem s_putfull (W : World) (key m : Nat) (v : Int) (h : Lw w χ W pt lim row ever n) (he : ∀ k ∈ ever, k < 4294967296) (hk : key < 4294967296) (hl : 0 ≤ lim) (hm : lackL ever key = m) (hf : lim < (n : Int) + m) :
    Calls Try.prog 13 #[.pointer (some ⟨pt, 0, none⟩), .int .u32 key, .int .i64 v] W fun e W' => e = .returned (.int .i64 6) ∧ STo 1 χ W W' pt lim row (fun k => k ∈ ever) n :=
  s_put_full W key m v h.tr hk hl (hm ▸ lackL_spec ever key he hk) hf

/-- A block of a law's own. -/
structure Dat (χ : Col) (W : World) (b : Nat) (o : Obj) : Prop where
  col : 3 < χ b ∧ χ b < 15
  at_ : W.heap[b]? = some o
theorem Dat.call {χ' : Col} {b : Nat} {o : Obj} (d : Dat χ W b o) (ag : ∀ b, b < W.heap.size → χ' b = χ b) (hc : Chg χ tree1 W W') : Dat χ' W' b o := by
  have hb := (Array.getElem?_eq_some_iff.1 d.at_).1
  exact ⟨by rw [ag b hb]; exact d.col, (hc.blk b hb (by have := d.col; unfold tree1; omega)).trans d.at_⟩
theorem Dat.below {b : Nat} {o : Obj} (d : Dat χ W b o) (hb : Below W.heap.size W W') (c : Nat) : Dat (paint χ W.heap.size c) W' b o := by
  have hl := (Array.getElem?_eq_some_iff.1 d.at_).1
  exact ⟨by rw [paint_low hl]; exact d.col, (hb.block b hl).trans d.at_⟩
theorem Dat.new (χ : Col) (W : World) (o : Obj) : Dat (paint χ W.heap.size 10) (W.alloc o) W.heap.size o := ⟨by rw [paint_high (Nat.le_refl _)]; omega, heap_alloc_at W o⟩
/-- What pairs does to a law's tree. -/
theorem Lw.pairs {m : Int} {cO : Nat} {e : Ending} (h : Lw w χ W pt lim row ever n) (hs : SPairs 1 cO χ W pt lim row (fun k => k ∈ ever) n m e W') (hm : (row.length : Int) < m) :
    ∃ A cap χ', e = .returned (.slice A row.length cap) ∧ (∀ b, b < W.heap.size → χ' b = χ b) ∧ Chg χ tree1 W W' ∧ Lw w χ' W' pt lim row ever n ∧ IsP cO χ' W' (.slice A row.length cap) row := by
  obtain ⟨A, cap, χ', rfl, h1, h2, h3, h4⟩ := hs
  have e : row.take m.toNat = row := List.take_of_length_le (by omega)
  rw [e] at h3 ⊢
  exact ⟨A, cap, χ', rfl, h1, h2, h.chg h1 h2 (h4 hm), h3⟩

/-- As s_pairs, whatever colors there are. -/
theorem s_pairs1 (W : World) (m : Int) (cO : Nat) (h : Lw w χ W pt lim row ever n) (hO : 5 < cO) (hlen : row.length ≤ 1000000) :
    Calls Try.prog 23 #[.pointer (some ⟨pt, 0, none⟩), .int .i64 m] W (SPairs 1 cO χ W pt lim row (fun k => k ∈ ever) n m) := by
  let χt : Col := fun b => if 1 ≤ χ b ∧ χ b ≤ 3 then χ b else 0
  have ht : ∀ b, χt b = if 1 ≤ χ b ∧ χ b ≤ 3 then χ b else 0 := fun _ => rfl
  have hk : STr 1 χt W pt lim row (fun k => k ∈ ever) n := h.tr.keep fun b hb hc => ⟨by rw [ht, if_pos hc], rfl⟩
  refine (s_pairs W m (c := 1) (cO := cO) (cR := 5) hk (.inr (by omega)) (.inr (by omega)) (by omega) (fun b hb => by rw [ht]; split <;> omega) (fun b hb => by rw [ht]; split <;> omega) hlen).mono ?_
  rintro e w' ⟨A, cap, χ', rfl, q1, q2, q3, q4⟩
  refine ⟨A, cap, fun b => if b < W.heap.size then χ b else χ' b, rfl, fun b hb => if_pos hb, ⟨q2.os, q2.tape, q2.output, q2.size, fun b hb hn => q2.blk b hb (by rw [ht]; split <;> omega)⟩, ⟨q3.1, fun b e => ?_⟩, fun hm => (q4 hm).keep fun b hb hc => ⟨?_, rfl⟩⟩
  · have h1 := q3.2 b e
    by_cases hb : b < W.heap.size
    · rw [q1 b hb, ht] at h1; split at h1 <;> omega
    · show (if _ then _ else _) = _; rw [if_neg hb]; exact h1
  · by_cases hb : b < W.heap.size
    · show (if _ then _ else _) = _
      rw [if_pos hb]
      rw [q1 b hb, ht] at hc ⊢
      split
      · rfl
      · rename_i hn; rw [if_neg hn] at hc; omega
    · show (if _ then _ else _) = _; rw [if_neg hb]
end Go.Proofs.Ytcdldjiogoapkaa
