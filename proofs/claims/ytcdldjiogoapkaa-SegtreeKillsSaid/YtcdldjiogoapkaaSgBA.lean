import Derived.Test.YtcdldjiogoapkaaSgAT
import Derived.Test.YtcdldjiogoapkaaSgAR
import Derived.Test.YtcdldjiogoapkaaIvA
namespace Go.Proofs.Ytcdldjiogoapkaa
open Go.RowKit
attribute [local go_sem] World.cell?_alloc_some frozen_alloc_some field_na field_ac field_as

/-! Two trees side by side. -/
abbrev tree2 (x : Nat) : Prop := 21 ≤ x ∧ x ≤ 21 + 2
structure Tw (w : World) (χ : Col) (W : World) (pa pb : Nat) (ra rb : List (Nat × Int)) (ea eb : List Nat) (na nb : Nat) : Prop where
  ta : STr 1 χ W pa 1048576 ra (fun k => k ∈ ea) na
  tb : STr 21 χ W pb 1048576 rb (fun k => k ∈ eb) nb
  bel : Below w.heap.size w W
  low : ∀ b, b < w.heap.size → χ b = 0
variable {w : World} {χ : Col} {W W' : World} {pa pb na nb na' nb' : Nat} {ra rb ra' rb' : List (Nat × Int)} {ea eb ea' eb' : List Nat}
theorem Tw.below (h : Tw w χ W pa pb ra rb ea eb na nb) (hb : Below W.heap.size W W') (c : Nat) : Tw w (paint χ W.heap.size c) W' pa pb ra rb ea eb na nb :=
  ⟨h.ta.keep (Same.below c hb), h.tb.keep (Same.below c hb), h.bel.trans (hb.mono h.bel.size), fun b hl => (paint_low (Nat.lt_of_lt_of_le hl h.bel.size)).trans (h.low b hl)⟩
theorem Tw.alloc (h : Tw w χ W pa pb ra rb ea eb na nb) (o : Obj) : Tw w (paint χ W.heap.size 10) (W.alloc o) pa pb ra rb ea eb na nb := h.below ((Below.refl _ _).alloc (Nat.le_refl _) o) 10
theorem Tw.drew (h : Tw w χ W pa pb ra rb ea eb na nb) (d : Nat) : Tw w χ (W.drewN d) pa pb ra rb ea eb na nb :=
  ⟨h.ta.keep (Same.below' (below_drewN _ _ _)), h.tb.keep (Same.below' (below_drewN _ _ _)), h.bel.trans (below_drewN _ _ _), h.low⟩
theorem Tw.a (h : Tw w χ W pa pb ra rb ea eb na nb) (hs : STo 1 χ W W' pa 1048576 ra' (fun k => k ∈ ea') na') : ∃ χ', (∀ b, b < W.heap.size → χ' b = χ b) ∧ Chg χ tree1 W W' ∧ Tw w χ' W' pa pb ra' rb ea' eb na' nb := by
  obtain ⟨χ', h1, h2, h3⟩ := hs
  exact ⟨χ', h1, h3, h2, h.tb.keep (Same.chg' h3 h1 fun x hx => by omega), h.bel.trans (h3.below (fun b hb e => by rw [h.low b hb] at e; omega) h.bel.size), fun b hb => (h1 b (Nat.lt_of_lt_of_le hb h.bel.size)).trans (h.low b hb)⟩
theorem Tw.b (h : Tw w χ W pa pb ra rb ea eb na nb) (hs : STo 21 χ W W' pb 1048576 rb' (fun k => k ∈ eb') nb') : ∃ χ', (∀ b, b < W.heap.size → χ' b = χ b) ∧ Chg χ tree2 W W' ∧ Tw w χ' W' pa pb ra rb' ea eb' na nb' := by
  obtain ⟨χ', h1, h2, h3⟩ := hs
  exact ⟨χ', h1, h3, h.ta.keep (Same.chg' h3 h1 fun x hx => by omega), h2, h.bel.trans (h3.below (fun b hb e => by rw [h.low b hb] at e; omega) h.bel.size), fun b hb => (h1 b (Nat.lt_of_lt_of_le hb h.bel.size)).trans (h.low b hb)⟩
theorem STo.cons {c : Nat} {χ : Col} {W W' : World} {pt n key : Nat} {lim : Int} {row : List (Nat × Int)} {e : List Nat} (h : STo c χ W W' pt lim row (fun k => k = key ∨ k ∈ e) n) : STo c χ W W' pt lim row (fun k => k ∈ key :: e) n := by
  obtain ⟨χ', h1, h2, h3⟩ := h
  exact ⟨χ', h1, h2.congr fun k => by simp, h3⟩
theorem Dat.call2 {χ χ' : Col} {b : Nat} {o : Obj} (d : Dat χ W b o) (ag : ∀ b, b < W.heap.size → χ' b = χ b) (hc : Chg χ tree2 W W') : Dat χ' W' b o := by
  have hb := (Array.getElem?_eq_some_iff.1 d.at_).1
  exact ⟨by rw [ag b hb]; exact d.col, (hc.blk b hb (by have := d.col; unfold tree2; omega)).trans d.at_⟩
theorem s_putC (W : World) (c key : Nat) (v : Int) {pt n : Nat} {row : List (Nat × Int)} {e : List Nat} {χ : Col} (h : STr c χ W pt 1048576 row (fun k => k ∈ e) n) (he : ∀ k ∈ e, k < 4294967296) (hk : key < 4294967296) (hv : wrap64 v = v) (hf : n + lackL e key ≤ 1048576) :
    Calls Try.prog 13 #[.pointer (some ⟨pt, 0, none⟩), .int .u32 key, .int .i64 v] W fun e' W' => e' = .returned (.int .i64 0) ∧ STo c χ W W' pt 1048576 (putL key v row) (fun k => k ∈ key :: e) (n + lackL e key) :=
  (s_put_ok W key (lackL e key) v h hk hv (by decide) (lackL_spec e key he hk) (by omega)).mono fun _ _ ⟨h1, h2⟩ => ⟨h1, h2.cons⟩
/-- As s_pairs, whatever colors there are, of a tree of whatever color. -/
theorem s_pairsC (W : World) (m : Int) (c cO : Nat) {pt n : Nat} {lim : Int} {row : List (Nat × Int)} {ever : Nat → Prop} {χ : Col} (h : STr c χ W pt lim row ever n) (hc : 0 < c) (hO : c + 3 < cO) (hlen : row.length ≤ 1000000) :
    Calls Try.prog 23 #[.pointer (some ⟨pt, 0, none⟩), .int .i64 m] W (SPairs c cO χ W pt lim row ever n m) := by
  let χt : Col := fun b => if c ≤ χ b ∧ χ b ≤ c + 2 then χ b else 0
  have ht : ∀ b, χt b = if c ≤ χ b ∧ χ b ≤ c + 2 then χ b else 0 := fun _ => rfl
  have hk : STr c χt W pt lim row ever n := h.keep fun b hb hc => ⟨by rw [ht, if_pos hc], rfl⟩
  refine (s_pairs W m (c := c) (cO := cO) (cR := cO + 1) hk (.inr (by omega)) (.inr (by omega)) (by omega) (fun b hb => by rw [ht]; split <;> omega) (fun b hb => by rw [ht]; split <;> omega) hlen).mono ?_
  rintro e w' ⟨A, cap, χ', rfl, q1, q2, q3, q4⟩
  refine ⟨A, cap, fun b => if b < W.heap.size then χ b else χ' b, rfl, fun b hb => if_pos hb, ⟨q2.os, q2.tape, q2.output, q2.size, fun b hb hn => q2.blk b hb (by rw [ht]; split <;> omega)⟩, ⟨q3.1, fun b e => ?_⟩, fun hm => (q4 hm).keep fun b hb hc2 => ⟨?_, rfl⟩⟩
  · have h1 := q3.2 b e
    by_cases hb : b < W.heap.size
    · rw [q1 b hb, ht] at h1; split at h1 <;> omega
    · show (if _ then _ else _) = _; rw [if_neg hb]; exact h1
  · by_cases hb' : b < W.heap.size
    · show (if _ then _ else _) = _
      rw [if_pos hb']
      rw [q1 b hb', ht] at hc2 ⊢
      split at hc2
      · rw [if_pos (by assumption)]
      · omega
    · show (if _ then _ else _) = _; rw [if_neg hb']

theorem Tw.prA {m : Int} {cO : Nat} {e : Ending} (h : Tw w χ W pa pb ra rb ea eb na nb) (hs : SPairs 1 cO χ W pa 1048576 ra (fun k => k ∈ ea) na m e W') (hm : (ra.length : Int) < m) :
    ∃ A cap χ', e = .returned (.slice A ra.length cap) ∧ (∀ b, b < W.heap.size → χ' b = χ b) ∧ Chg χ tree1 W W' ∧ Tw w χ' W' pa pb ra rb ea eb na nb ∧ IsP cO χ' W' (.slice A ra.length cap) ra := by
  obtain ⟨A, cap, χ', rfl, h1, h2, h3, h4⟩ := hs
  have e : ra.take m.toNat = ra := List.take_of_length_le (by omega)
  rw [e] at h3 ⊢
  exact ⟨A, cap, χ', rfl, h1, h2, ⟨h4 hm, h.tb.keep (Same.chg' h2 h1 fun x hx => by omega), h.bel.trans (h2.below (fun b hb e => by rw [h.low b hb] at e; omega) h.bel.size), fun b hb => (h1 b (Nat.lt_of_lt_of_le hb h.bel.size)).trans (h.low b hb)⟩, h3⟩
theorem Tw.prB {m : Int} {cO : Nat} {e : Ending} (h : Tw w χ W pa pb ra rb ea eb na nb) (hs : SPairs 21 cO χ W pb 1048576 rb (fun k => k ∈ eb) nb m e W') (hm : (rb.length : Int) < m) :
    ∃ A cap χ', e = .returned (.slice A rb.length cap) ∧ (∀ b, b < W.heap.size → χ' b = χ b) ∧ Chg χ tree2 W W' ∧ Tw w χ' W' pa pb ra rb ea eb na nb ∧ IsP cO χ' W' (.slice A rb.length cap) rb := by
  obtain ⟨A, cap, χ', rfl, h1, h2, h3, h4⟩ := hs
  have e : rb.take m.toNat = rb := List.take_of_length_le (by omega)
  rw [e] at h3 ⊢
  exact ⟨A, cap, χ', rfl, h1, h2, ⟨h.ta.keep (Same.chg' h2 h1 fun x hx => by omega), h4 hm, h.bel.trans (h2.below (fun b hb e => by rw [h.low b hb] at e; omega) h.bel.size), fun b hb => (h1 b (Nat.lt_of_lt_of_le hb h.bel.size)).trans (h.low b hb)⟩, h3⟩

/-- what spans leave of a row. -/
def leave (l : List Sp) (row : List (Nat × Int)) : List (Nat × Int) := row.filter fun x => !memB x.1 l
theorem leave_nil (row : List (Nat × Int)) : leave [] row = row := by unfold leave memB; simp
theorem leave_snoc (l : List Sp) (s : Sp) (row : List (Nat × Int)) : leave (l ++ [s]) row = (leave l row).filter fun x => !inS s.1 s.2 x := by
  unfold leave
  rw [List.filter_filter]
  congr 1; funext x
  unfold memB inS
  rw [List.any_append]; simp [Bool.and_comm]
theorem leave_len (l : List Sp) (row : List (Nat × Int)) : (leave l row).length ≤ row.length := List.length_filter_le _ _
theorem leave_congr {l m : List Sp} (h : ∀ k, Mem k l ↔ Mem k m) (row : List (Nat × Int)) : leave l row = leave m row := by
  unfold leave
  congr 1; funext x
  rw [Bool.eq_iff_iff.2 (memB_iff.trans ((h x.1).trans memB_iff.symm))]
theorem agc (row : List (Nat × Int)) (p : Nat × Int → Bool) : (agV (vals (row.filter p))).c = ((row.filter p).length : Int) := by rw [agV_len, List.length_map]
theorem filter_two (row : List (Nat × Int)) (p : Nat × Int → Bool) : (row.filter (fun x => !p x)).filter (fun x => !p x) = row.filter (fun x => !p x) := by
  rw [List.filter_filter]; congr 1; funext x; cases p x <;> rfl
end Go.Proofs.Ytcdldjiogoapkaa
