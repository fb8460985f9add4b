import Derived.Test.YtipdmnfkigoanaaBase
import Derived.Laws.AppendOwnNone
namespace Go.Proofs.Ytipdmnfkigoanaa
open Go.RowKit

/-! Cells of blocks, and appending a slice that is read. -/
theorem frozen_alloc_some (w : World) (a : Addr) (o : Obj) (h : (w.cell? a).isSome = true) : (w.alloc o).frozen? a = w.frozen? a := by
  obtain ⟨u, hu⟩ := Option.isSome_iff_exists.1 h
  exact World.frozen?_alloc_old _ _ _ (Nat.ne_of_lt (World.block_lt_of_cell? w a hu))
/-- A block of the caller's that a call has left as it was. -/
theorem kept_new {w w1 : World} {o : Obj} (h : Below (w.alloc o).heap.size (w.alloc o) w1) : w1.heap[w.heap.size]? = some o :=
  (h.block w.heap.size (by simp)).trans (heap_alloc_at w o)
theorem kept_at {w w1 : World} {b : Nat} {o : Obj} (h : Below w.heap.size w w1) (hb : w.heap[b]? = some o) : w1.heap[b]? = some o :=
  (h.block b (Array.getElem?_eq_some_iff.1 hb).1).trans hb
theorem cells7 {w : World} {b : Nat} {a0 a1 a2 a3 a4 a5 a6 : Value} {t : TypeId} (h : w.heap[b]? = some (.cells #[a0, a1, a2, a3, a4, a5, a6] t)) :
    (w.cell? ⟨b, 0, none⟩ = some a0 ∧ w.cell? ⟨b, 1, none⟩ = some a1 ∧ w.cell? ⟨b, 2, none⟩ = some a2 ∧ w.cell? ⟨b, 3, none⟩ = some a3 ∧ w.cell? ⟨b, 4, none⟩ = some a4 ∧ w.cell? ⟨b, 5, none⟩ = some a5 ∧ w.cell? ⟨b, 6, none⟩ = some a6) ∧
    w.frozen? ⟨b, 0, none⟩ = false ∧ w.frozen? ⟨b, 1, none⟩ = false ∧ w.frozen? ⟨b, 2, none⟩ = false ∧ w.frozen? ⟨b, 3, none⟩ = false ∧ w.frozen? ⟨b, 4, none⟩ = false ∧ w.frozen? ⟨b, 5, none⟩ = false ∧ w.frozen? ⟨b, 6, none⟩ = false := by
  simp [World.cell?, World.frozen?, h]
theorem cells4 {w : World} {b : Nat} {a0 a1 a2 a3 : Value} {t : TypeId} (h : w.heap[b]? = some (.cells #[a0, a1, a2, a3] t)) :
    (w.cell? ⟨b, 0, none⟩ = some a0 ∧ w.cell? ⟨b, 1, none⟩ = some a1 ∧ w.cell? ⟨b, 2, none⟩ = some a2 ∧ w.cell? ⟨b, 3, none⟩ = some a3) ∧
    w.frozen? ⟨b, 0, none⟩ = false ∧ w.frozen? ⟨b, 1, none⟩ = false ∧ w.frozen? ⟨b, 2, none⟩ = false ∧ w.frozen? ⟨b, 3, none⟩ = false := by
  simp [World.cell?, World.frozen?, h]
theorem cells2 {w : World} {b : Nat} {a0 a1 : Value} {t : TypeId} (h : w.heap[b]? = some (.cells #[a0, a1] t)) :
    (w.cell? ⟨b, 0, none⟩ = some a0 ∧ w.cell? ⟨b, 1, none⟩ = some a1) ∧ w.frozen? ⟨b, 0, none⟩ = false ∧ w.frozen? ⟨b, 1, none⟩ = false := by
  simp [World.cell?, World.frozen?, h]
theorem push_base {W w1 : World} {B N e sz n : Nat} {v : Value} {xs : List Value} {o : Obj} (h : W.ownsRow B e sz v n xs) (hg : (W.alloc o).grownBy w1 v.ownBlock) (hN : N ≤ B) (hW : N ≤ W.heap.size) : Below N W w1 :=
  ⟨hg.os, hg.tape, hg.output, by have := hg.size; simp at this; omega, fun b hb => (hg.block b (by simp; omega) (fun e => by have := (h.lt b e.symm).1; omega)).trans (Below.heap_alloc _ _ _ (by omega))⟩
theorem cells3 {w : World} {b : Nat} {a0 a1 a2 : Value} {t : TypeId} (h : w.heap[b]? = some (.cells #[a0, a1, a2] t)) :
    (w.cell? ⟨b, 0, none⟩ = some a0 ∧ w.cell? ⟨b, 1, none⟩ = some a1 ∧ w.cell? ⟨b, 2, none⟩ = some a2) ∧ w.frozen? ⟨b, 0, none⟩ = false ∧ w.frozen? ⟨b, 1, none⟩ = false ∧ w.frozen? ⟨b, 2, none⟩ = false := by
  refine ⟨⟨?_, ?_, ?_⟩, ?_, ?_, ?_⟩
  · unfold World.cell?; rw [h]; rfl
  · unfold World.cell?; rw [h]; rfl
  · unfold World.cell?; rw [h]; rfl
  · unfold World.frozen?; rw [h]; rfl
  · unfold World.frozen?; rw [h]; rfl
  · unfold World.frozen?; rw [h]; rfl
theorem hset {W : World} {b : Nat} {cs : Array Value} {t : TypeId} (h : W.heap[b]? = some (.cells cs t)) (i : Nat) (v : Value) : (W.setCell ⟨b, i, none⟩ v).heap[b]? = some (.cells (cs.setIfInBounds i v) t) := by
  simp only [World.setCell, Array.getElem?_modify]; simp [h]
theorem hset_ne {W : World} {b b' : Nat} {o : Obj} (h : W.heap[b]? = some o) (i : Nat) (v : Value) (hb : b ≠ b') : (W.setCell ⟨b', i, none⟩ v).heap[b]? = some o := (Below.heap_setCell _ _ _ _ hb).trans h
theorem hdrewN (W : World) (k : Nat) : (W.drewN k).heap = W.heap := rfl
/-- A u32. -/
def rU : Rp Nat := fun _ _ cs x => cs = [.int .u32 x] ∧ x < 4294967296
theorem rU_on (D : Nat → Prop) : rU.On D := fun _ _ _ _ _ _ h _ => h
theorem u32_nat {a : Int} (h : (Lit.int .u32 a).wf = true) : ∃ n : Nat, a = n ∧ n < 4294967296 := by
  simp [Lit.wf, show IntKind.u32.min = 0 by decide, show IntKind.u32.max = 4294967295 by decide] at h
  exact ⟨a.toNat, by omega, by omega⟩
theorem i64_wrap {a : Int} (h : (Lit.int .i64 a).wf = true) : wrap64 a = a := by
  simp [Lit.wf, show IntKind.i64.min = -9223372036854775808 by decide, show IntKind.i64.max = 9223372036854775807 by decide] at h
  unfold wrap64; omega
theorem chunks {α : Type} {sz : Nat} (enc : α → List Value) (_hsz : 0 < sz) : ∀ (xs : List α) (cells : List Value), cells.length = xs.length * sz → (∀ i (hi : i < xs.length), (cells.drop (i * sz)).take sz = enc xs[i]) → cells = xs.flatMap enc := by
  intro xs
  induction xs with
  | nil => intro cells hl _; simpa using hl
  | cons x xs ih =>
    intro cells hl h
    have h0 := h 0 (by simp)
    simp only [Nat.zero_mul, List.drop_zero, List.getElem_cons_zero] at h0
    rw [List.length_cons, Nat.add_mul, Nat.one_mul] at hl
    have h1 := ih (cells.drop sz) (by rw [List.length_drop]; omega) (fun i hi => by
      have := h (i + 1) (by simpa using hi)
      rw [List.drop_drop, show sz + i * sz = (i + 1) * sz by rw [Nat.add_mul]; omega]
      simpa using this)
    rw [List.flatMap_cons, ← h0, ← h1]
    exact (List.take_append_drop sz cells).symm
theorem IsL.news {α : Type} {sz c : Nat} {R : Rp α} {χ : Col} {w : World} {ad : Addr} {n cap : Nat} {xs : List α} (enc : α → List Value) (henc : ∀ χ w cs x, R χ w cs x → cs = enc x) (hsz : 0 < sz) (hone : R.One) (h : IsL sz R c χ w (.slice (some ad) n cap) xs) :
    n = xs.length ∧ (xs.flatMap enc).length = n * sz ∧ (∀ j u, (xs.flatMap enc)[j]? = some u → w.cell? (ad.add j) = some u) ∧ ∀ u ∈ xs.flatMap enc, u.oneCell' = true := by
  have hn : n = xs.length := by obtain ⟨A, cap', e, _⟩ := id h; cases e; rfl
  by_cases hx : xs = []
  · subst hx
    exact ⟨hn, by simp [hn], fun j u hj => by simp at hj, fun u hu => by simp at hu⟩
  · obtain ⟨A, cap', e, h1, h2, h3, h4⟩ := id h
    cases e
    obtain ⟨b, o, cs, e, -⟩ := h4 0 (List.length_pos_iff.2 hx)
    cases e
    obtain ⟨cells, k1, k2, k3, k4, k5⟩ := h.cells hsz hone
    have e := chunks enc hsz xs cells k1 (fun i hi => henc _ _ _ _ (k5 i hi))
    rw [← e]
    exact ⟨hn, k1, k3, k4⟩
theorem rU_one : rU.One := by rintro χ w cs x ⟨rfl, _⟩ u hu; simp at hu; subst hu; rfl
theorem wpList_append_L {α : Type} {R : Rp α} {sz by_ : Nat} (t e : TypeId) (i : TypeInfo) (z : Value) (ht : Try.prog.underlying t = some (.slice e)) (hi : Try.prog.info? e = some i) (hz : i.zero = some z) (hs1 : i.size = sz) (hb1 : i.bytes = by_) (hzs : z.cells.size = sz) (hsz : 0 < sz) (hby : by_ ≤ 100)
    (enc : α → List Value) (henc : ∀ χ w cs x, R χ w cs x → cs = enc x) (hone : R.One)
    {w : World} {ops : Array Oper} {rest : List Oper} {o : Oper} {a : Act} {Q : Exit → Act → World → Prop} (hgd : o.guard = none) (s x : Operand)
    (ho : o.op = .call { callee := .builtin .append, args := #[s, x], argTypes := #[t, t] })
    (base : Nat) (v : Value) (n : Nat) (xs : List Value) (hs : a.eval s = v) (hown : w.ownsRow base e sz v n xs)
    (u : Value) {c : Nat} {χ : Col} (ys : List α) (hx : a.eval x = u) (hu : IsL sz R c χ w u ys) (h63 : n + ys.length ≤ 1000000) (hbase : base ≤ w.heap.size)
    (h : ∀ v' w', w'.ownsRow base e sz v' (n + ys.length) (xs ++ ys.flatMap enc) → w.grownBy w' v.ownBlock → (v'.ownBlock = v.ownBlock ∨ v'.ownBlock = some w.heap.size) → wpList Try.prog ops Q rest (a.put o.dst v') w') :
    wpList Try.prog ops Q (o :: rest) a w := by
  obtain ⟨A, cap, rfl, u1, u2, u3, -⟩ := id hu
  cases A with
  | some ad =>
    obtain ⟨e0, e1, e2, e3⟩ := hu.news enc henc hsz hone
    have hm : (n + ys.length) * by_ ≤ 1000000 * 100 := Nat.mul_le_mul h63 hby
    exact wpList_append_own_at _ hgd s x t ho base e i z sz by_ ht hi hz hs1 hb1 hzs hsz v n xs hs hown ad ys.length cap _ hx e1 e2 e3 (by unfold maxLen; omega) (by omega) hbase
      fun v' w' k1 k2 k3 k4 => h v' w' k1 k2 k4
  | none =>
    have hc : cap = 0 := u3.2 rfl
    have hy : ys = [] := List.length_eq_zero_iff.1 (by omega)
    subst hc; subst hy
    exact wpList_append_own_none hgd s x t ho base e i sz ht hi v n xs hs hown hx
      (h v w (by simpa using hown) ⟨rfl, rfl, rfl, Nat.le_refl _, fun _ _ _ => rfl⟩ (.inl rfl))
theorem IsL.takeL {α : Type} {sz c : Nat} {R : Rp α} {χ : Col} {w : World} {A : Option Addr} {n cap : Nat} {xs : List α} (h : IsL sz R c χ w (.slice A n cap) xs) (k : Nat) (hk : k ≤ xs.length) :
    IsL sz R c χ w (.slice A k cap) (xs.take k) := by
  obtain ⟨A', cap', e, h1, h2, h3, h4⟩ := h
  cases e
  have hl : (xs.take k).length = k := by simp; omega
  refine ⟨A, cap, by rw [hl], by omega, h2, ⟨by omega, h3.2⟩, fun i hi => ?_⟩
  obtain ⟨b, o, cs, e, hb, hl2, hr, hc⟩ := h4 i (by omega)
  exact ⟨b, o, cs, e, hb, hl2, by simpa using hr, hc⟩
theorem IsL.dropL {α : Type} {sz c : Nat} {R : Rp α} {χ : Col} {w : World} {b o n cap : Nat} {xs : List α} (h : IsL sz R c χ w (.slice (some ⟨b, o, none⟩) n cap) xs) (k : Nat) (hk : k ≤ xs.length) :
    IsL sz R c χ w (.slice (if cap = k then some ⟨b, o, none⟩ else some ⟨b, o + k * sz, none⟩) (n - k) (cap - k)) (xs.drop k) := by
  obtain ⟨A', c', e, h1, h2, h3, h4⟩ := h
  cases e
  have hl : (xs.drop k).length = xs.length - k := by simp
  by_cases hc : cap = k
  · have hx : xs.drop k = [] := List.length_eq_zero_iff.1 (by omega)
    rw [if_pos hc]
    refine ⟨_, _, by rw [hl], by omega, by omega, ⟨by omega, fun h => by cases h⟩, fun i hi => ?_⟩
    rw [hx] at hi; simp at hi
  · rw [if_neg hc]
    refine ⟨_, _, by rw [hl], by omega, by omega, ⟨by omega, fun h => by cases h⟩, fun i hi => ?_⟩
    obtain ⟨b', o', cs, e, hb, hl2, hr, hcell⟩ := h4 (k + i) (by omega)
    cases e
    exact ⟨b, o + k * sz, cs, rfl, hb, hl2, by simpa using hr, fun j hj => by rw [show o + k * sz + i * sz + j = o + (k + i) * sz + j by rw [Nat.add_mul]; omega]; exact hcell j hj⟩
theorem owns_cases {w : World} {base e sz n : Nat} {A : Option Addr} {k cap : Nat} {xs : List Value} (h : w.ownsRow base e sz (.slice A k cap) n xs) : A = none ∨ ∃ g, A = some ⟨g, 0, none⟩ := by
  obtain ⟨_, (⟨e, hn⟩ | ⟨g, cap, cur, e, _⟩)⟩ := h
  · cases e; exact .inl rfl
  · cases e; exact .inr ⟨g, rfl⟩
end Go.Proofs.Ytipdmnfkigoanaa
