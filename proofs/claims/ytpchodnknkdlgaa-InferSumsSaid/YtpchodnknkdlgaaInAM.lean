import Derived.Test.YtpchodnknkdlgaaInAO
import Derived.Laws.Bits128
namespace Go.Proofs.Ytpchodnknkdlgaa
open Go.RowKit
attribute [local go_sem] World.cell?_alloc_some frozen_alloc_some
theorem fewM_iff {s : List (List Int)} {m : Int} (h : fewM s m = true) : (∀ x ∈ s, x.length ≤ 40) ∧ (s.length : Int) ≤ m := by
  unfold fewM at h
  rw [Bool.and_eq_true, List.all_eq_true] at h
  exact ⟨fun x hx => by simpa using h.1 x hx, by simpa using h.2⟩
abbrev set4 (w : World) (g : Nat) (v0 v1 v2 v3 : Value) : World := (((w.setCell ⟨g, 0, none⟩ v0).setCell ⟨g, 1, none⟩ v1).setCell ⟨g, 2, none⟩ v2).setCell ⟨g, 3, none⟩ v3
theorem heap_set4 {w : World} {g : Nat} {a0 a1 a2 a3 v0 v1 v2 v3 : Value} {t : TypeId} (h : w.heap[g]? = some (.cells #[a0, a1, a2, a3] t)) : (set4 w g v0 v1 v2 v3).heap[g]? = some (.cells #[v0, v1, v2, v3] t) := by
  simp [set4, World.setCell, Array.getElem?_modify, h]
theorem heap_set4_ne {w : World} {g b : Nat} {v0 v1 v2 v3 : Value} (h : b ≠ g) : (set4 w g v0 v1 v2 v3).heap[b]? = w.heap[b]? := by
  unfold set4
  rw [Below.heap_setCell _ _ _ _ h, Below.heap_setCell _ _ _ _ h, Below.heap_setCell _ _ _ _ h, Below.heap_setCell _ _ _ _ h]
theorem chg_set4 {χ : Col} {C : Nat → Prop} (w : World) (g : Nat) (v0 v1 v2 v3 : Value) (h : C (χ g)) : Chg χ C w (set4 w g v0 v1 v2 v3) :=
  ⟨rfl, rfl, rfl, by simp [set4, World.setCell], fun b _ hn => heap_set4_ne (fun e => hn (by rw [e]; exact h))⟩
theorem tol_below {base : Nat} {w0 W W' : World} {v : Value} {l : List (List Int)} (h : Tol base w0 W v l) (hb : Below W.heap.size W W') : Tol base w0 W' v l := let ⟨vs, h1, h2⟩ := h; ⟨vs, owns_same h1 fun b e => hb.block b (h1.lt b e).2, h2⟩
theorem kept_new1 {w w1 : World} {o : Obj} (h : Below ((w.alloc o).drewN 1).heap.size ((w.alloc o).drewN 1) w1) : w1.heap[w.heap.size]? = some o := kept_new (undrewN h)
theorem chain6 {wo W' w6 : World} {P : Prop} (h : Below wo.heap.size wo W' ∧ P) (hb6 : Below W'.heap.size W' w6) : Below wo.heap.size wo w6 := h.1.trans (hb6.mono h.1.size)
theorem alloc6 {wo W' : World} {P : Prop} (h : Below wo.heap.size wo W' ∧ P) (o : Obj) : Below wo.heap.size wo (W'.alloc o) := h.1.alloc h.1.size o
theorem askM_left {k r b live : Int} {l : List (List Int)} {s : List Int} (h : askM k r b l s live = 0) : b - l.length ≠ 0 := by
  unfold askM at h
  split at h
  · cases h
  · split at h
    · cases h
    · assumption
theorem tol_mono {base base' : Nat} {w0 W : World} {v : Value} {l : List (List Int)} (h : Tol base w0 W v l) (hb : base' ≤ base) : Tol base' w0 W v l := let ⟨vs, h1, h2⟩ := h; ⟨vs, h1.mono_base hb, h2⟩
theorem i64_and3 (n : Int) : bits .and .i64 n 3 = n % 4 := by
  have h127 : (BitVec.ofInt 64 3).toNat = 2 ^ 2 - 1 := by decide
  have key : (BitVec.ofInt 64 n &&& BitVec.ofInt 64 3).toNat = (n % ((2 ^ 64 : Nat) : Int)).toNat % 2 ^ 2 := by
    rw [BitVec.toNat_and, BitVec.toNat_ofInt, h127, Nat.and_two_pow_sub_one_eq_mod]
  show IntKind.i64.wrap ((BitVec.ofInt 64 n &&& BitVec.ofInt 64 3).toNat : Nat) = n % 4
  rw [key, IntKind.wrap_i64]
  omega
theorem tol_drew {base : Nat} {w0 W : World} {v : Value} {l : List (List Int)} (h : Tol base w0 W v l) : Tol base w0 W.drew v l := let ⟨vs, h1, h2⟩ := h; ⟨vs, owns_drew h1, h2⟩
theorem lit_i64 {n : Int} (h : (Lit.int .i64 n).wf = true) : -9223372036854775808 ≤ n ∧ n ≤ 9223372036854775807 := by
  simp [Lit.wf, show IntKind.i64.min = -9223372036854775808 by decide, show IntKind.i64.max = 9223372036854775807 by decide] at h
  exact h
theorem unB {c : Nat} {χ : Col} {w : World} {v : Value} {xs : List Int} {P : Int → Prop} (h : IsL 1 (fun χ w cs x => rInt .i64 χ w cs x ∧ P x) c χ w v xs) : IsI c χ w v xs ∧ ∀ x ∈ xs, P x := by
  obtain ⟨A, cap, e, h1, h2, h3, h4⟩ := h
  refine ⟨⟨A, cap, e, h1, h2, h3, fun i hi => ?_⟩, fun x hx => ?_⟩
  · obtain ⟨b, o, cs, e1, e2, e3, e4, e5⟩ := h4 i hi
    exact ⟨b, o, cs, e1, e2, e3, e4.1, e5⟩
  · obtain ⟨i, hi, rfl⟩ := List.getElem_of_mem hx
    obtain ⟨b, o, cs, e1, e2, e3, e4, e5⟩ := h4 i hi
    exact e4.2
end Go.Proofs.Ytpchodnknkdlgaa
