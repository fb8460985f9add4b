import Derived.Test.YtcdldjiogoapkaaSgAP
import Derived.Test.YtcdldjiogoapkaaSgAQ
import Derived.Laws.AppendOwnNone
namespace Go.Proofs.Ytcdldjiogoapkaa
open Go.RowKit
attribute [local go_sem] World.cell?_alloc_some frozen_alloc_some field_na field_ac field_as

/-! Appending a slice that is read. -/
theorem chunks {α : Type} {sz : Nat} (enc : α → List Value) (_hsz : 0 < sz) : ∀ (xs : List α) (cells : List Value), cells.length = xs.length * sz → (∀ i (hi : i < xs.length), (cells.drop (i * sz)).take sz = enc xs[i]) → cells = xs.flatMap enc := by
  intro xs
  induction xs with
  | nil => intro cells hl _; simpa using hl
  | cons x xs ih =>
    intro cells hl h
    have h0 := h 0 (by simp)
    simp only [Nat.zero_mul, List.drop_zero, List.getElem_cons_zero] at h0
    rw [List.length_cons, Nat.add_mul, Nat.one_mul] at hl
    have h1 := ih (cells.drop sz) (by rw [List.length_drop]; omega) (fun i hi => by
      have := h (i + 1) (by simpa using hi)
      rw [List.drop_drop, show sz + i * sz = (i + 1) * sz by rw [Nat.add_mul]; omega]
      simpa using this)
    rw [List.flatMap_cons, ← h0, ← h1]
    exact (List.take_append_drop sz cells).symm
theorem IsL.news {α : Type} {sz c : Nat} {R : Rp α} {χ : Col} {w : World} {ad : Addr} {n cap : Nat} {xs : List α} (enc : α → List Value) (henc : ∀ χ w cs x, R χ w cs x → cs = enc x) (hsz : 0 < sz) (hone : R.One) (h : IsL sz R c χ w (.slice (some ad) n cap) xs) :
    n = xs.length ∧ (xs.flatMap enc).length = n * sz ∧ (∀ j u, (xs.flatMap enc)[j]? = some u → w.cell? (ad.add j) = some u) ∧ ∀ u ∈ xs.flatMap enc, u.oneCell' = true := by
  have hn : n = xs.length := by obtain ⟨A, cap', e, _⟩ := id h; cases e; rfl
  by_cases hx : xs = []
  · subst hx
    exact ⟨hn, by simp [hn], fun j u hj => by simp at hj, fun u hu => by simp at hu⟩
  · obtain ⟨A, cap', e, h1, h2, h3, h4⟩ := id h
    cases e
    obtain ⟨b, o, cs, e, -⟩ := h4 0 (List.length_pos_iff.2 hx)
    cases e
    obtain ⟨cells, k1, k2, k3, k4, k5⟩ := h.cells hsz hone
    have e := chunks enc hsz xs cells k1 (fun i hi => henc _ _ _ _ (k5 i hi))
    rw [← e]
    exact ⟨hn, k1, k3, k4⟩
theorem rPair_one : rPair.One := by rintro χ w cs x rfl u hu; simp at hu; rcases hu with rfl | rfl <;> rfl
theorem rU_one : rU.One := by rintro χ w cs x ⟨rfl, _⟩ u hu; simp at hu; subst hu; rfl
theorem infoU32 : (Try.prog.info? 32).map (fun i => (i.zero, i.size, i.bytes)) = some (some (.int .u32 0), 1, 4) := by kernel_rfl

theorem wpList_append_L {α : Type} {R : Rp α} {sz by_ : Nat} (t e : TypeId) (i : TypeInfo) (z : Value) (ht : Try.prog.underlying t = some (.slice e)) (hi : Try.prog.info? e = some i) (hz : i.zero = some z) (hs1 : i.size = sz) (hb1 : i.bytes = by_) (hzs : z.cells.size = sz) (hsz : 0 < sz) (hby : by_ ≤ 100)
    (enc : α → List Value) (henc : ∀ χ w cs x, R χ w cs x → cs = enc x) (hone : R.One)
    {w : World} {ops : Array Oper} {rest : List Oper} {o : Oper} {a : Act} {Q : Exit → Act → World → Prop} (hgd : o.guard = none) (s x : Operand)
    (ho : o.op = .call { callee := .builtin .append, args := #[s, x], argTypes := #[t, t] })
    (base : Nat) (v : Value) (n : Nat) (xs : List Value) (hs : a.eval s = v) (hown : w.ownsRow base e sz v n xs)
    (u : Value) {c : Nat} {χ : Col} (ys : List α) (hx : a.eval x = u) (hu : IsL sz R c χ w u ys) (h63 : n + ys.length ≤ 1000000) (hbase : base ≤ w.heap.size)
    (h : ∀ v' w', w'.ownsRow base e sz v' (n + ys.length) (xs ++ ys.flatMap enc) → w.grownBy w' v.ownBlock → (v'.ownBlock = v.ownBlock ∨ v'.ownBlock = some w.heap.size) → wpList Try.prog ops Q rest (a.put o.dst v') w') :
    wpList Try.prog ops Q (o :: rest) a w := by
  obtain ⟨A, cap, rfl, u1, u2, u3, -⟩ := id hu
  cases A with
  | some ad =>
    obtain ⟨e0, e1, e2, e3⟩ := hu.news enc henc hsz hone
    have hm : (n + ys.length) * by_ ≤ 1000000 * 100 := Nat.mul_le_mul h63 hby
    exact wpList_append_own_at _ hgd s x t ho base e i z sz by_ ht hi hz hs1 hb1 hzs hsz v n xs hs hown ad ys.length cap _ hx e1 e2 e3 (by unfold maxLen; omega) (by omega) hbase
      fun v' w' k1 k2 k3 k4 => h v' w' k1 k2 k4
  | none =>
    have hc : cap = 0 := u3.2 rfl
    have hy : ys = [] := List.length_eq_zero_iff.1 (by omega)
    subst hc; subst hy
    exact wpList_append_own_none hgd s x t ho base e i sz ht hi v n xs hs hown hx
      (h v w (by simpa using hown) ⟨rfl, rfl, rfl, Nat.le_refl _, fun _ _ _ => rfl⟩ (.inl rfl))
def ucells (k : Nat) : List Value := [.int .u32 k]
end Go.Proofs.Ytcdldjiogoapkaa
