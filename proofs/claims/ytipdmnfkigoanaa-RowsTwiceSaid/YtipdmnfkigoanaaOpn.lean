import Derived.Test.YtipdmnfkigoanaaBase
import Derived.ProofKit
import Derived.OpenShut
import Derived.Deep.Slices
namespace Go.Proofs.Ytipdmnfkigoanaa
open Go.ChangeShapes Go.WideShapes Go.ChangeAt Go.RowKit Go.Deep

/-- The reading of a value of type e tells a thing of Lean's. -/
def Tells {α : Type} (H : Type) (enc : TypeId × Value → H) (w : World) (e sz : Nat) (R : Rp α) : Prop :=
  ∀ fuel cs d, cs.length = sz → DataW.trod enc Try.prog w 0 (fun _ => true) true fuel e cs = some d → ∃ x, R (fun _ => 0) w cs x

theorem tells_int {H : Type} {enc : TypeId × Value → H} {w : World} {e : Nat} {k : IntKind} (he : Try.prog.underlying e = some (.int k)) (P : Int → Prop) (hP : ∀ n, (Lit.int k n).wf = true → P n) :
    Tells H enc w e 1 (fun χ w cs x => rInt k χ w cs x ∧ P x) := by
  intro fuel cs d hl h
  match cs, hl with
  | [c], _ =>
    obtain ⟨n, e, _, hw⟩ := DataW.trod_int he h
    exact ⟨n, e, hP n hw⟩

theorem spot_none {w : World} {b o sz : Nat} {s : Option Nat} {v : Value} (h : w.cell? (((⟨b, o, s⟩ : Addr).add (0 * sz)).add 0) = some v) : s = none := by
  simp only [Nat.zero_mul, Addr.add, if_true] at h
  unfold World.cell? at h
  split at h
  · cases s with
    | none => rfl
    | some x => simp at h
  · simp at h

theorem tells_slice {α : Type} {H : Type} {enc : TypeId × Value → H} {w : World} {t e sz : Nat} {R : Rp α} (ht : Try.prog.underlying t = some (.slice e)) (hsz : Try.prog.cellsOf e = sz) (h0 : 0 < sz) (hR : Tells H enc w e sz R) :
    Tells H enc w t 1 (rSl sz R 0) := by
  intro fuel cs d hl h
  rcases open_slice ht h with ⟨rfl, _⟩ | ⟨a, len, cap, m, n, D, Pl, rfl, hb, hlc, hm, hmm, _, hx⟩
  · exact ⟨[], _, rfl, none, 0, rfl, by simp, by simp, ⟨by simp, fun _ => rfl⟩, fun i hi => by simp at hi⟩
  · obtain rfl : m = cap := by simpa using hmm
    rw [hsz] at hx
    have key : ∀ i, i < len → ∃ cs x, w.cells? 0 (a.add (i * sz)) sz = some cs ∧ cs.length = sz ∧ R (fun _ => 0) w cs x := fun i hi => by
      obtain ⟨cs, h1, h2⟩ := hx i (by omega)
      obtain ⟨_, hlen, _⟩ := World.cells?_some h1
      obtain ⟨x, hr⟩ := hR _ _ _ hlen h2
      exact ⟨cs, x, h1, hlen, hr⟩
    have build : ∀ n, n ≤ len → ∃ xs : List α, xs.length = n ∧ ∀ i (hi : i < xs.length), ∃ cs, w.cells? 0 (a.add (i * sz)) sz = some cs ∧ cs.length = sz ∧ R (fun _ => 0) w cs xs[i] := by
      intro n
      induction n with
      | zero => exact fun _ => ⟨[], rfl, fun i hi => by simp at hi⟩
      | succ n ih =>
        intro hn
        obtain ⟨xs, hl, hxs⟩ := ih (by omega)
        obtain ⟨cs, x, h1, h2, h3⟩ := key n (by omega)
        refine ⟨xs ++ [x], by simp [hl], fun i hi => ?_⟩
        by_cases hi' : i < xs.length
        · obtain ⟨cs, g1, g2, g3⟩ := hxs i hi'
          exact ⟨cs, g1, g2, by rw [List.getElem_append_left hi']; exact g3⟩
        · have : i = n := by simp at hi; omega
          subst this
          exact ⟨cs, h1, h2, by rw [List.getElem_append_right (by omega)]; simpa [hl] using h3⟩
    obtain ⟨xs, hxl, hxs⟩ := build len (Nat.le_refl _)
    refine ⟨xs, _, rfl, some a, m, by rw [hxl], by omega, hm, ⟨by unfold maxLen at hm; omega, fun h => by cases h⟩, fun i hi => ?_⟩
    obtain ⟨cs, g1, g2, g3⟩ := hxs i hi
    obtain ⟨_, _, hc⟩ := World.cells?_some g1
    obtain ⟨b, o, s⟩ := a
    have hs : s = none := by
      obtain ⟨cs0, k1, k2, k3⟩ := hxs 0 (by omega)
      obtain ⟨_, _, hc0⟩ := World.cells?_some k1
      have h0 := hc0 0 h0
      rw [List.getElem?_eq_getElem (by omega)] at h0
      exact spot_none h0
    subst hs
    have hadd : ∀ b o j, (⟨b, o, none⟩ : Addr).add j = ⟨b, o + j, none⟩ := fun b o j => by
      unfold Addr.add
      split
      · rename_i h; rw [h]; rfl
      · rfl
    refine ⟨b, o, cs, rfl, rfl, g2, g3, fun j hj => ?_⟩
    have := hc j (by omega)
    rw [hadd, hadd, List.getElem?_eq_getElem hj] at this
    exact this

set_option maxRecDepth 100000 in
/-- An argument that is a slice. -/
theorem arg_slice {α : Type} {H : Type} {enc : TypeId × Value → H} {w : World} {t e sz : Nat} {R : Rp α} {v : Value} {d : DataW H} {p : List MemPlace} (ht : Try.prog.underlying t = some (.slice e)) {base : Nat} (hok : Value.okWide Try.prog w .any base t v)
    (hsz : Try.prog.cellsOf e = sz) (h0 : 0 < sz) (hR : Tells H enc w e sz R) (h : DataW.Trod enc Try.prog w 0 (fun _ => true) true t v d p) : ∃ xs, IsL sz R 0 (fun _ => 0) w v xs := by
  obtain ⟨a, len, cap, rfl⟩ := okWide_slice ht hok
  obtain ⟨fuel, hf⟩ := h
  obtain ⟨xs, v, e, hv⟩ := tells_slice ht hsz h0 hR fuel _ _ rfl hf
  cases e
  exact ⟨xs, hv⟩

end Go.Proofs.Ytipdmnfkigoanaa
