import Derived.Test.YtipdmnfkigoanaaMpA
import Derived.Sort.MapsRangeIn
namespace Go.Proofs.Ytipdmnfkigoanaa
open Go.RowKit Go.Maps

/-! A range over a map, inside a fence. -/
section
variable {κ S : Type} {k : TypeId} {Kk : Kr κ k} {E : Er S} {w : World} {b r n nn cnt : Nat} {F : κ → Option S} {left : κ → Bool} {Fe : Fence} {ops : Array Oper} {rest : List Oper} {o : Oper} {a : Act} {Q : Exit → Act → World → Prop} {t e : TypeId}
theorem RangeF.of_blocks {w' : World} (h : RangeF Kk E w b r n F left cnt) (hb : w'.heap[b]? = w.heap[b]?) (hr : w'.heap[r]? = w.heap[r]?) : RangeF Kk E w' b r n F left cnt := by
  obtain ⟨D, lf, ⟨es, clock, since, seen, c0, h1, h2, h3, h4, h5, h6⟩, h7⟩ := h
  exact ⟨D, lf, ⟨es, clock, since, seen, c0, hb.trans h1, h2, h3, h4, hr.trans h5, h6⟩, h7⟩
theorem wpListIn_rangeF (hg : o.guard = none) (m : Operand) (hop : o.op = Op.range t m) (ht : Try.prog.underlying t = some (.map k e)) (hm : a.eval m = .map (some b)) (h : MapF Kk E w b n F)
    (hK : ∀ w' c, RangeF Kk E w' b w.heap.size n F (fun x => (F x).isSome) c → w.grownBy w' none → w'.heap.size = w.heap.size + 1 → wpListIn Fe nn Try.prog ops Q rest (a.put o.dst (.pointer (some ⟨w.heap.size, 0, none⟩))) w') :
    wpListIn Fe nn Try.prog ops Q (o :: rest) a w := by
  obtain ⟨D, h1, h2⟩ := h
  exact wpListIn_range_own w hg m t hop k e Kk.keyed ht E.R b n D hm h1 fun w' r1 r2 r3 => hK w' _ ⟨D, _, r1, h2, fun x hx => (h2.2 x hx).1⟩ r2 r3
theorem wpListIn_nextF [DecidableEq κ] (hg : o.guard = none) (it : Operand) (hop : o.op = Op.next it false) (hit : a.eval it = .pointer (some ⟨r, 0, none⟩)) (h : RangeF Kk E w b r n F left cnt)
    (hDone : (∀ x, Kk.ok x → left x = false) → wpListIn Fe nn Try.prog ops Q rest (a.put o.dst (.tuple #[.bool false])) w)
    (hMore : ∀ (x : κ) (s : S) (w' : World) (cnt' : Nat), Kk.ok x → left x = true → F x = some s → RangeF Kk E w' b r n F (fun y => left y && !decide (y = x)) cnt' → cnt' < cnt →
      w.grownBy w' (some r) → w'.heap.size = w.heap.size → (Instr.entry (.pointer (some ⟨r, 0, none⟩))).run Try.prog w' = .ok (.tuple #[Kk.kv x, E.val s]) w' → wpListIn Fe nn Try.prog ops Q rest (a.put o.dst (.tuple #[.bool true, Kk.kv x, E.val s])) w') :
    wpListIn Fe nn Try.prog ops Q (o :: rest) a w := by
  obtain ⟨D, lf, h1, h2, h3⟩ := h
  refine wpListIn_next_ranges w hg it hop k Kk.keyed E.R Kk.kv E.val (fun key kl hk => let ⟨x, _, e, _⟩ := Kk.inv _ _ hk; ⟨x, e⟩) (fun v y hv => let ⟨s, e, _⟩ := E.inv _ _ hv; ⟨s, e⟩) b r n D lf cnt hit h1
    (fun _ hl => hDone fun x hx => by rw [← h3 x hx]; exact hl _) fun x c kl y w' cnt' hkey hlx hv hat hrg hlt hgr hsz hen => ?_
  obtain ⟨x', hx', e1, rfl⟩ := Kk.inv _ _ hkey
  obtain ⟨s, e2, rfl⟩ := E.inv _ _ hv
  rw [e1, e2] at hen ⊢
  have hs : (F x').isSome = true := by
    rw [← (h2.2 x' hx').1]
    exact has_true_of_atKey hat
  obtain ⟨s', hs'⟩ := Option.isSome_iff_exists.1 hs
  have he := (h2.2 x' hx').2 s' hs' (.held s)
  rw [hat (.held s)] at he
  have : s = s' := by cases he; rfl
  subst this
  exact hMore x' s w' cnt' hx' (by rw [← h3 x' hx']; exact hlx) hs' ⟨D, _, hrg, h2, fun y hy => by rw [h3 y hy, Kk.same hy hx']⟩ hlt hgr hsz hen
end
end Go.Proofs.Ytipdmnfkigoanaa
