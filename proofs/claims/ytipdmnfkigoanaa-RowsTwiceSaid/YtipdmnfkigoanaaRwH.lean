import Derived.Test.YtipdmnfkigoanaaRwG
import Derived.Laws.IdiomRangeMap
namespace Go.Proofs.Ytipdmnfkigoanaa
open Go.RowKit Go.Maps Go.Shelf
attribute [local go_sem] World.cell?_alloc_some frozen_alloc_some

/-! All cells that are there, by their versions. -/
/-- out = append(out, a cell just read) -/
theorem push_cl {W : World} {ops : Array Oper} {rest : List Oper} {o : Oper} {a : Act} {Q : Exit → Act → World → Prop} (hgd : o.guard = none) (s x : Operand)
    (ho : o.op = .call { callee := .builtin .append, args := #[s, x], argTypes := #[30, 30] })
    (base : Nat) (l : List Cl) (v : Value) (hs : a.eval s = v) (hown : NewK base W v l) (hl : l.length ≤ 1000000) (hbase : base ≤ W.heap.size)
    (y : Cl) (b : Nat) (hx : a.eval x = .slice (some ⟨b, 0, none⟩) 1 1) (hb : b = W.heap.size)
    (h : ∀ v' w', NewK base w' v' (l ++ [y]) → Below base W w' → (∀ b, b < W.heap.size → some b ≠ v.ownBlock → w'.heap[b]? = W.heap[b]?) → wpList Try.prog ops Q rest (a.put o.dst v') w') :
    wpList Try.prog ops Q (o :: rest) a (W.alloc (.cells #[.int .i64 y.lab, .int .u32 y.key] 36)) := by
  subst hb
  obtain ⟨i0, hi, hz0, hz1, hz2⟩ := info_parts infoCl
  refine wpList_append_own_at _ hgd s x 30 ho base 36 i0 _ 2 16 Try.underlying30 hi hz0 hz1 hz2 rfl (by decide) v l.length _ hs (World.ownsRow.alloc hown _) ⟨W.heap.size, 0, none⟩ 1 1 [.int .i64 y.lab, .int .u32 y.key] hx rfl (World.news_of_block (heap_alloc_new W _)) (by simp [Value.oneCell']) (by unfold maxLen; omega) (by omega) (by simp; omega) ?_
  intro v' w6 hown' hgrow _ hat
  refine h v' w6 ?_ (push_base hown hgrow (Nat.le_refl _) hbase) (fun b hb hne => (hgrow.block b (by simp; omega) hne).trans (Below.heap_alloc _ _ _ hb))
  unfold NewK
  rw [List.length_append, List.flatMap_append]
  exact hown'
theorem wpList_nextC {w : World} {b n r cnt : Nat} {F : Cl → Option Int} {left : Cl → Bool} {ops : Array Oper} {rest : List Oper} {o : Oper} {a : Act} {Q : Exit → Act → World → Prop} (hg : o.guard = none) (it : Operand) (hop : o.op = Op.next it false) (hit : a.eval it = .pointer (some ⟨r, 0, none⟩)) (h : RangeF krC erV w b r n F left cnt)
    (hDone : (∀ x, left x = false) → wpList Try.prog ops Q rest (a.put o.dst (.tuple #[.bool false])) w)
    (hMore : ∀ (x : Cl) (s : Int) (w' : World) (cnt' : Nat), left x = true → F x = some s → RangeF krC erV w' b r n F (fun y => left y && !decide (y = x)) cnt' → cnt' < cnt →
      w.grownBy w' (some r) → w'.heap.size = w.heap.size → (Instr.entry (.pointer (some ⟨r, 0, none⟩))).run Try.prog w' = .ok (.tuple #[.agg #[.int .i64 x.lab, .int .u32 x.key], .int .i64 s]) w' → wpList Try.prog ops Q rest (a.put o.dst (.tuple #[.bool true, .agg #[.int .i64 x.lab, .int .u32 x.key], .int .i64 s])) w') :
    wpList Try.prog ops Q (o :: rest) a w :=
  wpList_nextF hg it hop hit h (fun h => hDone fun x => h x trivial) fun x s w' cnt' _ h2 h3 h4 h5 h6 h7 h8 => hMore x s w' cnt' h2 h3 h4 h5 h6 h7 h8
theorem sorted_uniq {L : RL} {last : Nat} (h : RwL L last) {l : List Cl} (hp : l.Perm (L.map (·.1))) (hs : l.Pairwise fun s t => vOf (verO L) s ≤ vOf (verO L) t) : l = L.map (·.1) := by
  have hv : ∀ p ∈ L, vOf (verO L) p.1 = p.2 := fun p hp => by unfold vOf; rw [verO_of h.nd (x := p.1) (v := p.2) hp]; rfl
  refine List.Perm.eq_of_pairwise (le := fun s t => vOf (verO L) s ≤ vOf (verO L) t) ?_ hs ?_ hp
  · intro a b ha hb h1 h2
    have ha := hp.mem_iff.1 ha
    obtain ⟨p, hp1, rfl⟩ := List.mem_map.1 ha
    obtain ⟨q, hq1, rfl⟩ := List.mem_map.1 hb
    rw [hv p hp1, hv q hq1] at h1 h2
    have e : p.2 = q.2 := by omega
    obtain ⟨i, hi, rfl⟩ := List.getElem_of_mem hp1
    obtain ⟨j, hj, rfl⟩ := List.getElem_of_mem hq1
    have hu := List.pairwise_iff_getElem.1 h.up
    rcases Nat.lt_trichotomy i j with hij | hij | hij
    · have := hu i j hi hj hij; omega
    · subst hij; rfl
    · have := hu j i hj hi hij; omega
  · rw [List.pairwise_map]
    refine h.up.imp_of_mem fun {p q} hp hq hpq => ?_
    rw [hv p hp, hv q hq]; omega
variable {c : Nat} {χ χ' : Col} {w w' : World} {rb : Nat} {t : TypeId} {rest : List Value} {L : RL} {ev : List Cl} {last : Nat} {vm em : Value} {n1 n2 : Nat}
set_option maxRecDepth 100000 in
set_option maxHeartbeats 4000000 in
theorem sorted_nil (w : World) (h : RwIn c χ w rb t rest L ev last vm em n1 n2) (e1 : vm = .map none) :
    Calls Try.prog 28 #[.pointer (some ⟨rb, 0, none⟩)] w fun e w' => ∃ v, e = .returned v ∧ NewK w.heap.size w' v (L.map (·.1)) ∧ Below w.heap.size w w' := by
  subst e1
  obtain ⟨c0, -, -, -, -, -⟩ := h.cells
  have hL : L = [] := by
    rcases h.mv with ⟨-, -, e⟩ | ⟨b, e, -⟩
    · refine List.eq_nil_iff_forall_not_mem.2 fun p hp => ?_
      have := verO_of h.wf.nd (x := p.1) (v := p.2) hp
      rw [e] at this; cases this
    · cases e
  subst hL
  have hrg := fun w => run_range_nilMap (P := Try.prog) w 26 _ _ Try.underlying26
  have hb1 := (Below.refl w.heap.size w).alloc (Nat.le_refl _) (.cells #[.pointer (some ⟨rb, 0, none⟩)] 51)
  have hb2 := hb1.alloc (by simp) (.mapIter none 0 #[] 0)
  have hnx : ∀ ty, (Instr.next (.pointer (some ⟨w.heap.size + 1, 0, none⟩)) false ty).run Try.prog ((w.alloc (.cells #[.pointer (some ⟨rb, 0, none⟩)] 51)).alloc (.mapIter none 0 #[] 0)) = .ok (.tuple #[.bool false]) ((w.alloc (.cells #[.pointer (some ⟨rb, 0, none⟩)] 51)).alloc (.mapIter none 0 #[] 0)) := fun ty => by
    have := run_next_nilMap (P := Try.prog) (w.alloc (.cells #[.pointer (some ⟨rb, 0, none⟩)] 51)) ty 0 0 #[]
    rwa [World.size_alloc] at this
  clear h
  go_enter Try.func28, Try.ntmps28
  go_wp2
  refine wp_loop_rounds 1 ?_
  rw [rounds_succ]
  go_wp2_with (go_at_call 34; refine (AnyF.slices_SortFunc_none Try.sortCl none 0 _ _).mono ?_; rintro e w' ⟨rfl, rfl⟩)
  go_ret
  exact ⟨_, rfl, ⟨rfl, .inl ⟨rfl, rfl⟩⟩, hb2⟩
end Go.Proofs.Ytipdmnfkigoanaa
