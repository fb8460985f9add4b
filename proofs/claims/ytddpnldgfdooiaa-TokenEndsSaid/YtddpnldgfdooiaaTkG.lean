import Derived.Test.YtddpnldgfdooiaaTkF
import Derived.Test.YtddpnldgfdooiaaCloneI
namespace Go.Proofs.Ytddpnldgfdooiaa
open Go.RowKit Go.Maps
attribute [local go_sem] Oper.semAt_some World.cell?_alloc_some frozen_alloc_some

/-! The keys, collected. -/
theorem infoU : (Try.prog.info? 31).map (fun i => (i.zero, i.size, i.bytes)) = some (some (.int .u64 0), 1, 8) := by kernel_rfl
def SeqI (w : World) (F : Int → Option Ses) (pre : List Int) (W : World) : Prop :=
  Below w.heap.size w W ∧ w.heap.size + 1 ≤ W.heap.size ∧ (pre.Nodup ∧ ∀ y ∈ pre, (F y).isSome = true) ∧ ∃ v, Var W w.heap.size v ∧ W.ownsRow (w.heap.size + 1) 31 1 v pre.length (pre.map (Value.int .u64))
theorem SeqI.std {w : World} {F : Int → Option Ses} {pre : List Int} {W W' : World} {B : Nat} (h : SeqI w F pre W) (hs : Std B W W') (hB : w.heap.size ≤ B) : SeqI w F pre W' := by
  obtain ⟨h1, h2, h3, v, h4, h5⟩ := h
  exact ⟨hs.below h1 hB (Nat.le_refl _), by have := hs.size; omega, h3, v, h4.std hs, hs.owns h5⟩
theorem KeepRec.push {B : Nat} {W w1 : World} {base e sz n : Nat} {v : Value} {xs : List Value} {o : Obj} (h : W.ownsRow base e sz v n xs) (hg : (W.alloc o).grownBy w1 v.ownBlock) : KeepRec B W w1 := by
  refine ⟨by have := hg.size; simp at this; omega, fun k o' _ ho hr => ?_⟩
  have hk := (Array.getElem?_eq_some_iff.1 ho).1
  refine ((hg.block k (by simp; omega) (fun e2 => ?_)).trans (Below.heap_alloc _ _ _ hk)).trans ho
  obtain ⟨-, (⟨rfl, -⟩ | ⟨g, cap, cur, rfl, -, hh, -⟩)⟩ := h
  · simp [Value.ownBlock] at e2
  · have : k = g := by simpa [Value.ownBlock] using e2
    subst this
    rw [hh] at ho
    cases ho
    cases hr
set_option maxHeartbeats 4000000 in
set_option maxRecDepth 100000 in
theorem appendSeq_calls (w : World) (bx mb m : Nat) {F : Int → Option Ses} (hm : MapF krU erS w mb m F) (hbox : w.cell? ⟨bx, 0, none⟩ = some (.map (some mb))) (hmm : m ≤ 1000) :
    Calls Try.prog 28 #[.slice none 0 0, .func (.func 27) #[] #[.pointer (some ⟨bx, 0, none⟩)]] w fun e w' =>
      ∃ v xs, e = .returned v ∧ FinK F xs ∧ w'.ownsRow w.heap.size 31 1 v xs.length (xs.map (Value.int .u64)) ∧ Below w.heap.size w w' := by
  obtain ⟨i0, hi, hz0, hz1, hz2⟩ := info_parts infoU
  refine callsIn_wide (n := 99) |>.1 ?_
  refine callsIn_of_wp_marks Try.func28 rfl trivial ?_ rfl
  simp only [Try.ntmps28, List.size_toArray, List.length_cons, List.length_nil, Nat.reduceAdd, Nat.reduceSub, Array.replicate_succ, Array.replicate_zero, List.push_toArray, List.append_toArray, List.nil_append, List.cons_append]
  gi_wp2
  have hb0 : Below w.heap.size w (w.alloc (.cells #[.slice none 0 0] 42)) := (Below.refl _ _).alloc (Nat.le_refl _) _
  have hv0 := Var.new w (.slice none 0 0) 42
  have hbx : ∀ W, Below (w.alloc (.cells #[.slice none 0 0] 42)).heap.size (w.alloc (.cells #[.slice none 0 0] 42)) W → W.cell? ⟨bx, 0, none⟩ = some (.map (some mb)) := fun W hW => by
    have hl := World.block_lt_of_cell? w _ hbox
    have hl : bx < w.heap.size := hl
    exact (World.cell?_of_block ((hW.block bx (by simp; omega)).trans (hb0.block bx hl))).trans hbox
  obtain ⟨mc, hmc, hmcm, -⟩ := hm.len Try.underlying52
  have hlen : ∀ pre : List Int, (pre.Nodup ∧ ∀ y ∈ pre, (F y).isSome = true) → pre.length ≤ 1000 := fun pre h => by
    obtain ⟨ks, k1, k2, k3⟩ := hmc
    have := nodup_le h.1 (m := ks) fun y hy => (k2 y).2 (h.2 y hy)
    omega
  refine wp_rangeN (gf := 27) (lb := #[.pointer (some ⟨bx, 0, none⟩)]) (Next := NextK F) (Fin := FinK F) (Y := YKey) (N0 := w.heap.size) rfl (enters_of Try.func27 (by kernel_rfl) rfl)
    (fun W hb => keys1_iter w W bx mb m hm (hb0.trans (hb.mono (by simp))) (hbx W hb)) (by simp)
    (SeqI w F) (fun _ _ _ => False)
    (fun pre x a₁ W => SeqI w F pre W ∧ NextK F pre x ∧ a₁ = { tmps := #[.slice none 0 0, .func (.func 27) #[] #[.pointer (some ⟨bx, 0, none⟩)], .pointer (some ⟨w.heap.size, 0, none⟩), undef, .slice none 0 0, .int .u64 x, .func (.func 27) #[] #[.pointer (some ⟨bx, 0, none⟩)], .int .u64 x, undef, undef, undef, undef, undef], defers := [] })
    ?hI ?hIx ?hZ ⟨hb0, by simp, ⟨List.nodup_nil, fun y hy => by simp at hy⟩, _, hv0, World.ownsRow_nil _ _ _ _⟩ ?assign ?body ?done ?stop
  case hI => exact fun pre W W' h hs => h.std hs (by simp)
  case hIx => exact fun _ _ _ _ h _ => h
  case hZ => exact fun pre x a₁ W W' h hs => ⟨h.1.std hs (by simp), h.2⟩
  case assign =>
    rintro l pre x vs U W hx hi hUW rfl
    refine ⟨rfl, ?_⟩
    gi_wp2
    exact ⟨KeepRec.refl _ _, Below.refl _ _, hi.std (Std.of_below hUW) (by have := hi.1.size; omega), hx, trivial⟩
  case body =>
    rintro l pre x a₁ W hx ⟨hi, -, rfl⟩
    obtain ⟨h1, h2, h3, v, h4, h5⟩ := hi
    have hpl := hlen pre h3
    have H4 := Lib.hid h4
    have h4c := h4.1
    have h4f := h4.2
    obtain ⟨A, cap, rfl⟩ := owns_form h5
    gi_wp2_with (gi_at_builtin; refine wpListIn_append_own_at _ rfl _ _ 42 rfl (w.heap.size + 1) 31 i0 _ 1 8 Try.underlying42 hi hz0 hz1 hz2 rfl (by decide) _ _ _ rfl (h5.alloc _) ⟨W.heap.size, 0, none⟩ 1 1 [.int .u64 x] rfl rfl (cell_one_new _ _ _) (by simp [Value.oneCell']) (by unfold maxLen; omega) (by omega) (by simp; omega) ?_; intro v' w1 hown' hgrow _ hat; obtain ⟨A', c', rfl⟩ := owns_form hown'; obtain ⟨z2, z3⟩ := (H4.out.alloc (.cells #[.int .u64 x] 31)).block (hgrow.block w.heap.size (by simp; omega) (fun e => by have := (h5.lt _ e.symm).1; omega)))
    have hbW : Below w.heap.size W w1 := push_base h5 hgrow (by omega) (by omega)
    have hv1 : Var (w1.setCell ⟨w.heap.size, 0, none⟩ (.slice A' (pre.length + 1) c')) w.heap.size (.slice A' (pre.length + 1) c') := Var.set ⟨z2, z3⟩ _
    have hK1 : KeepRec (w.alloc (.cells #[.slice none 0 0] 42)).heap.size W (w1.setCell ⟨w.heap.size, 0, none⟩ (.slice A' (pre.length + 1) c')) := by
      exact KeepRec.setCell (KeepRec.push h5 hgrow) _ _
    have hnew : (F x).isSome = true ∧ x ∉ pre := hx
    refine ⟨hK1, hbW.setCell (Nat.le_refl _) _, (h1.trans hbW).setCell (Nat.le_refl _) _, by have := hbW.size; simp [World.setCell]; omega, ⟨?_, fun y hy => ?_⟩, _, hv1, ?_⟩
    · rw [List.nodup_append]
      exact ⟨h3.1, by simp, fun a ha b hb e => hnew.2 (by simp at hb; rw [← hb, ← e]; exact ha)⟩
    · rcases List.mem_append.1 hy with h | h
      · exact h3.2 y h
      · rw [List.mem_singleton.1 h]; exact hnew.1
    · rw [List.length_append, List.map_append]
      exact owns_same hown' fun b e => Below.heap_setCell _ _ _ _ (by have := (hown'.lt b e).1; simp; omega)
  case done =>
    rintro D xs W hD hF ⟨h1, h2, h3, v, h4, h5⟩ hK
    have h4c := h4.1
    gi_wp2
    refine ⟨by simp, .inl ⟨_, _, rfl, run_takeDeferred hK, ?_⟩⟩
    have s2 : Std (w.heap.size + 1) W (W.putObj D (.deferred none)) := .putObj _ hK rfl (by simp at hD; omega)
    refine ⟨v, by simp [results, Try.results28, go_sem], v, xs, rfl, hF, (s2.owns h5).mono_base (by omega), s2.below h1 (by omega) (Nat.le_refl _)⟩
  case stop =>
    rintro D c pre W hD h hK
    exact h.elim
end Go.Proofs.Ytddpnldgfdooiaa
