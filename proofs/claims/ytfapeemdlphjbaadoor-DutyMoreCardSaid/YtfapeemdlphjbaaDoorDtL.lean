import Derived.Test.YtfapeemdlphjbaaDoorDtK
import Derived.RangeFuncBox
namespace Go.Proofs.YtfapeemdlphjbaaDoor
open Go.RowKit
attribute [local go_sem] World.cell?_alloc_some frozen_alloc_some

/-! A row of grants of one's own. -/
theorem infoGr : (Tryd.prog.info? 31).map (fun i => (i.zero, i.size, i.bytes)) = some (some (.agg #[.int .i64 0, .int .i64 0, .int .i64 0, .int .i64 0, .bool false, .slice none 0 0, .int .i64 0]), 7, 72) := by kernel_rfl
def gc (p : Gr × Value) : List Value := [.int .i64 p.1.par, .int .i64 p.1.hol, .int .i64 p.1.ten, .int .i64 p.1.dep, .bool p.1.wr, p.2, .int .i64 p.1.exp]
/-- the areas read in the world w0. -/
def RdP (w0 : World) (ps : List (Gr × Value)) : Prop := ∀ p ∈ ps, RdA w0 p.2 p.1.ar
theorem RdP.nil {w0 : World} : RdP w0 [] := fun p hp => by simp at hp
theorem RdP.snoc {w0 : World} {ps : List (Gr × Value)} {g : Gr} {u : Value} (h : RdP w0 ps) (hu : RdA w0 u g.ar) : RdP w0 (ps ++ [(g, u)]) := fun p hp => by
  rcases List.mem_append.1 hp with h1 | h1
  · exact h p h1
  · simp at h1; subst h1; exact hu
def OwnG (base : Nat) (W : World) (v : Value) (ps : List (Gr × Value)) : Prop := W.ownsRow base 31 7 v ps.length (ps.flatMap gc)
theorem OwnG.rd {base : Nat} {w0 W : World} {v : Value} {ps : List (Gr × Value)} (h : OwnG base W v ps) (hp : RdP w0 ps) (hb : Below w0.heap.size w0 W) (hl : ps.length ≤ 1000000) : RdG W v (ps.map (·.1)) := by
  have hx : W.ownsRow base 31 7 v (ps.map (·.1)).length (ps.flatMap gc) := by rw [List.length_map]; exact h
  refine IsL.of_owns (by omega) hx (by rw [List.length_map]; omega) (fun _ _ => rfl) fun i hi => ?_
  have hi2 : i < ps.length := by simpa using hi
  rw [flat_chunk gc 7 (fun _ => rfl) ps i hi2, List.getElem_map]
  exact ⟨ps[i].2, rfl, (hp _ (List.getElem_mem hi2)).keep hb⟩
theorem OwnG.keep {base : Nat} {W W' : World} {v : Value} {ps : List (Gr × Value)} (h : OwnG base W v ps) (hb : Below W.heap.size W W') : OwnG base W' v ps :=
  owns_same h fun b e => hb.block b (h.lt b e).2

theorem OwnG.push {base : Nat} {W : World} {v : Value} {ps : List (Gr × Value)} {p : Gr × Value} (h : W.ownsRow base 31 7 v (ps.length + 1) (ps.flatMap gc ++ gc p)) : OwnG base W v (ps ++ [p]) := by
  unfold OwnG
  rw [List.length_append, List.flatMap_append]
  simpa using h

/-- what is asked of one tenant. -/
theorem chk_set (l : List Gr) (n k : Nat) (b : Bool) (hk : k < n) : chk l ((List.replicate n false).set k b) = (b && badB l k) := eq_of_iff (by
  unfold chk chkTo
  rw [List.any_eq_true, List.length_set, List.length_replicate]
  have hg : ∀ t, t < n → ((List.replicate n false).set k b).getD t false = if k = t then b else false := fun t ht => by
    simp only [List.getD, List.getElem?_set, List.length_replicate, List.getElem?_replicate]
    by_cases h : k = t
    · subst h; simp [ht]
    · simp [h, ht]
  constructor
  · rintro ⟨t, ht, h⟩
    rw [hg t (List.mem_range.1 ht)] at h
    by_cases e : k = t
    · subst e; simpa using h
    · rw [if_neg e] at h; simp at h
  · intro h
    exact ⟨k, List.mem_range.2 hk, by rw [hg k hk, if_pos rfl]; exact h⟩)
theorem chk_none (l : List Gr) (n : Nat) : chk l (List.replicate n false) = false := by
  unfold chk chkTo
  rw [← Bool.not_eq_true, List.any_eq_true]
  rintro ⟨t, ht, h⟩
  simp [List.getD, List.getElem?_replicate] at h
  split at h <;> simp at h
theorem badB_read (l : List Gr) (k : Int) : badB (readT l) k = false := by unfold badB; rw [clL_read]; rfl
theorem readT_snoc (l : List Gr) (k : Nat) (hk : k < l.length) : readT (l.take (k + 1)) = readT (l.take k) ++ if l[k].wr = true then [] else [l[k]] := by
  unfold readT
  rw [List.take_succ_eq_append_getElem hk, List.filter_append]
  congr 1
  by_cases h : l[k].wr = true
  · rw [if_pos h]; simp [h]
  · rw [if_neg h]; simp [h]
theorem few_read {l : List Gr} (h : FewG l) : FewG (readT l) := fun g hg => h g (List.mem_filter.1 hg).1
theorem take1_len (l : List (Nat × Nat)) : ((l.take 1).map (·.1)).length = if l.isEmpty then 0 else 1 := by cases l <;> simp

theorem clL_le (l : List Gr) (t : Int) (h : l.length ≤ 21) : (clL l t).length ≤ 1000000 := by
  rw [clL_rows, List.length_flatMap]
  have h1 : ∀ i, (clRow l t i).length ≤ 21 := fun i => by
    unfold clRow
    rw [List.length_map]
    exact Nat.le_trans (List.length_filter_le _ _) (by rw [List.length_range]; omega)
  have h2 : ∀ (m : List Nat), (m.map fun i => (clRow l t i).length).sum ≤ 21 * m.length := fun m => by
    induction m with
    | nil => simp
    | cons a m ih => simp only [List.map_cons, List.sum_cons, List.length_cons]; have := h1 a; omega
  have := h2 (List.range l.length)
  rw [List.length_range] at this
  omega
/-! A row of booleans is made. -/
theorem infoBo : (Tryd.prog.info? 4).map (fun i => (i.zero, i.size, i.bytes)) = some (some (.bool false), 1, 1) := by kernel_rfl
theorem make_bo (n : Nat) (hn : n ≤ 1000) (u : World) : (Instr.makeSlice 25 (.int .i64 n) (.int .i64 n)).run Tryd.prog u = .ok (.slice (some ⟨u.heap.size, 0, none⟩) n n) (u.alloc (.cells (madeCells #[.bool false] n) 4)) := by
  obtain ⟨i0, hi0, hz0, hz1, hz2⟩ := info_parts infoBo
  have := run_makeSlice (P := Tryd.prog) u 25 4 i0 (.bool false) Tryd.underlying25 hi0 hz0 .i64 .i64 n n (by omega) (Int.le_refl _) (by rw [hz1]; omega) (by rw [hz2]; omega) (by omega)
  simpa [hz1, Value.cells] using this
theorem rdB_own {base : Nat} {w : World} {v : Value} {l : List Bool} (h : w.ownsRow base 4 1 v l.length (l.map Value.bool)) (hl : l.length ≤ 1000) : RdB w v l :=
  IsL.of_owns (by omega) h (by omega) (fun _ _ => rfl) fun i hi => by
    rw [Nat.mul_one, List.drop_eq_getElem_cons (by simpa using hi)]
    show [_] = [_]
    simp
theorem made_bo (w : World) (n k : Nat) (b : Bool) (hk : k < n) (hn : n ≤ 1000) :
    (w.alloc (.cells (madeCells #[.bool false] n) 4)).cell? ⟨w.heap.size, k, none⟩ = some (.bool false) ∧ (w.alloc (.cells (madeCells #[.bool false] n) 4)).frozen? ⟨w.heap.size, k, none⟩ = false ∧
      RdB (w.alloc (.cells ((madeCells #[.bool false] n).setIfInBounds k (.bool b)) 4)) (.slice (some ⟨w.heap.size, 0, none⟩) n n) ((List.replicate n false).set k b) ∧
      Below w.heap.size w (w.alloc (.cells ((madeCells #[.bool false] n).setIfInBounds k (.bool b)) 4)) := by
  have h := World.ownsRow_lit (base := 0) (e := 4) (size := 1) w (madeCells #[.bool false] n) n (Nat.zero_le _) (by unfold maxLen; omega) (by simp [size_madeCells])
  have h2 := World.ownsRow_lit (base := 0) (e := 4) (size := 1) w ((madeCells #[.bool false] n).setIfInBounds k (.bool b)) n (Nat.zero_le _) (by unfold maxLen; omega) (by simp [size_madeCells])
  rw [toList_madeCells_one] at h
  rw [Array.toList_setIfInBounds, toList_madeCells_one] at h2
  have hat := heap_alloc_at w (.cells (madeCells #[.bool false] n) 4)
  refine ⟨?_, ?_, ?_, a1 _⟩
  · have := h.cells (g := w.heap.size) rfl k (.bool false) (by simp [hk])
    rwa [show (⟨w.heap.size, 0, none⟩ : Addr).add k = ⟨w.heap.size, k, none⟩ by unfold Addr.add; split <;> simp_all] at this
  · unfold World.frozen?; rw [hat]; rfl
  · refine rdB_own (base := 0) ?_ (by simpa using hn)
    rw [List.length_set, List.length_replicate, List.map_set, List.map_replicate]
    exact h2
theorem made_bo0 (w : World) (n : Nat) (hn : n ≤ 1000) : RdB (w.alloc (.cells (madeCells #[.bool false] n) 4)) (.slice (some ⟨w.heap.size, 0, none⟩) n n) (List.replicate n false) := by
  have h := World.ownsRow_lit (base := 0) (e := 4) (size := 1) w (madeCells #[.bool false] n) n (Nat.zero_le _) (by unfold maxLen; omega) (by simp [size_madeCells])
  rw [toList_madeCells_one] at h
  refine rdB_own (base := 0) ?_ (by simpa using hn)
  rw [List.length_replicate, List.map_replicate]; exact h
theorem and15 (a : Int) : ∃ k : Nat, k ≤ 15 ∧ bits BinOp.and IntKind.i64 a 15 = (k : Int) := by
  refine ⟨((BitVec.ofInt 64 a) &&& (BitVec.ofInt 64 15)).toNat, ?_, ?_⟩
  · rw [BitVec.toNat_and]; exact Nat.and_le_right
  · have h : ((BitVec.ofInt 64 a) &&& (BitVec.ofInt 64 15)).toNat ≤ 15 := by rw [BitVec.toNat_and]; exact Nat.and_le_right
    show IntKind.i64.wrap (((BitVec.ofInt 64 a) &&& (BitVec.ofInt 64 15)).toNat : Int) = _
    rw [IntKind.wrap_i64]; omega

end Go.Proofs.YtfapeemdlphjbaaDoor
