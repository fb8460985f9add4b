import Derived.Test.YtcdldjiogoapkaaSgAS
namespace Go.Proofs.Ytcdldjiogoapkaa
open Go.RowKit
attribute [local go_sem] World.cell?_alloc_some frozen_alloc_some field_na field_ac field_as

/-! The document's Put. -/
theorem putL_split {row : List (Nat × Int)} (hs : Srt row) (key : Nat) (v : Int) (k : Nat) {r2 : List (Nat × Int)} (e2 : r2 = row.filter (fun x => x.1 != key)) (hk : k ≤ r2.length) (h1 : ∀ i (hi : i < r2.length), i < k → r2[i].1 < key) (h2 : ∀ (h : k < r2.length), ¬ r2[k].1 < key) :
    (r2.take k ++ [(key, v)]) ++ r2.drop k = putL key v row := by
  have hs2 : Srt r2 := by rw [e2]; exact hs.filter _
  have ht : ∀ x ∈ r2.take k, x.1 < key := by
    intro x hx
    obtain ⟨i, hi, rfl⟩ := List.getElem_of_mem hx
    rw [List.getElem_take]
    exact h1 i (by simp at hi; omega) (by simp at hi; omega)
  have hd : ∀ x ∈ r2.drop k, key < x.1 := by
    intro x hx
    have hne : x.1 ≠ key := by
      have := List.mem_of_mem_drop hx
      rw [e2] at this
      simpa using (List.mem_filter.1 this).2
    obtain ⟨i, hi, rfl⟩ := List.getElem_of_mem hx
    rw [List.getElem_drop] at hne ⊢
    simp at hi
    have h0 := h2 (by omega)
    by_cases hi0 : i = 0
    · subst hi0; simp at hne ⊢; omega
    · have := List.pairwise_iff_getElem.1 hs2 k (k + i) (by omega) (by omega) (by omega)
      omega
  have f1 : row.filter (fun x => decide (x.1 < key)) = r2.filter (fun x => decide (x.1 < key)) := by
    rw [e2, List.filter_filter]; congr 1; funext x
    by_cases c : x.1 < key
    · have : x.1 ≠ key := by omega
      simp [c, this]
    · simp [c]
  have f2 : row.filter (fun x => decide (key < x.1)) = r2.filter (fun x => decide (key < x.1)) := by
    rw [e2, List.filter_filter]; congr 1; funext x
    by_cases c : key < x.1
    · have : x.1 ≠ key := by omega
      simp [c, this]
    · simp [c]
  have g1 : r2.filter (fun x => decide (x.1 < key)) = r2.take k := by
    conv => lhs; rw [← List.take_append_drop k r2]
    rw [List.filter_append, List.filter_eq_self.2 (fun x hx => by simpa using ht x hx), List.filter_eq_nil_iff.2 (fun x hx => by have := hd x hx; simp; omega), List.append_nil]
  have g2 : r2.filter (fun x => decide (key < x.1)) = r2.drop k := by
    conv => lhs; rw [← List.take_append_drop k r2]
    rw [List.filter_append, List.filter_eq_nil_iff.2 (fun x hx => by have := ht x hx; simp; omega), List.filter_eq_self.2 (fun x hx => by simpa using hd x hx), List.nil_append]
  unfold putL
  rw [f1, f2, g1, g2]
  simp

/-- Owned u32s, to be read. -/
theorem ucells_at (xs : List Nat) (i : Nat) (hi : i < xs.length) : ((xs.flatMap ucells).drop (i * 1)).take 1 = [.int .u32 (xs[i] : Nat)] := by
  induction xs generalizing i with
  | nil => simp at hi
  | cons x xs ih =>
    cases i with
    | zero => simp [ucells]
    | succ i =>
      rw [List.flatMap_cons, Nat.mul_one, show ucells x ++ xs.flatMap ucells = .int .u32 x :: xs.flatMap ucells from rfl]
      simp only [List.drop_succ_cons, List.getElem_cons_succ]
      have := ih i (by simpa using hi)
      rwa [Nat.mul_one] at this
theorem isU_owns {base : Nat} {χ : Col} {c : Nat} {w : World} {v : Value} {xs : List Nat} (h : w.ownsRow base 32 1 v xs.length (xs.flatMap ucells)) (hx : ∀ x ∈ xs, x < 4294967296) (hc : ∀ b, v.ownBlock = some b → χ b = c) : IsU c χ w v xs := by
  have hl : xs.length ≤ 9223372036854775807 := by
    obtain ⟨A, cap, rfl⟩ := owns_form h
    obtain ⟨_, (⟨_, hn⟩ | ⟨g, _, cur, e, hg, hh, hcap, hmax, hcs, htk⟩)⟩ := id h
    · omega
    · unfold maxLen at hmax; omega
  exact IsL.of_owns (by omega) h hl hc (fun i hi => ⟨ucells_at xs i hi, hx _ (List.getElem_mem _)⟩)
theorem isP_owns {base : Nat} {χ : Col} {c : Nat} {w : World} {v : Value} {xs : List (Nat × Int)} (h : w.ownsRow base 61 2 v xs.length (xs.flatMap pcells)) (hc : ∀ b, v.ownBlock = some b → χ b = c) : RdP c χ w v xs :=
  IsP.rd ⟨h.mono_base (Nat.zero_le _), hc⟩
theorem IsU.mem {c : Nat} {χ : Col} {w : World} {v : Value} {xs : List Nat} (h : IsU c χ w v xs) : ∀ x ∈ xs, x < 4294967296 := by
  obtain ⟨A, cap, rfl, -⟩ := id h
  intro k hk
  obtain ⟨i, hi, rfl⟩ := List.getElem_of_mem hk
  obtain ⟨_, _, _, _, h⟩ := h.getU i hi
  exact h

theorem grown_below {W w1 : World} {N : Nat} {r : Option Nat} (hg : W.grownBy w1 r) (hN : ∀ b, r = some b → N ≤ b) (hW : N ≤ W.heap.size) : Below N W w1 :=
  ⟨hg.os, hg.tape, hg.output, by have := hg.size; omega, fun b hb => hg.block b (by omega) (fun e => by have := hN b e.symm; omega)⟩

/-- Three cells of a block. -/
structure C3 (w : World) (b : Nat) (v0 v1 v2 : Value) : Prop where
  c0 : w.cell? ⟨b, 0, none⟩ = some v0
  c1 : w.cell? ⟨b, 1, none⟩ = some v1
  c2 : w.cell? ⟨b, 2, none⟩ = some v2
  f0 : w.frozen? ⟨b, 0, none⟩ = false
  f1 : w.frozen? ⟨b, 1, none⟩ = false
  f2 : w.frozen? ⟨b, 2, none⟩ = false
theorem C3.of {w : World} {b : Nat} {a0 a1 a2 : Value} {t : TypeId} (h : w.heap[b]? = some (.cells #[a0, a1, a2] t)) : C3 w b a0 a1 a2 := by
  obtain ⟨⟨x0, x1, x2⟩, y0, y1, y2⟩ := cells3 h
  exact ⟨x0, x1, x2, y0, y1, y2⟩
theorem C3.block {w w' : World} {b : Nat} {v0 v1 v2 : Value} (h : C3 w b v0 v1 v2) (hb : w'.heap[b]? = w.heap[b]?) : C3 w' b v0 v1 v2 :=
  ⟨(World.cell?_of_block hb).trans h.c0, (World.cell?_of_block hb).trans h.c1, (World.cell?_of_block hb).trans h.c2, (World.frozen?_of_block hb).trans h.f0, (World.frozen?_of_block hb).trans h.f1, (World.frozen?_of_block hb).trans h.f2⟩
theorem C3.set0 {w : World} {b : Nat} {v0 v1 v2 u : Value} (h : C3 w b v0 v1 v2) : C3 (w.setCell ⟨b, 0, none⟩ u) b u v1 v2 :=
  ⟨World.cell?_setCell_same _ _ _ h.c0, (World.cell?_setCell_other _ _ _ _ (by simp)).trans h.c1, (World.cell?_setCell_other _ _ _ _ (by simp)).trans h.c2, by rw [World.frozen?_setCell]; exact h.f0, by rw [World.frozen?_setCell]; exact h.f1, by rw [World.frozen?_setCell]; exact h.f2⟩
theorem C3.set1 {w : World} {b : Nat} {v0 v1 v2 u : Value} (h : C3 w b v0 v1 v2) : C3 (w.setCell ⟨b, 1, none⟩ u) b v0 u v2 :=
  ⟨(World.cell?_setCell_other _ _ _ _ (by simp)).trans h.c0, World.cell?_setCell_same _ _ _ h.c1, (World.cell?_setCell_other _ _ _ _ (by simp)).trans h.c2, by rw [World.frozen?_setCell]; exact h.f0, by rw [World.frozen?_setCell]; exact h.f1, by rw [World.frozen?_setCell]; exact h.f2⟩
theorem C3.set2 {w : World} {b : Nat} {v0 v1 v2 u : Value} (h : C3 w b v0 v1 v2) : C3 (w.setCell ⟨b, 2, none⟩ u) b v0 v1 u :=
  ⟨(World.cell?_setCell_other _ _ _ _ (by simp)).trans h.c0, (World.cell?_setCell_other _ _ _ _ (by simp)).trans h.c1, World.cell?_setCell_same _ _ _ h.c2, by rw [World.frozen?_setCell]; exact h.f0, by rw [World.frozen?_setCell]; exact h.f1, by rw [World.frozen?_setCell]; exact h.f2⟩
theorem C3.drew {w : World} {b d : Nat} {v0 v1 v2 : Value} (h : C3 w b v0 v1 v2) : C3 (w.drewN d) b v0 v1 v2 := h.block rfl

/-- What the document's Put returns. -/
def PutRes (w w' : World) (rv ev : Value) (lim : Int) (row : List (Nat × Int)) (ks : List Nat) (key : Nat) (val : Int) (e : Ending) : Prop :=
  (lim < (nodesI ks ks.length + lackL ks key : Nat) ∧ e = .returned (.tuple #[tv rv ev lim, .bool false])) ∨
  ((nodesI ks ks.length + lackL ks key : Nat) ≤ lim ∧ ∃ A n cap E en ecap, e = .returned (.tuple #[tv (.slice A n cap) (.slice E en ecap) lim, .bool true]) ∧
    w'.ownsRow w.heap.size 32 1 (.slice E en ecap) (ks ++ [key]).length ((ks ++ [key]).flatMap ucells) ∧
    w'.ownsRow w.heap.size 61 2 (.slice A n cap) (putL key val row).length ((putL key val row).flatMap pcells))

set_option maxRecDepth 100000 in
set_option maxHeartbeats 4000000 in
theorem refPut_calls (w : World) (rv ev : Value) (lim val : Int) (row : List (Nat × Int)) (ks : List Nat) (key : Nat) {c : Nat} {χ : Col} (hr : RdP c χ w rv row) (hu : IsU c χ w ev ks) (hs : Srt row) (hnr : row.length ≤ 1000) (hn : ks.length ≤ 100) (hkey : key < 4294967296) :
    Calls Try.prog 12 #[tv rv ev lim, .int .u32 key, .int .i64 val] w fun e w' => PutRes w w' rv ev lim row ks key val e ∧ Below w.heap.size w w' := by
  obtain ⟨Er, rcap, rfl, r1, r2, r3, -⟩ := id hr
  obtain ⟨E, ecap, rfl, e1, e2, e3, -⟩ := id hu
  unfold maxLen at e2 r2
  obtain ⟨iu, hiu, hu0, hu1, hu2⟩ := info_parts infoU32
  have b1 : Below w.heap.size w ((w.alloc (BoxT (.slice Er row.length rcap) (.slice E ks.length ecap) lim)).alloc (BoxT (.slice none 0 0) (.slice none 0 0) 0)) := ((Below.refl _ w).alloc (Nat.le_refl _) _).alloc (by simp) _
  have o2 := World.ownsRow_made (base := w.heap.size + 2) (e := 32) (size := 1) ((w.alloc (BoxT (.slice Er row.length rcap) (.slice E ks.length ecap) lim)).alloc (BoxT (.slice none 0 0) (.slice none 0 0) 0)) #[] 0 (by simp) (Nat.zero_le _) rfl
  have h0 : ((w.alloc (BoxT (.slice Er row.length rcap) (.slice E ks.length ecap) lim)).alloc (BoxT (.slice none 0 0) (.slice none 0 0) 0)).heap[w.heap.size]? = some (BoxT (.slice Er row.length rcap) (.slice E ks.length ecap) lim) :=
    kept_at ((Below.refl _ _).alloc (Nat.le_refl _) _) (heap_alloc_at w _)
  have h1 : ((w.alloc (BoxT (.slice Er row.length rcap) (.slice E ks.length ecap) lim)).alloc (BoxT (.slice none 0 0) (.slice none 0 0) 0)).heap[w.heap.size + 1]? = some (BoxT (.slice none 0 0) (.slice none 0 0) 0) := by
    have := heap_alloc_at (w.alloc (BoxT (.slice Er row.length rcap) (.slice E ks.length ecap) lim)) (BoxT (.slice none 0 0) (.slice none 0 0) 0); simpa using this
  simp only [World.size_alloc] at o2
  have U2 := hu.keep (Same.below' (b1.alloc (by simp; omega) (.cells #[] 32)))
  have R2 := hr.keep (Same.below' b1)
  have hmem := hu.mem
  have HU := Lib.hid hu
  have HR := Lib.hid hr
  clear hu hr
  go_enter Try.func12, Try.ntmps12
  go_wp2_with (at_builtin; first
    | (have hS := hown; go_loud (refine wpList_append_own_at _ rfl _ _ 29 rfl (w.heap.size + 2) 32 iu _ 1 4 Try.underlying29 hiu hu0 hu1 hu2 rfl (by decide) _ _ _ rfl (hown.alloc _) ⟨w3.heap.size, 0, none⟩ 1 1 [.int .u32 key] rfl rfl (World.news_of_block (heap_alloc_new w3 _)) (by simp [Value.oneCell']) (by unfold maxLen; omega) (by omega) (by have := hgrow.size; simp at this ⊢; omega) ?_); intro v2 w4 hown2 hgrow2 _ hat2)
    | (go_loud (refine wpList_append_L (R := rU) 29 32 iu _ Try.underlying29 hiu hu0 hu1 hu2 rfl (by decide) (by decide) ucells (fun _ _ _ _ h => h.1) rU_one rfl _ _ rfl (w.heap.size + 2) _ 0 [] rfl o2 _ ks rfl U2 (by omega) (by simp) ?_); intro v' w3 hown hgrow hat))
  have hb3 : Below (w.heap.size + 2) ((w.alloc (BoxT (.slice Er row.length rcap) (.slice E ks.length ecap) lim)).alloc (BoxT (.slice none 0 0) (.slice none 0 0) 0)) w3 :=
    ((Below.refl _ _).alloc (by simp) _).trans (grown_below hgrow (fun b e => by have e' : some (w.heap.size + 1 + 1) = some b := e; cases e'; omega) (by simp))
  have hb4 := hb3.trans (push_base hown hgrow2 (Nat.le_refl _) (by have := hb3.size; simp at this; omega))
  have q0 := (hb4.block _ (by omega)).trans h0
  have q1 := (hb4.block _ (by omega)).trans h1
  have s4 : w.heap.size + 2 ≤ w4.heap.size := by have := hb4.size; simp at this; omega
  have b4 := b1.trans (hb4.mono (by omega))
  have R4 := HR.out.keep (Same.below' b4)
  have U4 : w4.ownsRow (w.heap.size + 2) 32 1 v2 (ks ++ [key]).length ((ks ++ [key]).flatMap ucells) := by
    have e1 : (ks ++ [key]).length = 0 + ks.length + 1 := by simp
    have e2 : (ks ++ [key]).flatMap ucells = ([] ++ ks.flatMap ucells) ++ [.int .u32 key] := by simp [ucells]
    rw [e1, e2]; exact hown2
  have hm2 : ∀ x ∈ ks ++ [key], x < 4294967296 := by
    intro x hx
    rcases List.mem_append.1 hx with h | h
    · exact hmem x h
    · simp at h; omega
  have N4 := isU_owns (c := 0) (χ := fun _ => 0) U4 hm2 (fun _ _ => rfl)
  have hkk : nodesI (ks ++ [key]) (ks ++ [key]).length ≤ 33 * 101 := by
    have := nodesI_le (ks ++ [key]) (ks ++ [key]).length
    rw [List.length_append, List.length_singleton] at this ⊢
    omega
  have hlen5 : (ks ++ [key]).length ≤ 1000 := by simp; omega
  have hsn := nodesI_snoc ks key
  have hc := Lib.hid (fun W (h : IsU 0 (fun _ => 0) W v2 (ks ++ [key])) => refNodes_calls W v2 (ks ++ [key]) h hlen5)
  obtain ⟨K, hK⟩ : ∃ K, K = nodesI (ks ++ [key]) (ks ++ [key]).length := ⟨_, rfl⟩
  rw [← hK] at hsn hkk hc
  obtain ⟨ks', hks'⟩ : ∃ ks', ks' = ks ++ [key] := ⟨_, rfl⟩
  rw [← hks'] at N4 U4 hc
  have HSN := Lib.hid hsn
  have HKS := Lib.hid hks'
  have HK := Lib.hid hK
  have HM := Lib.hid hmem
  have HQ0 := Lib.hid q0
  have HQ1 := Lib.hid q1
  obtain ⟨⟨x0, x1, x2⟩, y0, y1, y2⟩ := cells3 q0
  obtain ⟨⟨z0, z1, z2⟩, f0, f1, f2⟩ := cells3 q1
  obtain ⟨m, hmm⟩ : ∃ m, m = ks'.length := ⟨_, rfl⟩
  rw [← hmm] at U4
  obtain ⟨A5, cap5, rfl⟩ := owns_form U4
  have HMM := Lib.hid hmm
  clear hK hks' hsn hmem hm2 hmm q0 q1 hb4 hb3 hown hown2 hgrow hgrow2 hat hat2 o2 U2 R2 h0 h1 b1
  by_cases hfull : lim < (K : Int)
  · have d1 : decide ((K : Int) > lim) = true := by simp; omega
    go_wp2
    go_quiet ((go_at_call 21; exact Calls.quiet_of (hc.out _ N4)))
    go_wp2
    refine bodyPost_ret (v := .tuple #[tv (.slice Er row.length rcap) (.slice E ks.length ecap) lim, .bool false]) (by simp [results, Try.results12, go_sem, *]) rfl ⟨.inl ⟨by rw [← HSN.out]; exact hfull, rfl⟩, ?_⟩
    have b5 : Below w.heap.size w (w4.drewN nq) := b4.trans (below_drewN _ _ _)
    exact ((b5.setCell (by simp) _).setCell (by simp) _).setCell (by simp) _
  · have d1 : decide ((K : Int) > lim) = false := by simp; omega
    go_wp2
    go_quiet ((go_at_call 21; exact Calls.quiet_of (hc.out _ N4)))
    go_wp2_with fail
    obtain ⟨w5, hw5⟩ : ∃ w5, w5 = (w4.drewN nq).setCell ⟨w.heap.size, 1, none⟩ (.slice A5 m cap5) := ⟨_, rfl⟩
    have b5 : Below w.heap.size w w5 := by rw [hw5]; exact (b4.trans (below_drewN _ _ _)).setCell (by simp) _
    have c5 : C3 w5 w.heap.size (.slice Er row.length rcap) (.slice A5 m cap5) (.int .i64 lim) := by rw [hw5]; exact (C3.of HQ0.out).drew.set1
    have k5 : ∀ {b : Nat}, w.heap.size + 1 ≤ b → w5.heap[b]? = w4.heap[b]? := fun {b} hb => by
      rw [hw5]; exact Below.heap_setCell _ _ _ _ (by show b ≠ w.heap.size; omega)
    have s5 : w5.heap.size = w4.heap.size := by rw [hw5]; simp
    have r5 : C3 w5 (w.heap.size + 1) (.slice none 0 0) (.slice none 0 0) (.int .i64 0) := (C3.of HQ1.out).block (k5 (Nat.le_refl _))
    have U5 := owns_same U4 (w' := w5) (fun b e => k5 (by have := (U4.lt b e).1; omega))
    rw [← hw5]
    refine (refDrop_calls w5 _ A5 m cap5 lim row key (HR.out.keep (Same.below' b5)) (by omega)).mono ?_
    rintro e w6 ⟨A6, cap6, rfl, hA6, V6, b6⟩
    have HA6 := Lib.hid hA6
    clear hA6
    obtain ⟨r2, hr2⟩ : ∃ r2, r2 = row.filter (fun x => x.1 != key) := ⟨_, rfl⟩
    rw [← hr2] at V6 ⊢
    have hr2l : r2.length ≤ 1000 := by rw [hr2]; exact Nat.le_trans (List.length_filter_le _ _) hnr
    have HR2 := Lib.hid hr2
    have k6 : ∀ {b : Nat}, b < w.heap.size + 2 → w6.heap[b]? = w5.heap[b]? := fun {b} hb => b6.block _ (by omega)
    have c6 := c5.block (k6 (by omega))
    have q6 := r5.block (k6 (by omega))
    have U6 := owns_same U5 (w' := w6) (fun b e => b6.block _ (U5.lt b e).2)
    have V7 := V6.mono_base (base' := w.heap.size + 2) (by omega)
    have b06 := b5.trans (b6.mono b5.size)
    have s6 : w.heap.size + 2 ≤ w6.heap.size := by have := b6.size; omega
    obtain ⟨w7, hw7⟩ : ∃ w7, w7 = ((w6.setCell ⟨w.heap.size, 0, none⟩ (.slice A6 r2.length cap6)).setCell ⟨w.heap.size, 1, none⟩ (.slice A5 m cap5)).setCell ⟨w.heap.size, 2, none⟩ (.int .i64 lim) := ⟨_, rfl⟩
    have k7 : ∀ {b : Nat}, w.heap.size + 1 ≤ b → w7.heap[b]? = w6.heap[b]? := fun {b} hb => by
      rw [hw7]
      exact (Below.heap_setCell _ _ _ _ (by show b ≠ w.heap.size; omega)).trans ((Below.heap_setCell _ _ _ _ (by show b ≠ w.heap.size; omega)).trans (Below.heap_setCell _ _ _ _ (by show b ≠ w.heap.size; omega)))
    have c7 : C3 w7 w.heap.size (.slice A6 r2.length cap6) (.slice A5 m cap5) (.int .i64 lim) := by rw [hw7]; exact c6.set0.set1.set2
    have q7 := q6.block (k7 (Nat.le_refl _))
    have U7 := owns_same U6 (w' := w7) (fun b e => k7 (by have := (U6.lt b e).1; omega))
    have V8 := owns_same V7 (w' := w7) (fun b e => k7 (by have := (V7.lt b e).1; omega))
    have b7 : Below w.heap.size w w7 := by rw [hw7]; exact ((b06.setCell (by simp) _).setCell (by simp) _).setCell (by simp) _
    have s7 : w.heap.size + 2 ≤ w7.heap.size := by rw [hw7]; simpa using s6
    clear hr2 k6 k5 k7 c5 r5 U5 U4 b5 b6 V6 V7 U6 b06 x0 x1 x2 y0 y1 y2 z0 z1 z2 f0 f1 f2 N4 b4 R4 hw5 s5 s4
    obtain ⟨j0, j1, j2, j3, j4, j5⟩ := c6
    go_wp2
    go_loopw [9] (fun i wr => ∃ k : Nat, k ≤ r2.length ∧ i = .int .i64 k ∧ (∀ i (hi : i < r2.length), i < k → r2[i].1 < key) ∧ C3 wr w.heap.size (.slice A6 r2.length cap6) (.slice A5 m cap5) (.int .i64 lim) ∧ C3 wr (w.heap.size + 1) (.slice none 0 0) (.slice none 0 0) (.int .i64 0) ∧ w.heap.size + 2 ≤ wr.heap.size ∧
      wr.ownsRow (w.heap.size + 2) 32 1 (.slice A5 m cap5) m (ks'.flatMap ucells) ∧ wr.ownsRow (w.heap.size + 2) 61 2 (.slice A6 r2.length cap6) r2.length (r2.flatMap pcells) ∧ Below w.heap.size w wr) (fun i _ => r2.length - (intOf i).toNat)
    case atStart =>
      rw [← hw7]
      exact ⟨0, by omega, rfl, fun i hi h => by omega, c7, q7, s7, U7, V8, b7⟩
    case round =>
      clear c7 q7 s7 U7 V8 b7 hw7
      obtain ⟨k, hk, rfl, hlow, c8, q8, s8, U8, V8, b8⟩ := hrel
      have P8 := isP_owns (c := 0) (χ := fun _ => 0) V8 (fun _ _ => rfl)
      by_cases hgo : ∃ h : k < r2.length, r2[k].1 < key
      · obtain ⟨hlt, hkl⟩ := hgo
        obtain ⟨gb, go, rfl, p0, p1⟩ := P8.getP k hlt
        have C8 := c8
        obtain ⟨j0, j1, j2, j3, j4, j5⟩ := c8
        have hll : (r2[k].1 : Int) < (key : Int) := by omega
        have HLOW := Lib.hid hlow
        have HKL := Lib.hid hkl
        clear hlow hkl
        go_wp2
        refine ⟨⟨k + 1, hlt, by go_num, fun i hi h => ?_, C8, q8, s8, U8, V8, b8⟩, by simp [intOf]; omega⟩
        by_cases e : i = k
        · subst e; exact HKL.out
        · exact HLOW.out i hi (by omega)
      · have hstop : ∀ h : k < r2.length, ¬ r2[k].1 < key := fun h g => hgo ⟨h, g⟩
        have HST := Lib.hid hstop
        have HLOW := Lib.hid hlow
        clear hgo hlow
        have HV8 := Lib.hid V8
        have HU8 := Lib.hid U8
        have o9 := World.ownsRow_made (base := wr.heap.size) (e := 61) (size := 2) wr #[] 0 (Nat.le_refl _) (Nat.zero_le _) rfl
        have X9 := (P8.keep (Same.below' ((Below.refl _ wr).alloc (Nat.le_refl _) (.cells #[] 61)))).takeL k hk
        have hl9 : (r2.take k).length = k := by simp; omega
        have C8 := c8
        obtain ⟨j0, j1, j2, j3, j4, j5⟩ := c8
        obtain ⟨ip, hip, hp0, hp1, hp2⟩ := info_parts infoPair
        clear V8 U8
        have hcap6 : r2.length ≤ cap6 ∧ cap6 ≤ 2 ^ 63 - 1 := by obtain ⟨_, _, e, g1, g2, _⟩ := id P8; cases e; unfold maxLen at g2; exact ⟨g1, g2⟩
        have hcases : (∃ gb go, A6 = some ⟨gb, go, none⟩ ∧ ∃ hlt : k < r2.length, wr.cell? ⟨gb, go + k * 2, none⟩ = some (.int .u32 (r2[k].1 : Nat)) ∧ ¬ (r2[k].1 : Int) < (key : Int)) ∨ (∃ gb go, A6 = some ⟨gb, go, none⟩ ∧ ¬ (k : Int) < (r2.length : Int)) ∨ (A6 = none ∧ ¬ (k : Int) < (r2.length : Int) ∧ cap6 = 0) := by
          by_cases hlt : k < r2.length
          · obtain ⟨gb, go, e, p0, p1⟩ := P8.getP k hlt
            exact .inl ⟨gb, go, e, hlt, p0, by have := hstop hlt; omega⟩
          · rcases owns_cases HV8.out with e | ⟨g, e⟩
            · subst e; exact .inr (.inr ⟨rfl, by omega, by obtain ⟨_, _, e, _, _, g3, _⟩ := id P8; cases e; exact g3.2 rfl⟩)
            · subst e; exact .inr (.inl ⟨g, 0, rfl, by omega⟩)
        rcases hcases with ⟨gb, go, rfl, hlt, p0, hll⟩ | ⟨gb, go, rfl, hlt⟩ | ⟨rfl, hlt, rfl⟩
        · have HP8 := Lib.hid P8
          have hX11 : Hid (∀ W, Below wr.heap.size wr W → ∀ A, (cap6 = k ∧ A = some ⟨gb, go, none⟩ ∨ ¬ cap6 = k ∧ A = some ⟨gb, go + k * 2, none⟩) → RdP 0 (fun _ => 0) W (.slice A (r2.length - k) (cap6 - k)) (r2.drop k)) := by
            intro W h A hA
            have := (P8.keep (Same.below' h)).dropL k hk
            rcases hA with ⟨e, rfl⟩ | ⟨e, rfl⟩
            · rwa [if_pos e] at this
            · rwa [if_neg e] at this
          have HO9 := Lib.hid o9
          clear hstop P8
          go_wp2_with (at_builtin; first
            | (have hS := hown10; go_loud (refine wpList_append_L (R := rPair) 28 61 ip _ Try.underlying28 hip hp0 hp1 hp2 rfl (by decide) (by decide) pcells (fun _ _ _ _ h => h) rPair_one rfl _ _ rfl wr.heap.size _ _ _ rfl hown10 _ (r2.drop k) rfl (hX11.out w10 b10 _ (by first | exact .inl ⟨by omega, rfl⟩ | exact .inr ⟨by omega, rfl⟩)) (by simp; omega) b10.size ?_)
               intro v11 w11 hown11 hgrow11 _
               have b11 : Below wr.heap.size wr w11 := b10.trans (grown_below hgrow11 (fun b e => (hown10.lt b e).1) b10.size)
               have c11 := C8.block (b11.block _ (by omega))
               have q11 := q8.block (b11.block _ (by omega))
               clear j0 j1 j2 j3 j4 j5 hgrow9 hgrow10 X9 HO9 hX11 hgrow11
               obtain ⟨n11, hn11⟩ : ∃ n11, n11 = (0 + (r2.take k).length + 1) + (r2.drop k).length := ⟨_, rfl⟩
               rw [← hn11] at hown11
               obtain ⟨A11, cap11, rfl⟩ := owns_form hown11
               have HN11 := Lib.hid hn11
               clear hn11
               obtain ⟨j0, j1, j2, j3, j4, j5⟩ := c11
               obtain ⟨l0, l1, l2, l3, l4, l5⟩ := q11)
            | (have hS := hown9; go_loud (refine wpList_append_own_at _ rfl _ _ 28 rfl wr.heap.size 61 ip _ 2 16 Try.underlying28 hip hp0 hp1 hp2 rfl (by decide) _ _ _ rfl (hown9.alloc _) ⟨w9.heap.size, 0, none⟩ 1 1 [.int .u32 key, .int .i64 val] rfl rfl (World.news_of_block (heap_alloc_new w9 _)) (by simp [Value.oneCell']) (by unfold maxLen; omega) (by omega) (by have := hgrow9.size; simp at this ⊢; omega) ?_)
               intro v10 w10 hown10 hgrow10 _ _
               have b9 : Below wr.heap.size wr w9 := ((Below.refl _ _).alloc (Nat.le_refl _) _).trans (grown_below hgrow9 (fun b e => (HO9.out.lt b e).1) (by simp))
               have b10 := b9.trans (push_base hown9 hgrow10 (Nat.le_refl _) b9.size)
               have c10 := C8.block (b10.block _ (by omega))
               clear j0 j1 j2 j3 j4 j5
               obtain ⟨j0, j1, j2, j3, j4, j5⟩ := c10)
            | (go_loud (refine wpList_append_L (R := rPair) 28 61 ip _ Try.underlying28 hip hp0 hp1 hp2 rfl (by decide) (by decide) pcells (fun _ _ _ _ h => h) rPair_one rfl _ _ rfl wr.heap.size _ 0 [] rfl o9 _ (r2.take k) rfl X9 (by omega) (by simp) ?_)
               intro v9 w9 hown9 hgrow9 _))
          have hsp := putL_split hs key val k HR2.out hk HLOW.out HST.out
          have en : ((r2.take k ++ [(key, val)]) ++ r2.drop k).length = n11 := by rw [HN11.out]; simp; omega
          have ec : ((r2.take k ++ [(key, val)]) ++ r2.drop k).flatMap pcells = [] ++ (r2.take k).flatMap pcells ++ [.int .u32 key, .int .i64 val] ++ (r2.drop k).flatMap pcells := by simp [pcells]
          refine bodyPost_ret (v := .tuple #[tv (.slice A11 n11 cap11) (.slice A5 m cap5) lim, .bool true]) (by simp [results, Try.results12, go_sem, *]) rfl ⟨.inr ⟨by rw [← HSN.out]; omega, A11, n11, cap11, A5, m, cap5, rfl, ?_, ?_⟩, ?_⟩
          · rw [← HKS.out, ← HMM.out]
            refine owns_same (HU8.out.mono_base (by omega)) fun b e => ?_
            have hbb := HU8.out.lt b e
            exact (Below.heap_setCell _ _ _ _ (by show b ≠ w.heap.size + 1; omega)).trans ((Below.heap_setCell _ _ _ _ (by show b ≠ w.heap.size + 1; omega)).trans ((Below.heap_setCell _ _ _ _ (by show b ≠ w.heap.size + 1; omega)).trans ((Below.heap_setCell _ _ _ _ (by show b ≠ w.heap.size; omega)).trans (b11.block _ hbb.2))))
          · rw [← hsp, en, ec]
            refine owns_same (hown11.mono_base (by omega)) fun b e => ?_
            have hbb := hown11.lt b e
            exact (Below.heap_setCell _ _ _ _ (by show b ≠ w.heap.size + 1; omega)).trans ((Below.heap_setCell _ _ _ _ (by show b ≠ w.heap.size + 1; omega)).trans ((Below.heap_setCell _ _ _ _ (by show b ≠ w.heap.size + 1; omega)).trans (Below.heap_setCell _ _ _ _ (by show b ≠ w.heap.size; omega))))
          · exact ((((b8.trans (b11.mono b8.size)).setCell (by simp) _).setCell (by simp) _).setCell (by simp) _).setCell (by simp) _
        · by_cases hck : cap6 = k
          · obtain rfl : k = cap6 := hck.symm
            have HP8 := Lib.hid P8
            have hX11 : Hid (∀ W, Below wr.heap.size wr W → RdP 0 (fun _ => 0) W (.slice (some ⟨gb, go, none⟩) 0 0) (r2.drop k)) := by
              intro W h
              have := (P8.keep (Same.below' h)).dropL k hk
              rwa [if_pos rfl, Nat.sub_self, show r2.length - k = 0 by omega] at this
            have HO9 := Lib.hid o9
            clear hstop P8
            go_wp2_with (at_builtin; first
              | (have hS := hown10; go_loud (refine wpList_append_L (R := rPair) 28 61 ip _ Try.underlying28 hip hp0 hp1 hp2 rfl (by decide) (by decide) pcells (fun _ _ _ _ h => h) rPair_one rfl _ _ rfl wr.heap.size _ _ _ rfl hown10 _ (r2.drop k) rfl (hX11.out w10 b10) (by simp; omega) b10.size ?_)
                 intro v11 w11 hown11 hgrow11 _
                 have b11 : Below wr.heap.size wr w11 := b10.trans (grown_below hgrow11 (fun b e => (hown10.lt b e).1) b10.size)
                 have c11 := C8.block (b11.block _ (by omega))
                 have q11 := q8.block (b11.block _ (by omega))
                 clear j0 j1 j2 j3 j4 j5 hgrow9 hgrow10 X9 HO9 hX11 hgrow11
                 obtain ⟨n11, hn11⟩ : ∃ n11, n11 = (0 + (r2.take k).length + 1) + (r2.drop k).length := ⟨_, rfl⟩
                 rw [← hn11] at hown11
                 obtain ⟨A11, cap11, rfl⟩ := owns_form hown11
                 have HN11 := Lib.hid hn11
                 clear hn11
                 obtain ⟨j0, j1, j2, j3, j4, j5⟩ := c11
                 obtain ⟨l0, l1, l2, l3, l4, l5⟩ := q11)
              | (have hS := hown9; go_loud (refine wpList_append_own_at _ rfl _ _ 28 rfl wr.heap.size 61 ip _ 2 16 Try.underlying28 hip hp0 hp1 hp2 rfl (by decide) _ _ _ rfl (hown9.alloc _) ⟨w9.heap.size, 0, none⟩ 1 1 [.int .u32 key, .int .i64 val] rfl rfl (World.news_of_block (heap_alloc_new w9 _)) (by simp [Value.oneCell']) (by unfold maxLen; omega) (by omega) (by have := hgrow9.size; simp at this ⊢; omega) ?_)
                 intro v10 w10 hown10 hgrow10 _ _
                 have b9 : Below wr.heap.size wr w9 := ((Below.refl _ _).alloc (Nat.le_refl _) _).trans (grown_below hgrow9 (fun b e => (HO9.out.lt b e).1) (by simp))
                 have b10 := b9.trans (push_base hown9 hgrow10 (Nat.le_refl _) b9.size)
                 have c10 := C8.block (b10.block _ (by omega))
                 clear j0 j1 j2 j3 j4 j5
                 obtain ⟨j0, j1, j2, j3, j4, j5⟩ := c10)
              | (go_loud (refine wpList_append_L (R := rPair) 28 61 ip _ Try.underlying28 hip hp0 hp1 hp2 rfl (by decide) (by decide) pcells (fun _ _ _ _ h => h) rPair_one rfl _ _ rfl wr.heap.size _ 0 [] rfl o9 _ (r2.take k) rfl X9 (by omega) (by simp) ?_)
                 intro v9 w9 hown9 hgrow9 _))
            have hsp := putL_split hs key val k HR2.out hk HLOW.out HST.out
            have en : ((r2.take k ++ [(key, val)]) ++ r2.drop k).length = n11 := by rw [HN11.out]; simp; omega
            have ec : ((r2.take k ++ [(key, val)]) ++ r2.drop k).flatMap pcells = [] ++ (r2.take k).flatMap pcells ++ [.int .u32 key, .int .i64 val] ++ (r2.drop k).flatMap pcells := by simp [pcells]
            refine bodyPost_ret (v := .tuple #[tv (.slice A11 n11 cap11) (.slice A5 m cap5) lim, .bool true]) (by simp [results, Try.results12, go_sem, *]) rfl ⟨.inr ⟨by rw [← HSN.out]; omega, A11, n11, cap11, A5, m, cap5, rfl, ?_, ?_⟩, ?_⟩
            · rw [← HKS.out, ← HMM.out]
              refine owns_same (HU8.out.mono_base (by omega)) fun b e => ?_
              have hbb := HU8.out.lt b e
              exact (Below.heap_setCell _ _ _ _ (by show b ≠ w.heap.size + 1; omega)).trans ((Below.heap_setCell _ _ _ _ (by show b ≠ w.heap.size + 1; omega)).trans ((Below.heap_setCell _ _ _ _ (by show b ≠ w.heap.size + 1; omega)).trans ((Below.heap_setCell _ _ _ _ (by show b ≠ w.heap.size; omega)).trans (b11.block _ hbb.2))))
            · rw [← hsp, en, ec]
              refine owns_same (hown11.mono_base (by omega)) fun b e => ?_
              have hbb := hown11.lt b e
              exact (Below.heap_setCell _ _ _ _ (by show b ≠ w.heap.size + 1; omega)).trans ((Below.heap_setCell _ _ _ _ (by show b ≠ w.heap.size + 1; omega)).trans ((Below.heap_setCell _ _ _ _ (by show b ≠ w.heap.size + 1; omega)).trans (Below.heap_setCell _ _ _ _ (by show b ≠ w.heap.size; omega))))
            · exact ((((b8.trans (b11.mono b8.size)).setCell (by simp) _).setCell (by simp) _).setCell (by simp) _).setCell (by simp) _
          · skip
            have HP8 := Lib.hid P8
            have hX11 : Hid (∀ W, Below wr.heap.size wr W → ∀ A, (cap6 = k ∧ A = some ⟨gb, go, none⟩ ∨ ¬ cap6 = k ∧ A = some ⟨gb, go + k * 2, none⟩) → RdP 0 (fun _ => 0) W (.slice A (r2.length - k) (cap6 - k)) (r2.drop k)) := by
              intro W h A hA
              have := (P8.keep (Same.below' h)).dropL k hk
              rcases hA with ⟨e, rfl⟩ | ⟨e, rfl⟩
              · rwa [if_pos e] at this
              · rwa [if_neg e] at this
            have HO9 := Lib.hid o9
            clear hstop P8
            go_wp2_with (at_builtin; first
              | (have hS := hown10; go_loud (refine wpList_append_L (R := rPair) 28 61 ip _ Try.underlying28 hip hp0 hp1 hp2 rfl (by decide) (by decide) pcells (fun _ _ _ _ h => h) rPair_one rfl _ _ rfl wr.heap.size _ _ _ rfl hown10 _ (r2.drop k) rfl (hX11.out w10 b10 _ (by first | exact .inl ⟨by omega, rfl⟩ | exact .inr ⟨by omega, rfl⟩)) (by simp; omega) b10.size ?_)
                 intro v11 w11 hown11 hgrow11 _
                 have b11 : Below wr.heap.size wr w11 := b10.trans (grown_below hgrow11 (fun b e => (hown10.lt b e).1) b10.size)
                 have c11 := C8.block (b11.block _ (by omega))
                 have q11 := q8.block (b11.block _ (by omega))
                 clear j0 j1 j2 j3 j4 j5 hgrow9 hgrow10 X9 HO9 hX11 hgrow11
                 obtain ⟨n11, hn11⟩ : ∃ n11, n11 = (0 + (r2.take k).length + 1) + (r2.drop k).length := ⟨_, rfl⟩
                 rw [← hn11] at hown11
                 obtain ⟨A11, cap11, rfl⟩ := owns_form hown11
                 have HN11 := Lib.hid hn11
                 clear hn11
                 obtain ⟨j0, j1, j2, j3, j4, j5⟩ := c11
                 obtain ⟨l0, l1, l2, l3, l4, l5⟩ := q11)
              | (have hS := hown9; go_loud (refine wpList_append_own_at _ rfl _ _ 28 rfl wr.heap.size 61 ip _ 2 16 Try.underlying28 hip hp0 hp1 hp2 rfl (by decide) _ _ _ rfl (hown9.alloc _) ⟨w9.heap.size, 0, none⟩ 1 1 [.int .u32 key, .int .i64 val] rfl rfl (World.news_of_block (heap_alloc_new w9 _)) (by simp [Value.oneCell']) (by unfold maxLen; omega) (by omega) (by have := hgrow9.size; simp at this ⊢; omega) ?_)
                 intro v10 w10 hown10 hgrow10 _ _
                 have b9 : Below wr.heap.size wr w9 := ((Below.refl _ _).alloc (Nat.le_refl _) _).trans (grown_below hgrow9 (fun b e => (HO9.out.lt b e).1) (by simp))
                 have b10 := b9.trans (push_base hown9 hgrow10 (Nat.le_refl _) b9.size)
                 have c10 := C8.block (b10.block _ (by omega))
                 clear j0 j1 j2 j3 j4 j5
                 obtain ⟨j0, j1, j2, j3, j4, j5⟩ := c10)
              | (go_loud (refine wpList_append_L (R := rPair) 28 61 ip _ Try.underlying28 hip hp0 hp1 hp2 rfl (by decide) (by decide) pcells (fun _ _ _ _ h => h) rPair_one rfl _ _ rfl wr.heap.size _ 0 [] rfl o9 _ (r2.take k) rfl X9 (by omega) (by simp) ?_)
                 intro v9 w9 hown9 hgrow9 _))
            have hsp := putL_split hs key val k HR2.out hk HLOW.out HST.out
            have en : ((r2.take k ++ [(key, val)]) ++ r2.drop k).length = n11 := by rw [HN11.out]; simp; omega
            have ec : ((r2.take k ++ [(key, val)]) ++ r2.drop k).flatMap pcells = [] ++ (r2.take k).flatMap pcells ++ [.int .u32 key, .int .i64 val] ++ (r2.drop k).flatMap pcells := by simp [pcells]
            refine bodyPost_ret (v := .tuple #[tv (.slice A11 n11 cap11) (.slice A5 m cap5) lim, .bool true]) (by simp [results, Try.results12, go_sem, *]) rfl ⟨.inr ⟨by rw [← HSN.out]; omega, A11, n11, cap11, A5, m, cap5, rfl, ?_, ?_⟩, ?_⟩
            · rw [← HKS.out, ← HMM.out]
              refine owns_same (HU8.out.mono_base (by omega)) fun b e => ?_
              have hbb := HU8.out.lt b e
              exact (Below.heap_setCell _ _ _ _ (by show b ≠ w.heap.size + 1; omega)).trans ((Below.heap_setCell _ _ _ _ (by show b ≠ w.heap.size + 1; omega)).trans ((Below.heap_setCell _ _ _ _ (by show b ≠ w.heap.size + 1; omega)).trans ((Below.heap_setCell _ _ _ _ (by show b ≠ w.heap.size; omega)).trans (b11.block _ hbb.2))))
            · rw [← hsp, en, ec]
              refine owns_same (hown11.mono_base (by omega)) fun b e => ?_
              have hbb := hown11.lt b e
              exact (Below.heap_setCell _ _ _ _ (by show b ≠ w.heap.size + 1; omega)).trans ((Below.heap_setCell _ _ _ _ (by show b ≠ w.heap.size + 1; omega)).trans ((Below.heap_setCell _ _ _ _ (by show b ≠ w.heap.size + 1; omega)).trans (Below.heap_setCell _ _ _ _ (by show b ≠ w.heap.size; omega))))
            · exact ((((b8.trans (b11.mono b8.size)).setCell (by simp) _).setCell (by simp) _).setCell (by simp) _).setCell (by simp) _
        · exact absurd rfl HA6.out
end Go.Proofs.Ytcdldjiogoapkaa
