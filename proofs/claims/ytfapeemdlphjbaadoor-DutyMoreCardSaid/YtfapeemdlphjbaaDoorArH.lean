import Derived.Test.YtfapeemdlphjbaaDoorArG
import Derived.Stop.RegionWithIn
namespace Go.Proofs.YtfapeemdlphjbaaDoor
open Go.RowKit
attribute [local go_sem] World.cell?_alloc_some frozen_alloc_some Oper.semAt_some

theorem ownsRow_set1 {w : World} {base e g N cap n : Nat} {vs : List Value} (h : w.ownsRow base e 1 (.slice (some ⟨g, 0, none⟩) N cap) n vs) (i : Nat) (u : Value) :
    (w.setCell ⟨g, i, none⟩ u).ownsRow base e 1 (.slice (some ⟨g, 0, none⟩) N cap) n (vs.set i u) := by
  have hf := owns_form h
  obtain ⟨A, c, hAc⟩ := hf
  cases hAc
  exact owns_setCell (o := i) (v := u) h
theorem own_cell1 {w : World} {base e g N cap n : Nat} {vs : List Value} (h : w.ownsRow base e 1 (.slice (some ⟨g, 0, none⟩) N cap) n vs) (i : Nat) (hi : i < vs.length) :
    w.cell? ⟨g, i, none⟩ = some vs[i] ∧ w.frozen? ⟨g, i, none⟩ = false := by
  have e1 : ∀ j, (⟨g, 0, none⟩ : Addr).add j = ⟨g, j, none⟩ := fun j => by simp only [Addr.add]; split <;> simp_all
  have c0 := h.cells (g := g) rfl i vs[i] (List.getElem?_eq_getElem hi)
  rw [e1] at c0
  refine ⟨c0, ?_⟩
  obtain ⟨h1, (⟨e, -⟩ | ⟨g', cap', cur, e, hg, hh, -⟩)⟩ := h
  · cases e
  · cases e
    simp [World.frozen?, hh]
theorem OwnA.set {base g N cap i : Nat} {χ : Col} {w : World} {a : Ar} {l : List Sp} {u : Value} (h : OwnA base χ w (.slice (some ⟨g, 0, none⟩) N cap) a) (hu : IsL 2 rSpan 2 χ w u l) :
    OwnA base χ (w.setCell ⟨g, i, none⟩ u) (.slice (some ⟨g, 0, none⟩) N cap) (a.set i l) := by
  obtain ⟨vs, h1, h2, h3⟩ := h
  have hvs : vs.length = a.length := by have := h1.1; simpa using this
  have hs : Same (fun x => x = 2) χ χ w (w.setCell ⟨g, i, none⟩ u) := Same.chg' (C := (· = 1)) (Chg.setCell _ _ _ (h2 g rfl)) (fun _ _ => rfl) fun x e => by omega
  refine ⟨vs.set i u, by rw [List.length_set]; exact ownsRow_set1 h1 i u, h2, fun j hj => ?_⟩
  have hj' : j < a.length := by simpa using hj
  have hc : List.take 1 (List.drop j (vs.set i u)) = [(vs.set i u)[j]'(by simp; omega)] := by
    rw [List.drop_eq_getElem_cons (by simp; omega)]; rfl
  rw [hc]
  by_cases e : i = j
  · subst e
    simp only [List.getElem_set_self]
    exact ⟨u, rfl, IsL.keep (D := fun x => x = 2) (by omega) (rSpan_on _) rfl hu hs⟩
  · rw [List.getElem_set_ne e, List.getElem_set_ne e]
    have h4 := h3 j hj'
    rw [show List.take 1 (List.drop j vs) = [vs[j]'(by omega)] by rw [List.drop_eq_getElem_cons (by omega)]; rfl] at h4
    exact rSl_on (D := fun x => x = 2) (by omega) (rSpan_on _) rfl _ _ _ _ _ _ h4 hs

/-- the labels of a row of places hold m, the others nothing. -/
def ofL (N : Nat) (pre : List Nat) (m : List Sp) : Ar := (List.range N).map fun i => if i ∈ pre then m else []
theorem ofL_len (N : Nat) (pre : List Nat) (m : List Sp) : (ofL N pre m).length = N := by simp [ofL]
theorem ofL_snoc (N : Nat) (pre : List Nat) (m : List Sp) (x : Nat) : ofL N (pre ++ [x]) m = (ofL N pre m).set x m := by
  refine List.ext_getElem (by simp [ofL]) fun j h1 h2 => ?_
  simp only [ofL, List.getElem_map, List.getElem_range, List.mem_append, List.mem_singleton, List.getElem_set]
  by_cases e : x = j
  · subst e; simp
  · have : ¬ j = x := fun h => e h.symm
    simp [e, this]
theorem ofL_skip (N : Nat) (pre : List Nat) (m : List Sp) (x : Nat) (hx : N ≤ x) : ofL N (pre ++ [x]) m = ofL N pre m := by
  unfold ofL
  refine List.map_congr_left fun i hi => ?_
  have hi := List.mem_range.1 hi
  have : ¬ i = x := by omega
  simp [this]

/-- what lay before is as it was. -/
def BaseC (w : World) (χ : Col) (W : World) : Prop := ∀ b, b < w.heap.size → χ b = 4 ∧ b < W.heap.size ∧ W.heap[b]? = w.heap[b]?
theorem BaseC.keep {w W W' : World} {χ χ' : Col} (h : BaseC w χ W) (hs : Same (· = 4) χ χ' W W') : BaseC w χ' W' := fun b hb => by
  obtain ⟨h1, h2, h3⟩ := h b hb
  obtain ⟨k1, k2⟩ := hs b h2 h1
  have e := k2.trans h3
  have hb' : b < W'.heap.size := by
    rw [Array.getElem?_eq_getElem hb] at e
    exact (Array.getElem?_eq_some_iff.1 e).1
  exact ⟨k1.trans h1, hb', e⟩
theorem BaseC.rd {w W : World} {χ : Col} {v : Value} {l : List Sp} (h : BaseC w χ W) (hr : RdS w v l) : RdS W v l :=
  IsL.keep (D := fun x => x = 0) (by omega) (rSpan_on _) rfl hr fun b hb _ => ⟨rfl, (h b hb).2.2⟩
theorem BaseC.tab {w W : World} {χ : Col} (h : BaseC w χ W) (hT : Tab w) : Tab W := fun j hj => by
  have h1 := hT j hj
  exact (World.cell?_of_block (h _ (World.block_lt_of_cell? _ _ h1)).2.2).trans h1
theorem BaseC.below {w W W0 : World} {χ χ0 : Col} {C : Nat → Prop} (h : BaseC w χ W) (hb : Below w.heap.size w W0) (hc : Chg χ0 C W0 W) : Below w.heap.size w W :=
  ⟨hc.os.trans hb.os, hc.tape.trans hb.tape, hc.output.trans hb.output, Nat.le_trans hb.size hc.size, fun b hb => (h b hb).2.2⟩

/-- the loop's frame. -/
def oact (w : World) (A : Option Addr) (n : Int) (mask k cap N x : Nat) : Act :=
  { tmps := #[.int .i64 n, .int .u32 mask, .slice A k cap, undef, undef, .pointer (some ⟨w.heap.size, 0, none⟩), .slice none 0 0, .pointer (some ⟨w.heap.size + 1 + 1, 0, none⟩), .int .i64 x, .int .i64 n, .int .i64 (max n 0), .int .i64 (min (max n 0) 16), .slice (some ⟨w.heap.size + 1, 0, none⟩) N N, .int .u32 mask, .int .u64 mask, .func (.func 38) #[] #[.pointer (some ⟨w.heap.size + 1 + 1 + 1, 0, none⟩)], .int .i64 x, undef, undef, undef, undef, undef, undef, undef, undef, undef, undef], defers := [] }

/-- what holds between two rounds. -/
def OI (w : World) (A : Option Addr) (k cap N : Nat) (m : List Sp) (pre : List Nat) (χ : Col) (W : World) : Prop :=
  VarC 1 w.heap.size (.slice A k cap) χ W ∧ VarC 1 (w.heap.size + 1 + 1) (.slice (some ⟨w.heap.size + 1, 0, none⟩) N N) χ W ∧ OwnA w.heap.size χ W (.slice (some ⟨w.heap.size + 1, 0, none⟩) N N) (ofL N pre m) ∧ BaseC w χ W
theorem OI.keep {w W W' : World} {A : Option Addr} {k cap N : Nat} {m : List Sp} {pre : List Nat} {χ χ' : Col} (h : OI w A k cap N m pre χ W) (hs : Same (fun x => x = 1 ∨ x = 2 ∨ x = 4) χ χ' W W') : OI w A k cap N m pre χ' W' :=
  ⟨h.1.keep (hs.mono fun _ e => .inl e), h.2.1.keep (hs.mono fun _ e => .inl e), h.2.2.1.keep (hs.mono fun _ e => e.elim .inl fun e => .inr (.inl e)), h.2.2.2.keep (hs.mono fun _ e => .inr (.inr e))⟩

set_option maxRecDepth 100000 in
set_option maxHeartbeats 8000000 in
theorem of_calls (w : World) (n : Int) (mask : Nat) (v : Value) (l : List Sp) (hr : RdS w v l) (hl : l.length ≤ 100000) (hm : mask < 4294967296) (hT : Tab w) :
    Calls Tryd.prog 16 #[.int .i64 n, .int .u32 mask, v] w fun e w' => ∃ χ, e = .returned (.slice (some ⟨w.heap.size + 1, 0, none⟩) (min (max n 0) 16).toNat (min (max n 0) 16).toNat) ∧ OwnA w.heap.size χ w' (.slice (some ⟨w.heap.size + 1, 0, none⟩) (min (max n 0) 16).toNat (min (max n 0) 16).toNat) (ofL (min (max n 0) 16).toNat (bitsN mask) (nf l)) ∧ Below w.heap.size w w' := by
  obtain ⟨A, cap, rfl, a1, a2, a3, -⟩ := id hr
  have HR := Lib.hid hr
  have HT := Lib.hid hT
  clear hr hT
  obtain ⟨N, hN⟩ : ∃ N : Nat, (N : Int) = min (max n 0) 16 := ⟨(min (max n 0) 16).toNat, by omega⟩
  have hN16 : N ≤ 16 := by omega
  rw [← hN, Int.toNat_natCast]
  obtain ⟨i0, hi0, hz0, hz1, hz2⟩ := info_parts infoSl
  have hmk : ∀ u : World, (Instr.makeSlice 29 (.int .i64 (min (max n 0) 16)) (.int .i64 (min (max n 0) 16))).run Tryd.prog u = .ok (.slice (some ⟨u.heap.size, 0, none⟩) N N) (u.alloc (.cells (madeCells #[.slice none 0 0] N) 45)) := fun u => by
    have := run_makeSlice (P := Tryd.prog) u 29 45 i0 (.slice none 0 0) Tryd.underlying29 hi0 hz0 .i64 .i64 N N (by omega) (Int.le_refl _) (by rw [hz1]; omega) (by rw [hz2]; omega) (by omega)
    rw [hz1, Int.toNat_natCast, Nat.mul_one] at this
    rw [← hN]; exact this
  clear hN
  refine callsIn_wide (n := 99) |>.1 ?_
  refine callsIn_of_wp_marks Tryd.func16 rfl trivial ?_ rfl
  simp only [Tryd.ntmps16, List.size_toArray, List.length_cons, List.length_nil, Nat.reduceAdd, Nat.reduceSub, Array.replicate_succ, Array.replicate_zero, List.push_toArray, List.append_toArray, List.nil_append, List.cons_append]
  gi_wp2_with (refine ⟨trivial, ?_⟩; gi_at_call 27; refine (callsIn_wide.2 (bits_calls _ mask)).mono ?_; rintro e w' ⟨rfl, rfl⟩)
  obtain ⟨W0, hW0⟩ : ∃ W0, W0 = ((((w.alloc (.cells #[.slice A l.length cap] 45)).alloc (.cells (madeCells #[.slice none 0 0] N) 45)).alloc (.cells #[.slice (some ⟨w.heap.size + 1, 0, none⟩) N N] 29)).alloc (.cells #[.int .u64 mask] 61)) := ⟨_, rfl⟩
  have hb0 : Below w.heap.size w W0 := by rw [hW0]; exact ((((Below.refl w.heap.size w).alloc (Nat.le_refl _) _).alloc (by simp only [World.size_alloc]; omega) _).alloc (by simp only [World.size_alloc]; omega) _).alloc (by simp only [World.size_alloc]; omega) _
  have hsz : W0.heap.size = w.heap.size + 4 := by rw [hW0]; simp
  have v0 := Var.new w (.slice A l.length cap) 45
  have v2 := Var.new ((w.alloc (.cells #[.slice A l.length cap] 45)).alloc (.cells (madeCells #[.slice none 0 0] N) 45)) (.slice (some ⟨w.heap.size + 1, 0, none⟩) N N) 29
  have v3 := Var.new (((w.alloc (.cells #[.slice A l.length cap] 45)).alloc (.cells (madeCells #[.slice none 0 0] N) 45)).alloc (.cells #[.slice (some ⟨w.heap.size + 1, 0, none⟩) N N] 29)) (.int .u64 mask) 61
  have o1 := World.ownsRow_lit (base := w.heap.size) (e := 45) (size := 1) (w.alloc (.cells #[.slice A l.length cap] 45)) (madeCells #[.slice none 0 0] N) N (by simp only [World.size_alloc]; omega) (by unfold maxLen; omega) (by simp [size_madeCells])
  simp only [World.size_alloc, toList_madeCells_one] at v2 v3 o1
  have H0 : OI w A l.length cap N (nf l) [] (paint (fun _ => 4) w.heap.size 1) W0 := by
    rw [hW0]
    refine ⟨⟨paint_high (Nat.le_refl _), ((v0.alloc _).alloc _).alloc _⟩, ⟨paint_high (by omega), v2.alloc _⟩, ⟨List.replicate N (.slice none 0 0), ?_, fun b e => ?_, fun i hi => ?_⟩, fun b hb => ⟨paint_low hb, ?_, ?_⟩⟩
    · rw [ofL_len]; exact (o1.alloc _).alloc _
    · cases e; exact paint_high (by show w.heap.size ≤ w.heap.size + 1; omega)
    · have hiN : i < N := by rw [ofL_len] at hi; exact hi
      refine ⟨.slice none 0 0, ?_, ?_⟩
      · rw [List.drop_replicate, List.take_replicate, Nat.min_eq_left (by omega)]; rfl
      · have : (ofL N [] (nf l))[i] = [] := by simp [ofL]
        rw [this]
        exact ⟨none, 0, rfl, by simp, by simp, ⟨by simp, fun _ => rfl⟩, fun i hi => by simp at hi⟩
    · simp only [World.size_alloc]; omega
    · rw [← hW0]; exact hb0.block b hb
  have hbx : W0.cell? ⟨w.heap.size + 1 + 1 + 1, 0, none⟩ = some (.int .u64 mask) := by rw [hW0]; exact v3.1
  rw [← hW0]
  clear hW0 v0 v2 v3 o1 hmk hi0 hz0 hz1 hz2
  refine wp_rangeP (gf := 38) (lb := #[.pointer (some ⟨w.heap.size + 1 + 1 + 1, 0, none⟩)]) (Y := YBit) (xs := bitsN mask) (Co := fun x => x = 1 ∨ x = 2 ∨ x = 4) (T := fun _ => False) (cR := 3) (χ := paint (fun _ => 4) w.heap.size 1) (Pw := Tab) (Zt := fun _ _ => True)
    rfl (enters_of Tryd.func38 (by kernel_rfl) rfl) (by omega) (by simp)
    (fun W hb => bits_iter W mask _ (by omega) ((World.cell?_of_block (hb.block (w.heap.size + 1 + 1 + 1) (by omega))).trans hbx))
    (fun pre χ1 W => OI w A l.length cap N (nf l) pre χ1 W)
    (fun c pre χ1 W => False)
    (fun pre x a₁ χ1 W => OI w A l.length cap N (nf l) pre χ1 W ∧ a₁ = oact w A n mask l.length cap N x)
    ?hI ?hIx ?hZ (fun pre χ1 W h => h.2.2.2.tab HT.out) H0 ?assign ?body ?done ?zt ?stop ?cw
  case hI => exact fun pre χ1 χ2 W W' h hs => h.keep hs
  case hIx => exact fun c pre χ1 χ2 W W' h hs => h
  case hZ => exact fun pre x a₁ χ1 χ2 W W' h hs => ⟨h.1.keep hs, h.2⟩
  case zt => exact fun _ _ _ _ _ _ => trivial
  case stop => exact fun D χ2 c pre W _ _ _ _ _ h _ => h.elim
  case cw =>
    intro b hb
    by_cases h : b < w.heap.size
    · rw [paint_low h]; decide
    · rw [paint_high (by omega)]; decide
  case assign =>
    rintro m l pre x rest vs χ1 W hx hi rfl
    refine ⟨rfl, ?_⟩
    gi_wp2
    exact ⟨χ1, fun _ _ => rfl, Chg.of_below (Below.refl _ _), hi, rfl⟩
  case body =>
    rintro m l' pre x rest a₁ χ1 W hx ⟨hi, rfl⟩
    have HI := Lib.hid hi
    obtain ⟨⟨c1, v1⟩, ⟨c2, v2⟩, ho, hbase⟩ := hi
    have v1c := v1.1; have v2c := v2.1
    have hRW := Lib.hid (hbase.rd HR.out)
    clear v1 v2 hbase
    unfold oact
    by_cases hxN : x < N
    · obtain ⟨vs, h1, -, -⟩ := id ho
      have hvs : vs.length = N := by have := h1.1; rw [ofL_len] at this; simpa using this
      obtain ⟨k3, k4⟩ := own_cell1 h1 x (by omega)
      generalize vs[x]'(by omega) = uu at k3
      have hRd : Hid (RdS W.drew (.slice A l.length cap) l) := hRW.out.keep (below_drewN _ _ 1)
      have hbd : Below W.heap.size W W.drew := below_drewN _ _ 1
      clear h1 hvs ho
      gi_wp2
      gi_region_with (refine ⟨trivial, wide_n, ?_⟩; gi_at_call 22; refine (callsIn_wide.2 (make_calls _ _ _ hRd.out hl)).mono ?_; rintro e w2 ⟨v2', r, rfl, N2, hset, -, hb2⟩; have hb3 := hbd.trans hb2; have y1 := (World.cell?_of_block (hb3.block _ (World.block_lt_of_cell? _ _ v1c))).trans v1c; have y2 := (World.cell?_of_block (hb3.block _ (World.block_lt_of_cell? _ _ v2c))).trans v2c; have y3 := (keep_below hb3 k3 k4).1; have y4 := (keep_below hb3 k3 k4).2; obtain ⟨A2, cc2, rfl⟩ := N2.form; have N3 := Lib.hid N2; have S3 := Lib.hid hset; clear N2 hset)
      all_goals
        obtain ⟨K1, K2, K3, K4⟩ := HI.out.keep (Same.below 2 hb3)
        have hrl : r = nf l := S3.out.eq (nf_spec fun s hs => HR.out.wf s hs) fun _ => Iff.rfl
        obtain ⟨-, -, ⟨vs, o1, o2, -⟩, -⟩ := HI.out
        have hg1 : χ1 (w.heap.size + 1) = 1 := o2 _ rfl
        have hgl : w.heap.size + 1 < W.heap.size := (o1.lt _ rfl).2
        have hne0 : ∀ b, b < w.heap.size + 1 ∨ w.heap.size + 1 < b → (w2.setCell ⟨w.heap.size + 1, x, none⟩ (.slice A2 r.length cc2)).heap[b]? = w2.heap[b]? := fun b hb => Below.heap_setCell _ _ _ _ (by show b ≠ w.heap.size + 1; omega)
        have U3 : IsL 2 rSpan 2 (paint χ1 W.heap.size 2) w2 (.slice A2 r.length cc2) (nf l) := by
          have := N3.out.col (c := 2) (χ := paint χ1 W.heap.size 2) (fun b hb => paint_high hb)
          rw [hrl] at this ⊢; exact this
        refine ⟨paint χ1 W.heap.size 2, fun b hb => paint_low hb, (Chg.of_below hb3).trans (χ' := paint χ1 W.heap.size 2) (fun b hb => paint_low hb) (Chg.setCell _ _ _ (.inl ((paint_low hgl).trans hg1))), ?_⟩
        refine ⟨⟨K1.1, K1.2.block (hne0 _ (by omega))⟩, ⟨K2.1, K2.2.block (hne0 _ (by omega))⟩, ?_, fun b hb => ?_⟩
        · rw [ofL_snoc]; exact OwnA.set K3 U3
        · obtain ⟨q1, q2, q3⟩ := K4 b hb
          exact ⟨q1, by simpa [World.setCell] using q2, (hne0 b (by omega)).trans q3⟩
    · clear ho
      gi_wp2
      exact ⟨χ1, fun _ _ => rfl, Chg.of_below (Below.refl _ _), by show OI _ _ _ _ _ _ _ _ _; unfold OI; rw [ofL_skip _ _ _ _ (by omega)]; exact HI.out⟩
  case done =>
    rintro D χ2 W hD cD ag hch hzt ⟨-, ⟨c2, v2⟩, ho, hbase⟩ hK
    have hbel := hbase.below hb0 hch
    have v2c := v2.1
    have HO := Lib.hid ho
    clear ho hbase H0 hch ag
    gi_wp2
    refine ⟨by simp, .inl ⟨_, _, rfl, run_takeDeferred hK, ?_⟩⟩
    have h2 : Below w.heap.size W (W.putObj D (.deferred none)) := ⟨rfl, rfl, rfl, by simp, fun b hb => World.putObj_heap_other (by omega)⟩
    have hs : Same (fun x => x = 1 ∨ x = 2) χ2 χ2 W (W.putObj D (.deferred none)) := Same.chg' (C := (· = 3)) (Chg.putObj _ _ _ cD) (fun _ _ => rfl) (fun x hx e => by omega)
    exact ⟨.slice (some ⟨w.heap.size + 1, 0, none⟩) N N, by simp [results, Tryd.results16, go_sem], χ2, rfl, HO.out.keep hs, hbel.trans h2⟩
end Go.Proofs.YtfapeemdlphjbaaDoor
