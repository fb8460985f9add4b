import Derived.Test.YtipdmnfkigoanaaRwK
import Derived.Stop.RegionWithIn
import Derived.BigRegionIn
namespace Go.Proofs.Ytipdmnfkigoanaa
open Go.RowKit Go.Maps
attribute [local go_sem] World.cell?_alloc_some frozen_alloc_some Oper.semAt_some

/-! All cells, by their versions. -/
def YPairC (x : Cl × Int) (vs : Array Value) : Prop := vs = #[.agg #[.int .i64 x.1.lab, .int .u32 x.1.key], .int .i64 x.2]
theorem rall0_calls (w : World) (rb : Nat) : Calls Try.prog 27 #[.pointer (some ⟨rb, 0, none⟩)] w fun e w' =>
    e = .returned (.func (.func 33) #[] #[.pointer (some ⟨w.heap.size, 0, none⟩)]) ∧ w' = w.alloc (.cells #[.pointer (some ⟨rb, 0, none⟩)] 51) := by
  go_enter Try.func27, Try.ntmps27
  go_wp2
  go_ret
  exact ⟨rfl, rfl⟩
/-- What the iterator keeps between its rounds. -/
structure St1 (Co : Nat → Prop) (cT : Nat) (w0 W : World) (χ : Col) (bx rb : Nat) (v : Value) (ks : List Cl) (χ1 : Col) (wr : World) : Prop where
  low : ∀ b, b < w0.heap.size → ¬ Co (χ b)
  sz : w0.heap.size ≤ W.heap.size
  nl : ¬ Co (χ bx)
  ll : bx < W.heap.size
  ag : ∀ b, b < W.heap.size → χ1 b = χ b
  ch : Chg χ (fun x => Co x ∨ x = cT) W wr
  bel : Below w0.heap.size w0 wr
  cl : wr.cell? ⟨bx, 0, none⟩ = some (.pointer (some ⟨rb, 0, none⟩))
  row : NewK W.heap.size wr v ks
  rc : ∀ b, v.ownBlock = some b → χ1 b = cT
theorem St1.yield {Co : Nat → Prop} {cT : Nat} {w0 W : World} {χ χ1 χ2 : Col} {bx rb : Nat} {v : Value} {ks : List Cl} {wr wr' : World} (h : St1 Co cT w0 W χ bx rb v ks χ1 wr) (hT : ¬ Co cT) (ag : ∀ b, b < wr.heap.size → χ2 b = χ1 b) (hc : Chg χ1 Co wr wr') :
    St1 Co cT w0 W χ bx rb v ks χ2 wr' := by
  have hs := h.ch.size
  have l1 := h.ll
  exact ⟨h.low, h.sz, h.nl, h.ll, fun b hb => (ag b (by omega)).trans (h.ag b hb), h.ch.trans h.ag (hc.mono fun _ => .inl),
    h.bel.trans (hc.below (n := w0.heap.size) (fun b hb => by rw [h.ag b (by have := h.sz; omega)]; exact h.low b hb) h.bel.size),
    (World.cell?_of_block (hc.blk bx (by omega) (by rw [h.ag bx h.ll]; exact h.nl))).trans h.cl,
    owns_same h.row fun b e => hc.blk b (World.ownsRow.lt h.row b e).2 (by rw [h.rc b e]; exact hT), fun b e => (ag b (World.ownsRow.lt h.row b e).2).trans (h.rc b e)⟩
theorem St1.grow {Co : Nat → Prop} {cT : Nat} {w0 W : World} {χ χ1 : Col} {bx rb : Nat} {v : Value} {ks : List Cl} {wr wr' : World} (h : St1 Co cT w0 W χ bx rb v ks χ1 wr) (hb : Below wr.heap.size wr wr') : St1 Co cT w0 W χ bx rb v ks (paint χ1 wr.heap.size cT) wr' := by
  have hs := h.ch.size
  have l1 := h.ll
  exact ⟨h.low, h.sz, h.nl, h.ll, fun b hb => (paint_low (by omega)).trans (h.ag b hb), h.ch.trans h.ag (Chg.of_below hb),
    h.bel.trans (hb.mono h.bel.size), (World.cell?_of_block (hb.block bx (by omega))).trans h.cl, h.row.keep hb, fun b e => (paint_low (World.ownsRow.lt h.row b e).2).trans (h.rc b e)⟩
set_option maxRecDepth 100000 in
set_option maxHeartbeats 4000000 in
theorem rall1_iter (w0 W : World) (bx : Nat) {c : Nat} {χ0 : Col} {rb : Nat} {t : TypeId} {rest : List Value} {L : RL} {ev : List Cl} {last : Nat} {vm em : Value} {n1 n2 : Nat} (h : RwIn c χ0 w0 rb t rest L ev last vm em n1 n2) (hll : last ≤ 1000000)
    {χ : Col} {Co : Nat → Prop} {cT : Nat} (hb : Below w0.heap.size w0 W) (hlow : ∀ b, b < w0.heap.size → ¬ Co (χ b)) (hT : ¬ Co cT) (hbx : W.cell? ⟨bx, 0, none⟩ = some (.pointer (some ⟨rb, 0, none⟩))) (nl : ¬ Co (χ bx)) :
    IterC Try.prog 33 #[.pointer (some ⟨bx, 0, none⟩)] YPairC Co (fun x => x = cT) (fun _ _ => True) L χ W := by
  intro n yl J Jx hJ hJx hY h0
  have HSo := Lib.hid (rsorted_calls W (h.below hb) hll)
  have hlx := World.block_lt_of_cell? _ _ hbx
  have hlx : bx < W.heap.size := hlx
  have HB := Lib.hid (And.intro hb (And.intro hlow nl))
  have HJ := Lib.hid hJ
  have HY := Lib.hid hY
  have HT := Lib.hid hT
  have hlen := h.len
  have H := Lib.hid h
  have h0' := Lib.hid h0
  clear hJ hJx hY hb hlow hT nl h h0
  refine callsIn_of_wp Try.func33 rfl trivial ?_ rfl
  simp only [Try.ntmps33, List.size_toArray, List.length_cons, List.length_nil, Nat.reduceAdd, Nat.reduceSub, Array.replicate_succ, Array.replicate_zero, List.push_toArray, List.append_toArray, List.nil_append, List.cons_append]
  gi_wp2_with (refine ⟨trivial, wide_n, ?_⟩; gi_at_call 28; refine (callsIn_wide.2 HSo.out).mono ?_; rintro e w2 ⟨v, rfl, k3, k4⟩; obtain ⟨A, cap, rfl⟩ := k3.form)
  obtain ⟨hb, hlow, nl⟩ := HB.out
  rw [List.length_map] at k3
  have S0 : Hid (St1 Co cT w0 W χ bx rb (.slice A L.length cap) (L.map (·.1)) (paint χ W.heap.size cT) w2) :=
    ⟨hlow, hb.size, nl, hlx, fun b hb => paint_low hb, .of_below k4, hb.trans (k4.mono hb.size), (World.cell?_of_block (k4.block bx hlx)).trans hbx, k3, fun b e => paint_high (World.ownsRow.lt k3 b e).1⟩
  have J0 := HJ.out _ _ _ _ _ h0'.out (Same.below cT k4)
  clear hb hlow nl k3 k4 HSo HB h0' hbx
  gi_loopw [8] (fun i wr => ∃ (k : Nat) (χ1 : Col), k ≤ L.length ∧ i = .int .i64 k ∧ J (L.take k) χ1 wr ∧ Hid (St1 Co cT w0 W χ bx rb (.slice A L.length cap) (L.map (·.1)) χ1 wr)) (fun i _ => L.length - (intOf i).toNat)
  case atStart => exact ⟨0, _, by omega, rfl, J0, S0⟩
  case round =>
    clear S0 J0
    obtain ⟨k, χ1, hk, rfl, hJk, HS⟩ := hrel
    obtain ⟨wo, rfl⟩ : ∃ wo, wo = wr := ⟨_, rfl⟩
    by_cases hlt : k < L.length
    · have hrd : RdK wo (.slice A L.length cap) (L.map (·.1)) := HS.out.row.rd (by simp; omega)
      obtain ⟨gb, go, rfl, p0, p1⟩ := hrd.get k (by simpa using hlt)
      simp only [List.getElem_map] at p0 p1
      have hsplit := Lib.hid (split_at L k hlt)
      have hnext := Lib.hid (List.take_succ_eq_append_getElem hlt)
      have hv0 : verO L L[k].1 = some L[k].2 := verO_of H.out.wf.nd (List.getElem_mem hlt)
      obtain ⟨⟨x, s⟩, hy⟩ : ∃ y, y = L[k] := ⟨_, rfl⟩
      rw [← hy] at p0 p1 hsplit hnext hv0
      have hbel := Lib.hid HS.out.bel
      have hbx := HS.out.cl
      have hb2 := (Below.refl wo.heap.size wo).alloc (Nat.le_refl _) (.cells #[.int .i64 x.lab, .int .u32 x.key] 36)
      have hb3 : Below wo.heap.size wo (wo.alloc (.cells #[.int .i64 x.lab, .int .u32 x.key] 36)).drew := hb2.trans ((below_drew _).mono (by simp))
      have H3 := H.out.below (hbel.out.trans (hb3.mono hbel.out.size))
      obtain ⟨c0, -, -, -, -, -⟩ := H3.cells
      have hbx3 := (World.cell?_of_block (hb3.block bx (World.block_lt_of_cell? _ _ hbx))).trans hbx
      obtain ⟨⟨x0, x1⟩, -⟩ := cells2 (show ((wo.alloc (.cells #[.int .i64 x.lab, .int .u32 x.key] 36)).drew).heap[wo.heap.size]? = _ from heap_alloc_at wo (.cells #[.int .i64 x.lab, .int .u32 x.key] 36))
      have hl : (Instr.lookup 26 vm (.agg #[.int .i64 x.lab, .int .u32 x.key]) false).run Try.prog ((wo.alloc (.cells #[.int .i64 x.lab, .int .u32 x.key] 36)).drew) = .ok (.int .i64 s) ((wo.alloc (.cells #[.int .i64 x.lab, .int .u32 x.key] 36)).drew) := by
        have := H3.mv.look1 Try.underlying26 0 (zeroV _) (x := x) trivial
        rw [hv0] at this; exact this
      have J3 := HJ.out _ _ _ _ _ hJk (Same.below cT hb3)
      have S3 := Lib.hid (HS.out.grow hb3)
      obtain ⟨fn, tmps, assign, body, hyy, hR⟩ := HY.out (n - 1) (L.take k) (x, s) _ #[.agg #[.int .i64 x.lab, .int .u32 x.key], .int .i64 s] (paint χ1 wo.heap.size cT) ((wo.alloc (.cells #[.int .i64 x.lab, .int .u32 x.key] 36)).drew) hsplit.out J3 rfl
      have HH := Lib.hid HY; clear HY
      have HR := Lib.hid hR
      clear hrd hR hv0 hy hJk hb2 hb3 H3 J3 HS hbx hbel
      gi_wp2
      gi_region_with (refine ⟨wide_n, HR.out.mono ?_⟩; rintro e W4 ⟨χ4, ag4, hc4, hj4⟩; obtain ⟨bb, rfl, hj5⟩ : ∃ bb, e = .returned (.bool bb) ∧ Hid ((bb = true ∧ J (L.take k ++ [(x, s)]) χ4 W4) ∨ (bb = false ∧ Jx (L.take k ++ [(x, s)]) χ4 W4)) := (by rcases hj4 with ⟨rfl, hj⟩ | ⟨rfl, hj⟩; exact ⟨true, rfl, .inl ⟨rfl, hj⟩⟩; exact ⟨false, rfl, .inr ⟨rfl, hj⟩⟩); clear hj4)
      all_goals
        have S4 := Lib.hid (S3.out.yield HT.out ag4 hc4)
        rcases hj5.out with ⟨rfl, hJ4⟩ | ⟨rfl, hJx4⟩
        · rw [← hnext.out] at hJ4
          gi_wp2
          exact ⟨⟨k + 1, χ4, hlt, by go_num, hJ4, S4⟩, by simp [intOf]; omega⟩
        · rw [← hnext.out] at hJx4
          gi_wp2
          refine bodyPost_ret (results_none rfl _ _ _) rfl ?_
          exact ⟨⟨_, rfl⟩, χ4, fun b hb => S4.out.ag b hb, S4.out.ch, .inr ⟨_, List.take_prefix _ _, hJx4⟩⟩
    · have hkk : L.take k = L := List.take_of_length_le (by omega)
      rw [hkk] at hJk
      clear hkk
      gi_wp2
      go_end0
      exact ⟨⟨_, rfl⟩, χ1, fun b hb => HS.out.ag b hb, HS.out.ch, .inl ⟨trivial, hJk⟩⟩
end Go.Proofs.Ytipdmnfkigoanaa
