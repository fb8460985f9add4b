import Derived.Test.YtddpnldgfdooiaaTkI
import Derived.Test.YtddpnldgfdooiaaTkK
namespace Go.Proofs.Ytddpnldgfdooiaa
open Go.RowKit Go.Maps
attribute [local go_sem] World.cell?_alloc_some frozen_alloc_some Oper.semAt_some

/-! All sessions, by their tokens. -/
def YPair (x : Int × Int) (vs : Array Value) : Prop := vs = #[.int .u64 x.1, .int .i64 x.2]
theorem all0_calls (w : World) (tb : Nat) : Calls Try.prog 20 #[.pointer (some ⟨tb, 0, none⟩)] w fun e w' =>
    e = .returned (.func (.func 22) #[] #[.pointer (some ⟨w.heap.size, 0, none⟩)]) ∧ w' = w.alloc (.cells #[.pointer (some ⟨tb, 0, none⟩)] 25) := by
  go_enter Try.func20, Try.ntmps20
  go_wp2
  go_ret
  exact ⟨rfl, rfl⟩
/-- What the iterator keeps between its rounds. -/
structure St1 (Co : Nat → Prop) (cT : Nat) (w0 W : World) (χ : Col) (bx tb : Nat) (v : Value) (ks : List Int) (χ1 : Col) (wr : World) : Prop where
  low : ∀ b, b < w0.heap.size → ¬ Co (χ b)
  sz : w0.heap.size ≤ W.heap.size
  nl : ¬ Co (χ bx)
  ll : bx < W.heap.size
  ag : ∀ b, b < W.heap.size → χ1 b = χ b
  ch : Chg χ (fun x => Co x ∨ x = cT) W wr
  bel : Below w0.heap.size w0 wr
  cl : wr.cell? ⟨bx, 0, none⟩ = some (.pointer (some ⟨tb, 0, none⟩))
  row : wr.ownsRow W.heap.size 31 1 v ks.length (ks.map (Value.int .u64))
  rc : ∀ b, v.ownBlock = some b → χ1 b = cT
theorem St1.yield {Co : Nat → Prop} {cT : Nat} {w0 W : World} {χ χ1 χ2 : Col} {bx tb : Nat} {v : Value} {ks : List Int} {wr wr' : World} (h : St1 Co cT w0 W χ bx tb v ks χ1 wr) (hT : ¬ Co cT) (ag : ∀ b, b < wr.heap.size → χ2 b = χ1 b) (hc : Chg χ1 Co wr wr') :
    St1 Co cT w0 W χ bx tb v ks χ2 wr' := by
  have hs := h.ch.size
  have l1 := h.ll
  exact ⟨h.low, h.sz, h.nl, h.ll, fun b hb => (ag b (by omega)).trans (h.ag b hb), h.ch.trans h.ag (hc.mono fun _ => .inl),
    h.bel.trans (hc.below (n := w0.heap.size) (fun b hb => by rw [h.ag b (by have := h.sz; omega)]; exact h.low b hb) h.bel.size),
    (World.cell?_of_block (hc.blk bx (by omega) (by rw [h.ag bx h.ll]; exact h.nl))).trans h.cl,
    owns_same h.row fun b e => hc.blk b (h.row.lt b e).2 (by rw [h.rc b e]; exact hT), fun b e => (ag b (h.row.lt b e).2).trans (h.rc b e)⟩
theorem lt_ext {l m : List Int} (hl : l.Pairwise (· < ·)) (hm : m.Pairwise (· < ·)) (h : ∀ x, x ∈ l ↔ x ∈ m) : l = m := by
  induction l generalizing m with
  | nil => cases m with
    | nil => rfl
    | cons y m => have := (h y).2 (by simp); simp at this
  | cons x l ih => cases m with
    | nil => have := (h x).1 (by simp); simp at this
    | cons y m =>
      obtain ⟨a1, a2⟩ := List.pairwise_cons.1 hl
      obtain ⟨b1, b2⟩ := List.pairwise_cons.1 hm
      have e : x = y := by
        have h1 := (h x).1 (by simp)
        have h2 := (h y).2 (by simp)
        rcases List.mem_cons.1 h1 with h3 | h3
        · exact h3
        · rcases List.mem_cons.1 h2 with h4 | h4
          · exact h4.symm
          · have := a1 y h4; have := b1 x h3; omega
      subst e
      rw [ih a2 b2 fun z => ⟨fun hz => by
        rcases List.mem_cons.1 ((h z).1 (by simp [hz])) with h3 | h3
        · have := a1 z hz; omega
        · exact h3, fun hz => by
        rcases List.mem_cons.1 ((h z).2 (by simp [hz])) with h3 | h3
        · have := b1 z hz; omega
        · exact h3⟩]
def perF (F : Int → Option Ses) (k : Int) : Int := ((F k).getD (0, 0, 0)).1
def pairF (F : Int → Option Ses) (ks : List Int) : List (Int × Int) := ks.map fun k => (k, perF F k)
theorem pairF_take (F : Int → Option Ses) (ks : List Int) (k : Nat) : (pairF F ks).take k = pairF F (ks.take k) := by simp [pairF, List.map_take]
theorem field_p (p b l : Int) (w : World) : (Instr.field 56 (.agg #[.int .i64 p, .int .i64 b, .int .i64 l]) 0).run Try.prog w = .ok (.int .i64 p) w := by kernel_rfl
theorem pairF_app (F : Int → Option Ses) (a b : List Int) : pairF F (a ++ b) = pairF F a ++ pairF F b := by simp [pairF]
theorem pairF_split (F : Int → Option Ses) (ys : List Int) {k : Nat} (h : k < ys.length) : pairF F ys = pairF F (ys.take k) ++ (ys[k], perF F ys[k]) :: pairF F (ys.drop (k + 1)) := by
  have h1 := pairF_app F (ys.take k) (ys.drop k)
  rw [List.take_append_drop] at h1
  rw [h1, List.drop_eq_getElem_cons h]; rfl
theorem pairF_succ (F : Int → Option Ses) (ys : List Int) {k : Nat} (h : k < ys.length) : pairF F (ys.take (k + 1)) = pairF F (ys.take k) ++ [(ys[k], perF F ys[k])] := by
  rw [List.take_succ_eq_append_getElem h, pairF_app]; rfl
set_option maxRecDepth 100000 in
set_option maxHeartbeats 4000000 in
theorem all1_iter (w0 W : World) (tb bx mb n0 : Nat) {most idle abs : Int} {F : Int → Option Ses} (h : TabAt w0 tb mb n0 most idle abs F) (hn0 : n0 ≤ 1000) (ks : List Int) (hks : FinK F ks) (hsrt : ks.Pairwise (· < ·)) (hk12 : ks.length ≤ 12)
    {χ : Col} {Co : Nat → Prop} {cT : Nat} (hb : Below w0.heap.size w0 W) (hlow : ∀ b, b < w0.heap.size → ¬ Co (χ b)) (hT : ¬ Co cT) (hbx : W.cell? ⟨bx, 0, none⟩ = some (.pointer (some ⟨tb, 0, none⟩))) (nl : ¬ Co (χ bx)) :
    IterC Try.prog 22 #[.pointer (some ⟨bx, 0, none⟩)] YPair Co (fun x => x = cT) (fun _ _ => True) (pairF F ks) χ W := by
  intro n yl J Jx hJ hJx hY h0
  have TW := h.below hb
  obtain ⟨⟨c0, c1, c2, c3⟩, -, -, -, -⟩ := cells4 TW.cells
  have hb1 := (Below.refl W.heap.size W).alloc (Nat.le_refl _) (.cells #[.map (some mb)] 52)
  have HSo := Lib.hid (sorted_calls (W.alloc (.cells #[.map (some mb)] 52)) W.heap.size mb n0 (TW.map.below (hb1.block _ TW.map.lt)) (by simp) hn0 hks.card hk12)
  have hll := World.block_lt_of_cell? _ _ hbx
  have HB := Lib.hid (And.intro hb (And.intro hlow nl))
  have HJ := Lib.hid hJ
  have HY := Lib.hid hY
  have HT := Lib.hid hT
  have H := Lib.hid h
  have HK := Lib.hid (And.intro hks hsrt)
  have hb1' := Lib.hid hb1
  have h0' := Lib.hid h0
  clear hJ hJx hY hb hlow hT nl h hks hsrt TW hb1 h0
  refine callsIn_of_wp Try.func22 rfl trivial ?_ rfl
  simp only [Try.ntmps22, List.size_toArray, List.length_cons, List.length_nil, Nat.reduceAdd, Nat.reduceSub, Array.replicate_succ, Array.replicate_zero, List.push_toArray, List.append_toArray, List.nil_append, List.cons_append]
  gi_wp2_with (first
    | (refine ⟨trivial, wide_n, ?_⟩; gi_at_call 24; refine (callsIn_wide.2 (keys_calls _ _)).mono ?_; rintro e w1 ⟨rfl, rfl⟩)
    | (refine ⟨trivial, wide_n, ?_⟩; gi_at_call 23; refine (callsIn_wide.2 HSo.out).mono ?_; rintro e w2 ⟨v, ys, rfl, k1, k2, k3, k4⟩; obtain rfl : ys = ks := lt_ext k2 HK.out.2 fun x => (k1.2 x).trans (HK.out.1.2 x).symm; obtain ⟨A, cap, rfl⟩ := owns_form k3))
  obtain ⟨hb, hlow, nl⟩ := HB.out
  have hb2 : Below W.heap.size W w2 := hb1'.out.trans (k4.mono (by simp))
  have S0 : Hid (St1 Co cT w0 W χ bx tb (.slice A ys.length cap) ys (paint χ W.heap.size cT) w2) :=
    ⟨hlow, hb.size, nl, hll, fun b hb => paint_low hb, .of_below hb2, hb.trans (hb2.mono hb.size), (World.cell?_of_block (hb2.block bx hll)).trans hbx, k3.mono_base (by simp), fun b e => paint_high (by have := (k3.lt b e).1; simp at this; omega)⟩
  have J0 := HJ.out _ _ _ _ _ h0'.out (Same.below cT hb2)
  clear hb hlow nl hb2 k1 k2 k3 k4 HSo HB hb1' h0' c0 c1 c2 c3 hbx
  gi_loopw [12] (fun i wr => ∃ (k : Nat) (χ1 : Col), k ≤ ys.length ∧ i = .int .i64 k ∧ J (pairF F (ys.take k)) χ1 wr ∧ Hid (St1 Co cT w0 W χ bx tb (.slice A ys.length cap) ys χ1 wr)) (fun i _ => ys.length - (intOf i).toNat)
  case atStart => exact ⟨0, _, by omega, rfl, J0, S0⟩
  case round =>
    clear S0 J0
    obtain ⟨k, χ1, hk, rfl, hJk, HS⟩ := hrel
    obtain ⟨wo, rfl⟩ : ∃ wo, wo = wr := ⟨_, rfl⟩
    by_cases hlt : k < ys.length
    · have TW := H.out.below HS.out.bel
      obtain ⟨⟨c0, c1, c2, c3⟩, -, -, -, -⟩ := cells4 TW.cells
      obtain ⟨g, rfl⟩ : ∃ g, A = some ⟨g, 0, none⟩ := by
        rcases owns_cases HS.out.row with rfl | h
        · obtain ⟨-, (⟨e, h00⟩ | ⟨g, cap', cur, e, -⟩)⟩ := id HS.out.row
          · omega
          · cases e
        · exact h
      have hcell := HS.out.row.cells (g := g) rfl k (.int .u64 ys[k]) (by simp [hlt])
      rw [add0t] at hcell
      have hbx := HS.out.cl
      have hsplit := Lib.hid (pairF_split F ys hlt)
      have hsome := (HK.out.1.2 ys[k]).1 (List.getElem_mem hlt)
      have hnext := Lib.hid (pairF_succ F ys hlt)
      obtain ⟨y, hy⟩ : ∃ y, y = ys[k] := ⟨_, rfl⟩
      rw [← hy] at hcell hsplit hsome hnext
      obtain ⟨⟨p, b, l⟩, hF⟩ := Option.isSome_iff_exists.1 hsome
      have hper : perF F y = p := by unfold perF; rw [hF]; rfl
      rw [hper] at hsplit hnext
      have hlook := TW.map.look1 Try.underlying52 (0, 0, 0) (zeroS _) (TW.map.ok hF)
      rw [hF] at hlook
      have hlook : (Instr.lookup 52 (.map (some mb)) (.int .u64 y) false).run Try.prog wo = .ok (.agg #[.int .i64 p, .int .i64 b, .int .i64 l]) wo := hlook
      obtain ⟨fn, tmps, assign, body, hyy, hR⟩ := HY.out (n - 1) (pairF F (ys.take k)) (y, p) _ #[.int .u64 y, .int .i64 p] χ1 wo hsplit.out hJk rfl
      have HH := Lib.hid HY; clear HY
      have HR := Lib.hid hR
      clear hR hsome hF hper hy TW hJk
      have hfld := field_p p b l wo
      gi_wp2_with fail
      refine ⟨wide_n, HR.out.mono ?_⟩
      rintro e W4 ⟨χ4, ag4, hc4, hj4⟩
      have S4 := Lib.hid (HS.out.yield HT.out ag4 hc4)
      rcases hj4 with ⟨rfl, hJ4⟩ | ⟨rfl, hJx4⟩
      · rw [← hnext.out] at hJ4
        gi_wp2
        exact ⟨⟨k + 1, χ4, hlt, by go_num, hJ4, S4⟩, by simp [intOf]; omega⟩
      · rw [← hnext.out] at hJx4
        gi_wp2
        refine bodyPost_ret (results_none rfl _ _ _) rfl ?_
        refine ⟨⟨_, rfl⟩, χ4, fun b hb => S4.out.ag b hb, S4.out.ch, .inr ⟨_, ?_, hJx4⟩⟩
        rw [← pairF_take]; exact List.take_prefix _ _
    · have hkk : ys.take k = ys := List.take_of_length_le (by omega)
      rw [hkk] at hJk
      clear hkk
      gi_wp2
      go_end0
      exact ⟨⟨_, rfl⟩, χ1, fun b hb => HS.out.ag b hb, HS.out.ch, .inl ⟨trivial, hJk⟩⟩
end Go.Proofs.Ytddpnldgfdooiaa
