import Derived.Test.YtjlkkbjolfhobaaDoorArX
namespace Go.Proofs.YtjlkkbjolfhobaaDoor
open Go.RowKit
attribute [local go_sem] World.cell?_alloc_some frozen_alloc_some

/-- the boxes of a round. -/
structure BoxF (wr : World) (x lo hi : Nat) (pl ph : Int) (g9 g10 : Nat) (W : World) : Prop where
  bel : Below wr.heap.size wr W
  c0 : W.cell? ⟨wr.heap.size, 0, none⟩ = some (.int .i64 x)
  c1 : W.cell? ⟨wr.heap.size, 1, none⟩ = some (.int .u32 lo)
  c2 : W.cell? ⟨wr.heap.size, 2, none⟩ = some (.int .u32 hi)
  d0 : W.cell? ⟨wr.heap.size + 1, 0, none⟩ = some (.int .i64 x)
  d1 : W.cell? ⟨wr.heap.size + 1, 1, none⟩ = some (.int .u32 lo)
  e0 : W.cell? ⟨wr.heap.size + 1 + 1, 0, none⟩ = some (.int .i64 x)
  e1 : W.cell? ⟨wr.heap.size + 1 + 1, 1, none⟩ = some (.int .u32 hi)
  f0 : W.cell? ⟨g9, 0, none⟩ = some (.int .i64 x)
  f1 : W.cell? ⟨g9, 1, none⟩ = some (.int .u32 pl)
  g0 : W.cell? ⟨g10, 0, none⟩ = some (.int .i64 x)
  g1 : W.cell? ⟨g10, 1, none⟩ = some (.int .u32 ph)
structure BoxG (wr : World) (x lo hi : Nat) (g9 g10 : Nat) (W : World) : Prop where
  box : BoxF wr x lo hi lo hi g9 g10 W
  n9 : wr.heap.size + 1 + 1 < g9
  n10 : wr.heap.size + 1 + 1 < g10
  ne : g9 ≠ g10
  z9 : W.frozen? ⟨g9, 1, none⟩ = false
  z10 : W.frozen? ⟨g10, 1, none⟩ = false
theorem set_far {W : World} {b o g : Nat} {v u : Value} (hne : b ≠ g ∨ o ≠ 1) (h : W.cell? ⟨b, o, none⟩ = some u) : (W.setCell ⟨g, 1, none⟩ v).cell? ⟨b, o, none⟩ = some u :=
  (World.cell?_setCell_other _ _ _ _ (by intro e; injection e with e1 e2; omega)).trans h
theorem below_set {n : Nat} {w W : World} {g : Nat} {v : Value} (h : Below n w W) (hg : n ≤ g) : Below n w (W.setCell ⟨g, 1, none⟩ v) :=
  ⟨h.os, h.tape, h.output, by simp [World.setCell]; exact h.size, fun b hb => (Below.heap_setCell _ _ _ _ (by show b ≠ g; omega)).trans (h.block b hb)⟩
theorem boxes_set {wr W : World} {x lo hi g9 g10 : Nat} (h : BoxG wr x lo hi g9 g10 W) (pl ph : Int) : BoxF wr x lo hi pl ph g9 g10 ((W.setCell ⟨g9, 1, none⟩ (.int .u32 pl)).setCell ⟨g10, 1, none⟩ (.int .u32 ph)) := by
  obtain ⟨b, n9, n10, ne, -, -⟩ := h
  exact ⟨below_set (below_set b.bel (by omega)) (by omega), set_far (by omega) (set_far (by omega) b.c0), set_far (by omega) (set_far (by omega) b.c1), set_far (by omega) (set_far (by omega) b.c2),
    set_far (by omega) (set_far (by omega) b.d0), set_far (by omega) (set_far (by omega) b.d1), set_far (by omega) (set_far (by omega) b.e0), set_far (by omega) (set_far (by omega) b.e1),
    set_far (by omega) (set_far (by omega) b.f0), set_far (by omega) (World.cell?_setCell_same _ _ _ b.f1), set_far (by omega) (set_far (by omega) b.g0), World.cell?_setCell_same _ _ _ (set_far (by omega) b.g1)⟩
theorem keep_cell {W W' : World} {a : Addr} {v : Value} (hb : Below W.heap.size W W') (h : W.cell? a = some v) : W'.cell? a = some v := (hb.cell (World.block_lt_of_cell? _ _ h)).trans h
theorem mono_at {a : Ar} {cl : List (Nat × Sp)} (h : cl = cellsL a) (i j : Nat) (hi : i < cl.length) (hj : j < cl.length) (hij : i < j) : (cl[i]).1 ≤ (cl[j]).1 := by
  subst h; exact cells_mono a i j hi hj hij
theorem step_at {a u : Ar} {cl : List (Nat × Sp)} (h : cl = cellsL a) (wa : ∀ l ∈ a, WfS l) {k x mk : Nat} {s : Sp} (hk : k < cl.length) (hx : (x, s) = cl[k]) (hmk : mk = 2 ^ x)
    (hu : IsU (partK cl k) (ofL 16 (bitsN mk) (nf [s])) u) (hl : u.length = max (partK cl k).length (ofL 16 (bitsN mk) (nf [s])).length) (hs : s.1 < 4294967296 ∧ s.2 < 4294967296) : u = partK cl (k + 1) := by
  subst h; exact part_step wa hk hx.symm hmk hu hl hs
theorem nf_one (lo hi : Nat) (hhi : hi < 4294967296) (hlo : lo ≤ hi) : (nf [(lo, hi)]).length ≤ 1 := nf_len (l := [(lo, hi)]) fun s hs => by simp at hs; subst hs; exact ⟨by show lo < _; omega, hhi⟩
theorem take1 {P : Program} {md : Region.Mode} {ops : Array Oper} {Q : Exit → Act → World → Prop} {S : World → Prop} {i : Nat} {oi : Oper} {v : Value} {fuel : Nat} {listed : Array Bool} {a : Act} {w : World} (d : Option Nat) (hi : ops[i]? = some oi) (hd : oi.dst = d)
    (hs : Region.noSelect ops = true) (hf : Region.free md ops listed i = true) (hr : (Region.ready md ops listed).contains i = true)
    (hQ : ∀ c a w, Q (.panic c) (a.put d v) w → Q (.panic c) a w) (hy : YieldsIf P ops S oi v a) (hS : S w)
    (h : wpAnyH P md ops Q S fuel (listed.setIfInBounds i true) (a.put d v) w) : wpAnyH P md ops Q S (fuel + 1) listed a w := by
  subst hd; exact wpAnyH_take hi hs hf hr hQ hy hS h
theorem cut_with {T G : Prop} (pf : T) (main : T → G) : G := main pf
theorem alloc_cell (W : World) (o : Obj) {b : Nat} {off : Nat} {v : Value} (h : W.cell? ⟨b, off, none⟩ = some v) : (W.alloc o).cell? ⟨b, off, none⟩ = some v :=
  (World.cell?_of_block (Below.heap_alloc W o _ (World.block_lt_of_cell? W _ h))).trans h
theorem boxes5 (wr : World) (x lo hi : Nat) (q1 q2 : Int) :
    let W := (((((wr.alloc (.cells #[.int .i64 x, .int .u32 lo, .int .u32 hi] 39)).alloc (.cells #[.int .i64 x, .int .u32 lo] 25)).alloc (.cells #[.int .i64 x, .int .u32 hi] 25)).alloc (.cells #[.int .i64 x, .int .u32 q1] 25)).alloc (.cells #[.int .i64 x, .int .u32 q2] 25)).drew
    Below wr.heap.size wr W ∧ (W.cell? ⟨wr.heap.size, 0, none⟩ = some (.int .i64 x) ∧ W.cell? ⟨wr.heap.size, 1, none⟩ = some (.int .u32 lo) ∧ W.cell? ⟨wr.heap.size, 2, none⟩ = some (.int .u32 hi)) ∧
      (W.cell? ⟨wr.heap.size + 1, 0, none⟩ = some (.int .i64 x) ∧ W.cell? ⟨wr.heap.size + 1, 1, none⟩ = some (.int .u32 lo)) ∧ (W.cell? ⟨wr.heap.size + 1 + 1, 0, none⟩ = some (.int .i64 x) ∧ W.cell? ⟨wr.heap.size + 1 + 1, 1, none⟩ = some (.int .u32 hi)) ∧
      (W.cell? ⟨wr.heap.size + 1 + 1 + 1, 0, none⟩ = some (.int .i64 x) ∧ W.cell? ⟨wr.heap.size + 1 + 1 + 1, 1, none⟩ = some (.int .u32 q1)) ∧ (W.cell? ⟨wr.heap.size + 1 + 1 + 1 + 1, 0, none⟩ = some (.int .i64 x) ∧ W.cell? ⟨wr.heap.size + 1 + 1 + 1 + 1, 1, none⟩ = some (.int .u32 q2)) := by
  intro W
  have hb := (((((Below.refl wr.heap.size wr).alloc (Nat.le_refl _) (.cells #[.int .i64 x, .int .u32 lo, .int .u32 hi] 39)).alloc (by simp only [World.size_alloc]; omega) (.cells #[.int .i64 x, .int .u32 lo] 25)).alloc (by simp only [World.size_alloc]; omega) (.cells #[.int .i64 x, .int .u32 hi] 25)).alloc (by simp only [World.size_alloc]; omega) (.cells #[.int .i64 x, .int .u32 q1] 25)).alloc (by simp only [World.size_alloc]; omega) (.cells #[.int .i64 x, .int .u32 q2] 25)
  have c6 := heap_alloc_at wr (.cells #[.int .i64 x, .int .u32 lo, .int .u32 hi] 39)
  have c7 := cells2 (heap_alloc_at (wr.alloc (.cells #[.int .i64 x, .int .u32 lo, .int .u32 hi] 39)) (.cells #[.int .i64 x, .int .u32 lo] 25))
  have c8 := cells2 (heap_alloc_at ((wr.alloc (.cells #[.int .i64 x, .int .u32 lo, .int .u32 hi] 39)).alloc (.cells #[.int .i64 x, .int .u32 lo] 25)) (.cells #[.int .i64 x, .int .u32 hi] 25))
  have c9 := cells2 (heap_alloc_at (((wr.alloc (.cells #[.int .i64 x, .int .u32 lo, .int .u32 hi] 39)).alloc (.cells #[.int .i64 x, .int .u32 lo] 25)).alloc (.cells #[.int .i64 x, .int .u32 hi] 25)) (.cells #[.int .i64 x, .int .u32 q1] 25))
  have c10 := cells2 (heap_alloc_at ((((wr.alloc (.cells #[.int .i64 x, .int .u32 lo, .int .u32 hi] 39)).alloc (.cells #[.int .i64 x, .int .u32 lo] 25)).alloc (.cells #[.int .i64 x, .int .u32 hi] 25)).alloc (.cells #[.int .i64 x, .int .u32 q1] 25)) (.cells #[.int .i64 x, .int .u32 q2] 25))
  have d6 : (wr.alloc (.cells #[.int .i64 x, .int .u32 lo, .int .u32 hi] 39)).cell? ⟨wr.heap.size, 0, none⟩ = some (.int .i64 x) ∧ (wr.alloc (.cells #[.int .i64 x, .int .u32 lo, .int .u32 hi] 39)).cell? ⟨wr.heap.size, 1, none⟩ = some (.int .u32 lo) ∧ (wr.alloc (.cells #[.int .i64 x, .int .u32 lo, .int .u32 hi] 39)).cell? ⟨wr.heap.size, 2, none⟩ = some (.int .u32 hi) := by simp only [World.cell?, c6]; exact ⟨rfl, rfl, rfl⟩
  simp only [World.size_alloc] at c7 c8 c9 c10
  exact ⟨hb.trans (below_drewN _ _ 1), ⟨alloc_cell _ _ (alloc_cell _ _ (alloc_cell _ _ (alloc_cell _ _ d6.1))), alloc_cell _ _ (alloc_cell _ _ (alloc_cell _ _ (alloc_cell _ _ d6.2.1))), alloc_cell _ _ (alloc_cell _ _ (alloc_cell _ _ (alloc_cell _ _ d6.2.2)))⟩,
    ⟨alloc_cell _ _ (alloc_cell _ _ (alloc_cell _ _ c7.1.1)), alloc_cell _ _ (alloc_cell _ _ (alloc_cell _ _ c7.1.2))⟩, ⟨alloc_cell _ _ (alloc_cell _ _ c8.1.1), alloc_cell _ _ (alloc_cell _ _ c8.1.2)⟩, ⟨alloc_cell _ _ c9.1.1, alloc_cell _ _ c9.1.2⟩, c10.1.1, c10.1.2⟩
theorem alloc_froz (W : World) (o : Obj) {b : Nat} {off : Nat} {v : Value} (h : W.cell? ⟨b, off, none⟩ = some v) (hz : W.frozen? ⟨b, off, none⟩ = false) : (W.alloc o).frozen? ⟨b, off, none⟩ = false :=
  (World.frozen?_of_block (Below.heap_alloc W o _ (World.block_lt_of_cell? W _ h))).trans hz
theorem froz5 (wr : World) (x lo hi : Nat) (q1 q2 : Int) :
    let W := (((((wr.alloc (.cells #[.int .i64 x, .int .u32 lo, .int .u32 hi] 39)).alloc (.cells #[.int .i64 x, .int .u32 lo] 25)).alloc (.cells #[.int .i64 x, .int .u32 hi] 25)).alloc (.cells #[.int .i64 x, .int .u32 q1] 25)).alloc (.cells #[.int .i64 x, .int .u32 q2] 25)).drew
    W.frozen? ⟨wr.heap.size + 1 + 1 + 1, 1, none⟩ = false ∧ W.frozen? ⟨wr.heap.size + 1 + 1 + 1 + 1, 1, none⟩ = false := by
  intro W
  have c9 := cells2 (heap_alloc_at (((wr.alloc (.cells #[.int .i64 x, .int .u32 lo, .int .u32 hi] 39)).alloc (.cells #[.int .i64 x, .int .u32 lo] 25)).alloc (.cells #[.int .i64 x, .int .u32 hi] 25)) (.cells #[.int .i64 x, .int .u32 q1] 25))
  have c10 := cells2 (heap_alloc_at ((((wr.alloc (.cells #[.int .i64 x, .int .u32 lo, .int .u32 hi] 39)).alloc (.cells #[.int .i64 x, .int .u32 lo] 25)).alloc (.cells #[.int .i64 x, .int .u32 hi] 25)).alloc (.cells #[.int .i64 x, .int .u32 q1] 25)) (.cells #[.int .i64 x, .int .u32 q2] 25))
  simp only [World.size_alloc] at c9 c10
  exact ⟨alloc_froz _ _ c9.1.2 c9.2.2, c10.2.2⟩
theorem boxes_a (wr : World) (x lo hi : Nat) : BoxG wr x lo hi (wr.heap.size + 1 + 1 + 1) (wr.heap.size + 1 + 1 + 1 + 1) ((((((wr.alloc (.cells #[.int .i64 x, .int .u32 lo, .int .u32 hi] 39)).alloc (.cells #[.int .i64 x, .int .u32 lo] 25)).alloc (.cells #[.int .i64 x, .int .u32 hi] 25)).alloc (.cells #[.int .i64 x, .int .u32 lo] 25)).alloc (.cells #[.int .i64 x, .int .u32 hi] 25)).drew) := by
  obtain ⟨b, ⟨a1, a2, a3⟩, ⟨a4, a5⟩, ⟨a6, a7⟩, ⟨a8, a9⟩, a10, a11⟩ := boxes5 wr x lo hi lo hi
  obtain ⟨z1, z2⟩ := froz5 wr x lo hi lo hi
  exact ⟨⟨b, a1, a2, a3, a4, a5, a6, a7, a8, a9, a10, a11⟩, by omega, by omega, by omega, z1, z2⟩
theorem boxes_b (wr : World) (x lo hi : Nat) : BoxG wr x lo hi (wr.heap.size + 1 + 1 + 1 + 1) (wr.heap.size + 1 + 1 + 1) ((((((wr.alloc (.cells #[.int .i64 x, .int .u32 lo, .int .u32 hi] 39)).alloc (.cells #[.int .i64 x, .int .u32 lo] 25)).alloc (.cells #[.int .i64 x, .int .u32 hi] 25)).alloc (.cells #[.int .i64 x, .int .u32 hi] 25)).alloc (.cells #[.int .i64 x, .int .u32 lo] 25)).drew) := by
  obtain ⟨b, ⟨a1, a2, a3⟩, ⟨a4, a5⟩, ⟨a6, a7⟩, ⟨a8, a9⟩, a10, a11⟩ := boxes5 wr x lo hi hi lo
  obtain ⟨z1, z2⟩ := froz5 wr x lo hi hi lo
  exact ⟨⟨b, a1, a2, a3, a4, a5, a6, a7, a10, a11, a8, a9⟩, by omega, by omega, by omega, z2, z1⟩
set_option maxRecDepth 100000 in
set_option maxHeartbeats 40000000 in
theorem cellsA_law (w : World) (va : Value) (a : Ar) (ha : RdA w va a) (hT : Tab w) :
    Calls Tryd.prog 7 #[va] w fun e w' => e = .returned (.bool true) ∧ Below w.heap.size w w' := by
  obtain ⟨Aa, ca, rfl, ka1, ka2, ka3, -⟩ := id ha
  unfold maxLen at ka2
  have hk63 := ka3.1
  clear ka3
  have HL := Lib.hid (RdAA.nil.cons ha)
  have HT := Lib.hid hT
  clear ha hT
  go_enter Tryd.func7, Tryd.ntmps7
  go_wp2_with fail
  refine (alive_calls _ HT.out).mono ?_
  rintro e W0 ⟨rfl, hb⟩
  replace HL := Lib.hid (HL.out.keep hb)
  replace HT := Lib.hid (HT.out.keep hb)
  have hbw := hb
  clear hb
  cases fa : fewB a with
  | false =>
    go_wp2_with fail
    refine (few_calls _ _ a (HL.out.at_ 0 rfl)).mono ?_
    rw [fa]
    rintro e W0 ⟨rfl, rfl⟩
    go_wp2
    go_ret
    exact ⟨rfl, hbw⟩
  | true =>
  go_wp2_with fail
  refine (few_calls _ _ a (HL.out.at_ 0 rfl)).mono ?_
  rw [fa]
  rintro e W0 ⟨rfl, rfl⟩
  by_cases h16 : 16 < a.length
  · clear fa
    go_wp2
    go_ret
    exact ⟨rfl, hbw⟩
  have S_a : Hid (Sm 20 a) := (fewB_iff.1 fa).1
  have W_a := Lib.hid (rdA_wf (HL.out.at_ 0 rfl : RdA W0 _ a))
  have hcl : (cellsL a).length ≤ 400 := Nat.le_trans (cellsTo_len W_a.out S_a.out a.length) (by omega)
  clear fa
  obtain ⟨cl, hcle⟩ : ∃ cl, cl = cellsL a := ⟨_, rfl⟩
  have HCL := Lib.hid hcle
  rw [← hcle] at hcl
  clear hcle
  go_wp2_with fail
  refine (lcells_calls _ _ a 10000 (HL.out.at_ 0 rfl) (S_a.out.mono (by omega)) (by rw [← HCL.out]; omega)).mono ?_
  rw [← HCL.out, show (10000 : Int).toNat = 10000 by rfl, List.take_of_length_le (by omega)]
  rintro e W1 ⟨ul, rfl, IC, hb⟩
  have RC := Lib.hid (RdC.of_own IC.1 (by omega))
  obtain ⟨Al, capl, rfl⟩ := owns_form IC.1
  replace HL := Lib.hid (HL.out.keep hb)
  replace HT := Lib.hid (HT.out.keep hb)
  replace hbw := hbw.trans (hb.mono hbw.size)
  clear IC hb
  have hcap : cl.length ≤ capl ∧ capl ≤ 9223372036854775807 := by
    obtain ⟨A2, c2, e2, k1, k2, -⟩ := RC.out
    cases e2; exact ⟨k1, k2⟩
  obtain ⟨hcap1, hcap2⟩ := hcap
  go_wp2
  go_loopw [4, 25] (fun wh i wr => ∃ k : Nat, k ≤ cl.length ∧ i = .int .i64 k ∧ Hid (RdA wr wh (partK cl k)) ∧ Below W1.heap.size W1 wr) (fun _ i _ => cl.length - (intOf i).toNat)
  case atStart => exact ⟨0, by omega, rfl, RdA.nil, Below.refl _ _⟩
  case round =>
    obtain ⟨k, hk, rfl, RW, hbr⟩ := hrel
    obtain ⟨Aw, cw, rfl, -⟩ := id RW.out
    by_cases hlt : k < cl.length
    · have RCr := RC.out.keep hbr
      obtain ⟨gl, ol, rfl, p0, p1, p2⟩ := RCr.get k hlt
      obtain ⟨⟨x, lo, hi⟩, hx⟩ : ∃ x, x = cl[k] := ⟨_, rfl⟩
      rw [← hx] at p0 p1 p2
      have HX := Lib.hid hx
      have HRC := Lib.hid RCr
      clear hx RCr
      obtain ⟨hlo, hhi, hx16, hi1, hi2, hi3, hi4⟩ : lo ≤ hi ∧ hi < 4294967296 ∧ x < a.length ∧ inA a x lo = true ∧ inA a x hi = true ∧ (0 < lo → inA a x (lo - 1) = false) ∧ (hi < 4294967295 → inA a x (hi + 1) = false) := cell_law W_a.out (by rw [HX.out, ← HCL.out]; exact List.getElem_mem _)
      have HII : Hid (inA a x lo = true ∧ inA a x hi = true ∧ (∀ {pl}, 0 < lo → pl = lo - 1 → inA a x pl = false) ∧ (∀ {ph}, hi < 4294967295 → ph = hi + 1 → inA a x ph = false)) := ⟨hi1, hi2, fun h e => by rw [e]; exact hi3 h, fun h e => by rw [e]; exact hi4 h⟩
      have HMON : Hid (∀ h : 0 < k, (cl[k - 1]'(by omega)).1 ≤ x) := fun h => by
        have hm := mono_at HCL.out (k - 1) k (by omega) hlt (by omega)
        rw [← HX.out] at hm
        exact hm
      clear hi1 hi2 hi3 hi4
      go_wp2
      apply cut_with
      case main =>
        intro key
        go_region
        · have hF := boxes_a wr x lo hi
          generalize wr.heap.size + 1 + 1 + 1 + 1 = g10 at hF ⊢
          generalize wr.heap.size + 1 + 1 + 1 = g9 at hF ⊢
          generalize (((((wr.alloc (.cells #[.int .i64 x, .int .u32 lo, .int .u32 hi] 39)).alloc (.cells #[.int .i64 x, .int .u32 lo] 25)).alloc (.cells #[.int .i64 x, .int .u32 hi] 25)).alloc (.cells #[.int .i64 x, .int .u32 lo] 25)).alloc (.cells #[.int .i64 x, .int .u32 hi] 25)).drew = W2 at hF ⊢
          revert hF; revert W2; revert g10; revert g9
          exact key
        · have hF := boxes_b wr x lo hi
          generalize wr.heap.size + 1 + 1 + 1 + 1 = g9 at hF ⊢
          generalize wr.heap.size + 1 + 1 + 1 = g10 at hF ⊢
          generalize (((((wr.alloc (.cells #[.int .i64 x, .int .u32 lo, .int .u32 hi] 39)).alloc (.cells #[.int .i64 x, .int .u32 lo] 25)).alloc (.cells #[.int .i64 x, .int .u32 hi] 25)).alloc (.cells #[.int .i64 x, .int .u32 hi] 25)).alloc (.cells #[.int .i64 x, .int .u32 lo] 25)).drew = W2 at hF ⊢
          revert hF; revert W2; revert g10; revert g9
          exact key
      case pf =>
        intro g9 g10 W2 hF
        have z9 := hF.z9
        have z10 := hF.z10
        have f1 := hF.box.f1
        have g1 := hF.box.g1
        have hne := hF.ne
        go_wp2
        have hX := boxes_set hF (((lo : Int) - 1) % 4294967296) (((hi : Int) + 1) % 4294967296)
        obtain ⟨W3, hW3⟩ : ∃ W3, W3 = (W2.setCell ⟨g9, 1, none⟩ (.int .u32 (((lo : Int) - 1) % 4294967296))).setCell ⟨g10, 1, none⟩ (.int .u32 (((hi : Int) + 1) % 4294967296)) := ⟨_, rfl⟩
        rw [← hW3] at hX ⊢
        clear hW3 hF z9 z10 f1 g1 hne
        obtain ⟨pl, hpl, hpl2⟩ : ∃ pl : Nat, ((lo : Int) - 1) % 4294967296 = (pl : Int) ∧ (0 < lo → pl = lo - 1) := ⟨(((lo : Int) - 1) % 4294967296).toNat, by omega, by omega⟩
        obtain ⟨ph, hph, hph2, hph3⟩ : ∃ ph : Nat, ((hi : Int) + 1) % 4294967296 = (ph : Int) ∧ (hi < 4294967295 → ph = hi + 1) ∧ (hi = 4294967295 → ph = 0) := ⟨(((hi : Int) + 1) % 4294967296).toNat, by omega, by omega, by omega⟩
        rw [hpl, hph] at hX ⊢
        clear hpl hph
        have hb3 := hbr.trans (hX.bel.mono hbr.size)
        have HL3 := Lib.hid (HL.out.keep hb3)
        have HRC3 := Lib.hid (RC.out.keep hb3)
        have HT3 := Lib.hid (HT.out.keep hb3)
        have RW3 := Lib.hid (RW.out.keep hX.bel)
        obtain ⟨HI1, HI2, HI3, HI4⟩ := HII.out
        have HI1 := Lib.hid HI1
        have HI2 := Lib.hid HI2
        have kA : decide (hi < lo) = false := by simp; omega
        have hbox := Lib.hid hX
        have hx16b : x < 16 := by omega
        have hself := Lib.hid (Below.refl W3.heap.size W3)
        have hbw3 := Lib.hid (hbw.trans (hb3.mono hbw.size))
        by_cases hl0 : 0 < lo
        · by_cases hhm : hi < 4294967295
          · by_cases hk0 : 0 < k
            · skip
              have kB : decide (0 < lo) = true := by simp; omega
              have kC : decide (0 < ph) = true := by simp; omega
              have kD : decide (0 < k) = true := by simp; omega
              obtain ⟨gl2, ol2, hgl, l0, -, -⟩ := HRC3.out.get (k - 1) (by omega)
              cases hgl
              obtain ⟨x2, hx2⟩ : ∃ x2, x2 = (cl[k - 1]'(by omega)).1 := ⟨_, rfl⟩
              have hx2le : x2 ≤ x := by rw [hx2]; exact HMON.out (by omega)
              rw [← hx2] at l0
              have kE : decide (x < x2) = false := by simp; omega
              have hk1 : IntKind.i64.wrap ((k : Int) - 1) = ((k - 1 : Nat) : Int) := by rw [IntKind.wrap_i64]; omega
              have hk2 : k - 1 < cl.length := by omega
              have hk3 : decide ((0 : Int) ≤ ((k - 1 : Nat) : Int)) = true := by simp
              have hk4 : decide (((k - 1 : Nat) : Int) < (cl.length : Int)) = true := by simp; omega
              clear hx2
              obtain ⟨-, c0, c1, c2, d0, d1, e0, e1, f0, f1, g0, g1⟩ := hX
              have k0 : ∀ W', (∃ d, W' = W3.drewN d) → W'.cell? ⟨wr.heap.size, 1, none⟩ = some (.int .u32 lo) ∧ W'.cell? ⟨wr.heap.size, 2, none⟩ = some (.int .u32 hi) ∧ W'.cell? ⟨wr.heap.size, 0, none⟩ = some (.int .i64 x) ∧ W'.cell? ⟨wr.heap.size + 1, 0, none⟩ = some (.int .i64 x) ∧ W'.cell? ⟨wr.heap.size + 1, 1, none⟩ = some (.int .u32 lo) ∧ W'.cell? ⟨wr.heap.size + 1 + 1, 0, none⟩ = some (.int .i64 x) ∧ W'.cell? ⟨wr.heap.size + 1 + 1, 1, none⟩ = some (.int .u32 hi) ∧ W'.cell? ⟨g9, 0, none⟩ = some (.int .i64 x) ∧ W'.cell? ⟨g9, 1, none⟩ = some (.int .u32 pl) ∧ W'.cell? ⟨g10, 0, none⟩ = some (.int .i64 x) ∧ W'.cell? ⟨g10, 1, none⟩ = some (.int .u32 ph) ∧ W'.cell? ⟨gl, ol + (k - 1) * 3, none⟩ = some (.int .i64 x2) := by rintro W' ⟨d, rfl⟩; exact ⟨c1, c2, c0, d0, d1, e0, e1, f0, f1, g0, g1, l0⟩
              have HK : Hid (∀ W W' : World, Below W.heap.size W W' → (W.cell? ⟨wr.heap.size, 1, none⟩ = some (.int .u32 lo) ∧ W.cell? ⟨wr.heap.size, 2, none⟩ = some (.int .u32 hi) ∧ W.cell? ⟨wr.heap.size, 0, none⟩ = some (.int .i64 x) ∧ W.cell? ⟨wr.heap.size + 1, 0, none⟩ = some (.int .i64 x) ∧ W.cell? ⟨wr.heap.size + 1, 1, none⟩ = some (.int .u32 lo) ∧ W.cell? ⟨wr.heap.size + 1 + 1, 0, none⟩ = some (.int .i64 x) ∧ W.cell? ⟨wr.heap.size + 1 + 1, 1, none⟩ = some (.int .u32 hi) ∧ W.cell? ⟨g9, 0, none⟩ = some (.int .i64 x) ∧ W.cell? ⟨g9, 1, none⟩ = some (.int .u32 pl) ∧ W.cell? ⟨g10, 0, none⟩ = some (.int .i64 x) ∧ W.cell? ⟨g10, 1, none⟩ = some (.int .u32 ph) ∧ W.cell? ⟨gl, ol + (k - 1) * 3, none⟩ = some (.int .i64 x2)) → W'.cell? ⟨wr.heap.size, 1, none⟩ = some (.int .u32 lo) ∧ W'.cell? ⟨wr.heap.size, 2, none⟩ = some (.int .u32 hi) ∧ W'.cell? ⟨wr.heap.size, 0, none⟩ = some (.int .i64 x) ∧ W'.cell? ⟨wr.heap.size + 1, 0, none⟩ = some (.int .i64 x) ∧ W'.cell? ⟨wr.heap.size + 1, 1, none⟩ = some (.int .u32 lo) ∧ W'.cell? ⟨wr.heap.size + 1 + 1, 0, none⟩ = some (.int .i64 x) ∧ W'.cell? ⟨wr.heap.size + 1 + 1, 1, none⟩ = some (.int .u32 hi) ∧ W'.cell? ⟨g9, 0, none⟩ = some (.int .i64 x) ∧ W'.cell? ⟨g9, 1, none⟩ = some (.int .u32 pl) ∧ W'.cell? ⟨g10, 0, none⟩ = some (.int .i64 x) ∧ W'.cell? ⟨g10, 1, none⟩ = some (.int .u32 ph) ∧ W'.cell? ⟨gl, ol + (k - 1) * 3, none⟩ = some (.int .i64 x2)) := fun W W' hb ⟨q0, q1, q2, q3, q4, q5, q6, q7, q8, q9, q10, q11⟩ => ⟨keep_cell hb q0, keep_cell hb q1, keep_cell hb q2, keep_cell hb q3, keep_cell hb q4, keep_cell hb q5, keep_cell hb q6, keep_cell hb q7, keep_cell hb q8, keep_cell hb q9, keep_cell hb q10, keep_cell hb q11⟩
              clear c0 c1 c2 d0 d1 e0 e1 f0 f1 g0 g1 l0
              have H1 := Lib.hid HI1.out
              have H2 := Lib.hid HI2.out
              have H3 := Lib.hid (HI3 (by omega) (hpl2 (by omega)))
              have H4 := Lib.hid (HI4 (by omega) (hph2 (by omega)))
              clear HI3 HI4 hpl2 hph2 hph3
              have kS := k0 W3.drew ⟨1, rfl⟩
              refine wp_region_noPanic ?_
              refine wp_region_held_drew (S := fun W' => W'.cell? ⟨wr.heap.size, 1, none⟩ = some (.int .u32 lo) ∧ W'.cell? ⟨wr.heap.size, 2, none⟩ = some (.int .u32 hi) ∧ W'.cell? ⟨wr.heap.size, 0, none⟩ = some (.int .i64 x) ∧ W'.cell? ⟨wr.heap.size + 1, 0, none⟩ = some (.int .i64 x) ∧ W'.cell? ⟨wr.heap.size + 1, 1, none⟩ = some (.int .u32 lo) ∧ W'.cell? ⟨wr.heap.size + 1 + 1, 0, none⟩ = some (.int .i64 x) ∧ W'.cell? ⟨wr.heap.size + 1 + 1, 1, none⟩ = some (.int .u32 hi) ∧ W'.cell? ⟨g9, 0, none⟩ = some (.int .i64 x) ∧ W'.cell? ⟨g9, 1, none⟩ = some (.int .u32 pl) ∧ W'.cell? ⟨g10, 0, none⟩ = some (.int .i64 x) ∧ W'.cell? ⟨g10, 1, none⟩ = some (.int .u32 ph) ∧ W'.cell? ⟨gl, ol + (k - 1) * 3, none⟩ = some (.int .i64 x2)) (by kernel_rfl) kS (fun hHeld => ?_)
              clear kS
              refine take1 (i := 0) (v := ?v0a) (some 52) rfl rfl (by kernel_rfl) (by kernel_rfl) (by kernel_rfl) (fun _ _ _ h => h) (Or.inl ⟨by rfl, ?h0a⟩) (by assumption) ?r0a
              case h0a => intro w hSw; (try dsimp only at hSw); go_simp; first | done | with_reducible rfl
              try simp only [Act.put, List.setIfInBounds_toArray, List.set_cons_zero, List.set_cons_succ]
              refine take1 (i := 1) (v := ?v1a) (some 53) rfl rfl (by kernel_rfl) (by kernel_rfl) (by kernel_rfl) (fun _ _ _ h => h) (Or.inl ⟨by rfl, ?h1a⟩) (by assumption) ?r1a
              case h1a => intro w hSw; (try dsimp only at hSw); go_simp; first | done | with_reducible rfl
              try simp only [Act.put, List.setIfInBounds_toArray, List.set_cons_zero, List.set_cons_succ]
              refine take1 (i := 2) (v := ?v2a) (some 54) rfl rfl (by kernel_rfl) (by kernel_rfl) (by kernel_rfl) (fun _ _ _ h => h) (Or.inl ⟨by rfl, ?h2a⟩) (by assumption) ?r2a
              case h2a => intro w hSw; (try dsimp only at hSw); go_simp; first | done | with_reducible rfl
              try simp only [Act.put, List.setIfInBounds_toArray, List.set_cons_zero, List.set_cons_succ]
              refine take1 (i := 3) (v := ?v3a) (some 55) rfl rfl (by kernel_rfl) (by kernel_rfl) (by kernel_rfl) (fun _ _ _ h => h) (Or.inl ⟨by rfl, ?h3a⟩) (by assumption) ?r3a
              case h3a => intro w hSw; (try dsimp only at hSw); go_simp; first | done | with_reducible rfl
              try simp only [Act.put, List.setIfInBounds_toArray, List.set_cons_zero, List.set_cons_succ]
              refine take1 (i := 4) (v := ?v4a) (some 56) rfl rfl (by kernel_rfl) (by kernel_rfl) (by kernel_rfl) (fun _ _ _ h => h) (Or.inl ⟨by rfl, ?h4a⟩) (by assumption) ?r4a
              case h4a => intro w hSw; (try dsimp only at hSw); go_simp; first | done | with_reducible rfl
              try simp only [Act.put, List.setIfInBounds_toArray, List.set_cons_zero, List.set_cons_succ]
              refine take1 (i := 5) (v := ?v5a) (some 57) rfl rfl (by kernel_rfl) (by kernel_rfl) (by kernel_rfl) (fun _ _ _ h => h) (Or.inl ⟨by rfl, ?h5a⟩) (by assumption) ?r5a
              case h5a => intro w hSw; (try dsimp only at hSw); go_simp; first | done | with_reducible rfl
              try simp only [Act.put, List.setIfInBounds_toArray, List.set_cons_zero, List.set_cons_succ]
              refine take1 (i := 6) (v := ?v6a) (some 58) rfl rfl (by kernel_rfl) (by kernel_rfl) (by kernel_rfl) (fun _ _ _ h => h) (Or.inl ⟨by rfl, ?h6a⟩) (by assumption) ?r6a
              case h6a => intro w hSw; (try dsimp only at hSw); go_simp; first | done | with_reducible rfl
              try simp only [Act.put, List.setIfInBounds_toArray, List.set_cons_zero, List.set_cons_succ]
              refine take1 (i := 7) (v := ?v7a) (some 59) rfl rfl (by kernel_rfl) (by kernel_rfl) (by kernel_rfl) (fun _ _ _ h => h) (Or.inl ⟨by rfl, ?h7a⟩) (by assumption) ?r7a
              case h7a => intro w hSw; (try dsimp only at hSw); go_simp; first | done | with_reducible rfl
              try simp only [Act.put, List.setIfInBounds_toArray, List.set_cons_zero, List.set_cons_succ]
              refine take1 (i := 8) (v := ?v8a) (some 60) rfl rfl (by kernel_rfl) (by kernel_rfl) (by kernel_rfl) (fun _ _ _ h => h) (Or.inl ⟨by rfl, ?h8a⟩) (by assumption) ?r8a
              case h8a => intro w hSw; (try dsimp only at hSw); go_simp; first | done | with_reducible rfl
              try simp only [Act.put, List.setIfInBounds_toArray, List.set_cons_zero, List.set_cons_succ]
              refine take1 (i := 9) (v := ?v9a) (some 61) rfl rfl (by kernel_rfl) (by kernel_rfl) (by kernel_rfl) (fun _ _ _ h => h) (Or.inl ⟨by rfl, ?h9a⟩) (by assumption) ?r9a
              case h9a => intro w hSw; (try dsimp only at hSw); go_simp; first | done | with_reducible rfl
              try simp only [Act.put, List.setIfInBounds_toArray, List.set_cons_zero, List.set_cons_succ]
              refine wpAnyH_ready (rs := [10]) (by kernel_rfl) (by simp) ?_
              refine AllReadyH.cons rfl (fun K hK => ?_) AllReadyH.nil
              simp only [List.getElem_toArray, List.getElem_cons_zero, List.getElem_cons_succ]
              go_simp
              refine (has_b _ _ a x lo _ ((HL3.out.keep (below_drewN _ _ _)).at_ 0 rfl) H1.out).mono ?_
              rintro e X1 ⟨rfl, b1⟩
              have k1 := HK.out _ _ b1 (k0 _ ⟨1, rfl⟩)
              have L1 := Lib.hid ((HL3.out.keep (below_drewN _ _ 1)).keep b1)
              have B1 := Lib.hid ((hself.out.trans (below_drewN _ _ 1)).trans (b1.mono (hself.out.trans (below_drewN _ _ 1)).size))
              go_wp2_with fail
              clear hHeld
              refine hK.out _ _ k1 (fun hHeld => ?_)
              clear hK K
              try simp only [Act.put, List.setIfInBounds_toArray, List.set_cons_zero, List.set_cons_succ]
              refine take1 (i := 11) (v := ?v11a) (some 63) rfl rfl (by kernel_rfl) (by kernel_rfl) (by kernel_rfl) (fun _ _ _ h => h) (Or.inl ⟨by rfl, ?h11a⟩) (by assumption) ?r11a
              case h11a => intro w hSw; (try dsimp only at hSw); go_simp; first | done | with_reducible rfl
              try simp only [Act.put, List.setIfInBounds_toArray, List.set_cons_zero, List.set_cons_succ]
              refine take1 (i := 12) (v := ?v12a) (some 64) rfl rfl (by kernel_rfl) (by kernel_rfl) (by kernel_rfl) (fun _ _ _ h => h) (Or.inl ⟨by rfl, ?h12a⟩) (by assumption) ?r12a
              case h12a => intro w hSw; (try dsimp only at hSw); go_simp; first | done | with_reducible rfl
              try simp only [Act.put, List.setIfInBounds_toArray, List.set_cons_zero, List.set_cons_succ]
              refine take1 (i := 13) (v := ?v13a) (some 65) rfl rfl (by kernel_rfl) (by kernel_rfl) (by kernel_rfl) (fun _ _ _ h => h) (Or.inl ⟨by rfl, ?h13a⟩) (by assumption) ?r13a
              case h13a => intro w hSw; (try dsimp only at hSw); go_simp; first | done | with_reducible rfl
              try simp only [Act.put, List.setIfInBounds_toArray, List.set_cons_zero, List.set_cons_succ]
              refine take1 (i := 14) (v := ?v14a) (some 66) rfl rfl (by kernel_rfl) (by kernel_rfl) (by kernel_rfl) (fun _ _ _ h => h) (Or.inl ⟨by rfl, ?h14a⟩) (by assumption) ?r14a
              case h14a => intro w hSw; (try dsimp only at hSw); go_simp; first | done | with_reducible rfl
              try simp only [Act.put, List.setIfInBounds_toArray, List.set_cons_zero, List.set_cons_succ]
              refine take1 (i := 15) (v := ?v15a) (some 67) rfl rfl (by kernel_rfl) (by kernel_rfl) (by kernel_rfl) (fun _ _ _ h => h) (Or.inl ⟨by rfl, ?h15a⟩) (by assumption) ?r15a
              case h15a => intro w hSw; (try dsimp only at hSw); go_simp; first | done | with_reducible rfl
              try simp only [Act.put, List.setIfInBounds_toArray, List.set_cons_zero, List.set_cons_succ]
              refine wpAnyH_ready (rs := [16]) (by kernel_rfl) (by simp) ?_
              refine AllReadyH.cons rfl (fun K hK => ?_) AllReadyH.nil
              simp only [List.getElem_toArray, List.getElem_cons_zero, List.getElem_cons_succ]
              go_simp
              refine (has_b _ _ a x hi _ (L1.out.at_ 0 rfl) H2.out).mono ?_
              rintro e X2 ⟨rfl, b2⟩
              have k2 := HK.out _ _ b2 k1
              have L2 := Lib.hid (L1.out.keep b2)
              have B2 := Lib.hid (B1.out.trans (b2.mono B1.out.size))
              go_wp2_with fail
              clear hHeld
              refine hK.out _ _ k2 (fun hHeld => ?_)
              clear hK K
              try simp only [Act.put, List.setIfInBounds_toArray, List.set_cons_zero, List.set_cons_succ]
              refine take1 (i := 17) (v := ?v17a) (some 69) rfl rfl (by kernel_rfl) (by kernel_rfl) (by kernel_rfl) (fun _ _ _ h => h) (Or.inl ⟨by rfl, ?h17a⟩) (by assumption) ?r17a
              case h17a => intro w hSw; (try dsimp only at hSw); go_simp; first | done | with_reducible rfl
              try simp only [Act.put, List.setIfInBounds_toArray, List.set_cons_zero, List.set_cons_succ]
              refine take1 (i := 18) (v := ?v18a) (some 70) rfl rfl (by kernel_rfl) (by kernel_rfl) (by kernel_rfl) (fun _ _ _ h => h) (Or.inl ⟨by rfl, ?h18a⟩) (by assumption) ?r18a
              case h18a => intro w hSw; (try dsimp only at hSw); go_simp; first | done | with_reducible rfl
              try simp only [Act.put, List.setIfInBounds_toArray, List.set_cons_zero, List.set_cons_succ]
              refine take1 (i := 19) (v := ?v19a) (some 71) rfl rfl (by kernel_rfl) (by kernel_rfl) (by kernel_rfl) (fun _ _ _ h => h) (Or.inl ⟨by rfl, ?h19a⟩) (by assumption) ?r19a
              case h19a => intro w hSw; (try dsimp only at hSw); go_simp; first | done | with_reducible rfl
              try simp only [Act.put, List.setIfInBounds_toArray, List.set_cons_zero, List.set_cons_succ]
              refine take1 (i := 20) (v := ?v20a) (some 72) rfl rfl (by kernel_rfl) (by kernel_rfl) (by kernel_rfl) (fun _ _ _ h => h) (Or.inl ⟨by rfl, ?h20a⟩) (by assumption) ?r20a
              case h20a => intro w hSw; (try dsimp only at hSw); go_simp; first | done | with_reducible rfl
              try simp only [Act.put, List.setIfInBounds_toArray, List.set_cons_zero, List.set_cons_succ]
              refine take1 (i := 21) (v := ?v21a) (some 73) rfl rfl (by kernel_rfl) (by kernel_rfl) (by kernel_rfl) (fun _ _ _ h => h) (Or.inl ⟨by rfl, ?h21a⟩) (by assumption) ?r21a
              case h21a => intro w hSw; (try dsimp only at hSw); go_simp; first | done | with_reducible rfl
              try simp only [Act.put, List.setIfInBounds_toArray, List.set_cons_zero, List.set_cons_succ]
              refine take1 (i := 22) (v := ?v22a) (some 74) rfl rfl (by kernel_rfl) (by kernel_rfl) (by kernel_rfl) (fun _ _ _ h => h) (Or.inl ⟨by rfl, ?h22a⟩) (by assumption) ?r22a
              case h22a => intro w hSw; (try dsimp only at hSw); go_simp; first | done | with_reducible rfl
              try simp only [Act.put, List.setIfInBounds_toArray, List.set_cons_zero, List.set_cons_succ]
              refine take1 (i := 23) (v := ?v23a) (some 75) rfl rfl (by kernel_rfl) (by kernel_rfl) (by kernel_rfl) (fun _ _ _ h => h) (Or.inl ⟨by rfl, ?h23a⟩) (by assumption) ?r23a
              case h23a => intro w hSw; (try dsimp only at hSw); go_simp; first | done | with_reducible rfl
              try simp only [Act.put, List.setIfInBounds_toArray, List.set_cons_zero, List.set_cons_succ]
              refine take1 (i := 24) (v := ?v24a) (some 76) rfl rfl (by kernel_rfl) (by kernel_rfl) (by kernel_rfl) (fun _ _ _ h => h) (Or.inl ⟨by rfl, ?h24a⟩) (by assumption) ?r24a
              case h24a => intro w hSw; (try dsimp only at hSw); go_simp; first | done | with_reducible rfl
              try simp only [Act.put, List.setIfInBounds_toArray, List.set_cons_zero, List.set_cons_succ]
              refine take1 (i := 25) (v := ?v25a) (some 77) rfl rfl (by kernel_rfl) (by kernel_rfl) (by kernel_rfl) (fun _ _ _ h => h) (Or.inl ⟨by rfl, ?h25a⟩) (by assumption) ?r25a
              case h25a => intro w hSw; (try dsimp only at hSw); go_simp; first | done | with_reducible rfl
              try simp only [Act.put, List.setIfInBounds_toArray, List.set_cons_zero, List.set_cons_succ]
              refine wpAnyH_ready (rs := [26]) (by kernel_rfl) (by simp) ?_
              refine AllReadyH.cons rfl (fun K hK => ?_) AllReadyH.nil
              simp only [List.getElem_toArray, List.getElem_cons_zero, List.getElem_cons_succ]
              go_simp
              refine (has_b _ _ a x pl _ (L2.out.at_ 0 rfl) H3.out).mono ?_
              rintro e X3 ⟨rfl, b3⟩
              have k3 := HK.out _ _ b3 k2
              have L3 := Lib.hid (L2.out.keep b3)
              have B3 := Lib.hid (B2.out.trans (b3.mono B2.out.size))
              go_wp2_with fail
              clear hHeld
              refine hK.out _ _ k3 (fun hHeld => ?_)
              clear hK K
              try simp only [Act.put, List.setIfInBounds_toArray, List.set_cons_zero, List.set_cons_succ]
              refine take1 (i := 27) (v := ?v27a) (some 79) rfl rfl (by kernel_rfl) (by kernel_rfl) (by kernel_rfl) (fun _ _ _ h => h) (Or.inl ⟨by rfl, ?h27a⟩) (by assumption) ?r27a
              case h27a => intro w hSw; (try dsimp only at hSw); go_simp; first | done | with_reducible rfl
              try simp only [Act.put, List.setIfInBounds_toArray, List.set_cons_zero, List.set_cons_succ]
              refine take1 (i := 28) (v := ?v28a) (some 80) rfl rfl (by kernel_rfl) (by kernel_rfl) (by kernel_rfl) (fun _ _ _ h => h) (Or.inl ⟨by rfl, ?h28a⟩) (by assumption) ?r28a
              case h28a => intro w hSw; (try dsimp only at hSw); go_simp; first | done | with_reducible rfl
              try simp only [Act.put, List.setIfInBounds_toArray, List.set_cons_zero, List.set_cons_succ]
              refine take1 (i := 29) (v := ?v29a) (some 81) rfl rfl (by kernel_rfl) (by kernel_rfl) (by kernel_rfl) (fun _ _ _ h => h) (Or.inl ⟨by rfl, ?h29a⟩) (by assumption) ?r29a
              case h29a => intro w hSw; (try dsimp only at hSw); go_simp; first | done | with_reducible rfl
              try simp only [Act.put, List.setIfInBounds_toArray, List.set_cons_zero, List.set_cons_succ]
              refine take1 (i := 30) (v := ?v30a) (some 82) rfl rfl (by kernel_rfl) (by kernel_rfl) (by kernel_rfl) (fun _ _ _ h => h) (Or.inl ⟨by rfl, ?h30a⟩) (by assumption) ?r30a
              case h30a => intro w hSw; (try dsimp only at hSw); go_simp; first | done | with_reducible rfl
              try simp only [Act.put, List.setIfInBounds_toArray, List.set_cons_zero, List.set_cons_succ]
              refine take1 (i := 31) (v := ?v31a) (some 83) rfl rfl (by kernel_rfl) (by kernel_rfl) (by kernel_rfl) (fun _ _ _ h => h) (Or.inl ⟨by rfl, ?h31a⟩) (by assumption) ?r31a
              case h31a => intro w hSw; (try dsimp only at hSw); go_simp; first | done | with_reducible rfl
              try simp only [Act.put, List.setIfInBounds_toArray, List.set_cons_zero, List.set_cons_succ]
              refine take1 (i := 32) (v := ?v32a) (some 84) rfl rfl (by kernel_rfl) (by kernel_rfl) (by kernel_rfl) (fun _ _ _ h => h) (Or.inl ⟨by rfl, ?h32a⟩) (by assumption) ?r32a
              case h32a => intro w hSw; (try dsimp only at hSw); go_simp; first | done | with_reducible rfl
              try simp only [Act.put, List.setIfInBounds_toArray, List.set_cons_zero, List.set_cons_succ]
              refine take1 (i := 33) (v := ?v33a) (some 85) rfl rfl (by kernel_rfl) (by kernel_rfl) (by kernel_rfl) (fun _ _ _ h => h) (Or.inl ⟨by rfl, ?h33a⟩) (by assumption) ?r33a
              case h33a => intro w hSw; (try dsimp only at hSw); go_simp; first | done | with_reducible rfl
              try simp only [Act.put, List.setIfInBounds_toArray, List.set_cons_zero, List.set_cons_succ]
              refine take1 (i := 34) (v := ?v34a) (some 86) rfl rfl (by kernel_rfl) (by kernel_rfl) (by kernel_rfl) (fun _ _ _ h => h) (Or.inl ⟨by rfl, ?h34a⟩) (by assumption) ?r34a
              case h34a => intro w hSw; (try dsimp only at hSw); go_simp; first | done | with_reducible rfl
              try simp only [Act.put, List.setIfInBounds_toArray, List.set_cons_zero, List.set_cons_succ]
              refine take1 (i := 35) (v := ?v35a) (some 87) rfl rfl (by kernel_rfl) (by kernel_rfl) (by kernel_rfl) (fun _ _ _ h => h) (Or.inl ⟨by rfl, ?h35a⟩) (by assumption) ?r35a
              case h35a => intro w hSw; (try dsimp only at hSw); go_simp; first | done | with_reducible rfl
              try simp only [Act.put, List.setIfInBounds_toArray, List.set_cons_zero, List.set_cons_succ]
              refine wpAnyH_ready (rs := [36]) (by kernel_rfl) (by simp) ?_
              refine AllReadyH.cons rfl (fun K hK => ?_) AllReadyH.nil
              simp only [List.getElem_toArray, List.getElem_cons_zero, List.getElem_cons_succ]
              go_simp
              refine (has_b _ _ a x ph _ (L3.out.at_ 0 rfl) H4.out).mono ?_
              rintro e X4 ⟨rfl, b4⟩
              have k4 := HK.out _ _ b4 k3
              have L4 := Lib.hid (L3.out.keep b4)
              have B4 := Lib.hid (B3.out.trans (b4.mono B3.out.size))
              go_wp2_with fail
              clear hHeld
              refine hK.out _ _ k4 (fun hHeld => ?_)
              clear hK K
              try simp only [Act.put, List.setIfInBounds_toArray, List.set_cons_zero, List.set_cons_succ]
              refine take1 (i := 37) (v := ?v37a) (some 89) rfl rfl (by kernel_rfl) (by kernel_rfl) (by kernel_rfl) (fun _ _ _ h => h) (Or.inl ⟨by rfl, ?h37a⟩) (by assumption) ?r37a
              case h37a => intro w hSw; (try dsimp only at hSw); go_simp; first | done | with_reducible rfl
              try simp only [Act.put, List.setIfInBounds_toArray, List.set_cons_zero, List.set_cons_succ]
              refine take1 (i := 38) (v := ?v38a) (some 90) rfl rfl (by kernel_rfl) (by kernel_rfl) (by kernel_rfl) (fun _ _ _ h => h) (Or.inl ⟨by rfl, ?h38a⟩) (by assumption) ?r38a
              case h38a => intro w hSw; (try dsimp only at hSw); go_simp; first | done | with_reducible rfl
              try simp only [Act.put, List.setIfInBounds_toArray, List.set_cons_zero, List.set_cons_succ]
              refine take1 (i := 39) (v := ?v39a) (some 91) rfl rfl (by kernel_rfl) (by kernel_rfl) (by kernel_rfl) (fun _ _ _ h => h) (Or.inl ⟨by rfl, ?h39a⟩) (by assumption) ?r39a
              case h39a => intro w hSw; (try dsimp only at hSw); go_simp; first | done | with_reducible rfl
              try simp only [Act.put, List.setIfInBounds_toArray, List.set_cons_zero, List.set_cons_succ]
              refine take1 (i := 40) (v := ?v40a) (some 92) rfl rfl (by kernel_rfl) (by kernel_rfl) (by kernel_rfl) (fun _ _ _ h => h) (Or.inl ⟨by rfl, ?h40a⟩) (by assumption) ?r40a
              case h40a => intro w hSw; (try dsimp only at hSw); go_simp; first | done | with_reducible rfl
              try simp only [Act.put, List.setIfInBounds_toArray, List.set_cons_zero, List.set_cons_succ]
              refine take1 (i := 41) (v := ?v41a) (some 93) rfl rfl (by kernel_rfl) (by kernel_rfl) (by kernel_rfl) (fun _ _ _ h => h) (Or.inl ⟨by rfl, ?h41a⟩) (by assumption) ?r41a
              case h41a => intro w hSw; (try dsimp only at hSw); go_simp; first | done | with_reducible rfl
              try simp only [Act.put, List.setIfInBounds_toArray, List.set_cons_zero, List.set_cons_succ]
              refine take1 (i := 42) (v := ?v42a) (some 94) rfl rfl (by kernel_rfl) (by kernel_rfl) (by kernel_rfl) (fun _ _ _ h => h) (Or.inl ⟨by rfl, ?h42a⟩) (by assumption) ?r42a
              case h42a => intro w hSw; (try dsimp only at hSw); go_simp; first | done | with_reducible rfl
              try simp only [Act.put, List.setIfInBounds_toArray, List.set_cons_zero, List.set_cons_succ]
              refine take1 (i := 43) (v := ?v43a) (some 95) rfl rfl (by kernel_rfl) (by kernel_rfl) (by kernel_rfl) (fun _ _ _ h => h) (Or.inl ⟨by rfl, ?h43a⟩) (by assumption) ?r43a
              case h43a => intro w hSw; (try dsimp only at hSw); go_simp; first | done | with_reducible rfl
              try simp only [Act.put, List.setIfInBounds_toArray, List.set_cons_zero, List.set_cons_succ]
              refine take1 (i := 44) (v := ?v44a) (some 96) rfl rfl (by kernel_rfl) (by kernel_rfl) (by kernel_rfl) (fun _ _ _ h => h) (Or.inl ⟨by rfl, ?h44a⟩) (by assumption) ?r44a
              case h44a => intro w hSw; (try dsimp only at hSw); go_simp; first | done | with_reducible rfl
              try simp only [Act.put, List.setIfInBounds_toArray, List.set_cons_zero, List.set_cons_succ]
              refine take1 (i := 45) (v := ?v45a) (some 97) rfl rfl (by kernel_rfl) (by kernel_rfl) (by kernel_rfl) (fun _ _ _ h => h) (Or.inl ⟨by rfl, ?h45a⟩) (by assumption) ?r45a
              case h45a => intro w hSw; (try dsimp only at hSw); go_simp; first | done | with_reducible rfl
              try simp only [Act.put, List.setIfInBounds_toArray, List.set_cons_zero, List.set_cons_succ]
              refine take1 (i := 46) (v := ?v46a) (some 98) rfl rfl (by kernel_rfl) (by kernel_rfl) (by kernel_rfl) (fun _ _ _ h => h) (Or.inl ⟨by rfl, ?h46a⟩) (by assumption) ?r46a
              case h46a => intro w hSw; (try dsimp only at hSw); go_simp; first | done | with_reducible rfl
              try simp only [Act.put, List.setIfInBounds_toArray, List.set_cons_zero, List.set_cons_succ]
              refine take1 (i := 47) (v := ?v47a) (some 99) rfl rfl (by kernel_rfl) (by kernel_rfl) (by kernel_rfl) (fun _ _ _ h => h) (Or.inl ⟨by rfl, ?h47a⟩) (by assumption) ?r47a
              case h47a => intro w hSw; (try dsimp only at hSw); go_simp; first | done | with_reducible rfl
              try simp only [Act.put, List.setIfInBounds_toArray, List.set_cons_zero, List.set_cons_succ]
              refine take1 (i := 48) (v := ?v48a) (some 100) rfl rfl (by kernel_rfl) (by kernel_rfl) (by kernel_rfl) (fun _ _ _ h => h) (Or.inl ⟨by rfl, ?h48a⟩) (by assumption) ?r48a
              case h48a => intro w hSw; (try dsimp only at hSw); go_simp; first | done | with_reducible rfl
              try simp only [Act.put, List.setIfInBounds_toArray, List.set_cons_zero, List.set_cons_succ]
              refine take1 (i := 49) (v := ?v49a) (some 101) rfl rfl (by kernel_rfl) (by kernel_rfl) (by kernel_rfl) (fun _ _ _ h => h) (Or.inl ⟨by rfl, ?h49a⟩) (by assumption) ?r49a
              case h49a => intro w hSw; (try dsimp only at hSw); go_simp; first | done | with_reducible rfl
              try simp only [Act.put, List.setIfInBounds_toArray, List.set_cons_zero, List.set_cons_succ]
              refine take1 (i := 50) (v := ?v50a) (some 102) rfl rfl (by kernel_rfl) (by kernel_rfl) (by kernel_rfl) (fun _ _ _ h => h) (Or.inl ⟨by rfl, ?h50a⟩) (by assumption) ?r50a
              case h50a => intro w hSw; (try dsimp only at hSw); go_simp; first | done | with_reducible rfl
              try simp only [Act.put, List.setIfInBounds_toArray, List.set_cons_zero, List.set_cons_succ]
              refine take1 (i := 51) (v := ?v51a) (some 103) rfl rfl (by kernel_rfl) (by kernel_rfl) (by kernel_rfl) (fun _ _ _ h => h) (Or.inl ⟨by rfl, ?h51a⟩) (by assumption) ?r51a
              case h51a => intro w hSw; (try dsimp only at hSw); go_simp; first | done | with_reducible rfl
              try simp only [Act.put, List.setIfInBounds_toArray, List.set_cons_zero, List.set_cons_succ]
              refine take1 (i := 52) (v := ?v52a) (some 104) rfl rfl (by kernel_rfl) (by kernel_rfl) (by kernel_rfl) (fun _ _ _ h => h) (Or.inl ⟨by rfl, ?h52a⟩) (by assumption) ?r52a
              case h52a => intro w hSw; (try dsimp only at hSw); go_simp; first | done | with_reducible rfl
              try simp only [Act.put, List.setIfInBounds_toArray, List.set_cons_zero, List.set_cons_succ]
              refine take1 (i := 53) (v := ?v53a) (some 105) rfl rfl (by kernel_rfl) (by kernel_rfl) (by kernel_rfl) (fun _ _ _ h => h) (Or.inl ⟨by rfl, ?h53a⟩) (by assumption) ?r53a
              case h53a => intro w hSw; (try dsimp only at hSw); go_simp; first | done | with_reducible rfl
              try simp only [Act.put, List.setIfInBounds_toArray, List.set_cons_zero, List.set_cons_succ]
              refine wpAnyH_done (by kernel_rfl) ?_ _
              refine NoPanic.normal ?_
              clear kA kB kC kD kE hk1 hk2 hk3 hk4 hx2le k0 HK H1 b1 H2 b2 H3 b3 H4 b4
              have HL := Lib.hid L4.out
              have BX := Lib.hid B4.out
              have c0 := k4.2.2.1
              have c1 := k4.1
              have c2 := k4.2.1
              have HTX := Lib.hid (HT3.out.keep BX.out)
              have RWX := Lib.hid (RW3.out.keep BX.out)
              have hbX := Lib.hid (hb3.trans (BX.out.mono hb3.size))
              clear L1 B1 k1 L2 B2 k2 L3 B3 k3 L4 B4 k4
              go_wp2
              obtain ⟨mk, hmk⟩ : ∃ mk : Nat, mk = 2 ^ x := ⟨_, rfl⟩
              have hmk2 : mk < 4294967296 := by rw [hmk]; exact Nat.lt_of_lt_of_le (Nat.pow_lt_pow_right (by omega) hx16b : 2 ^ x < 2 ^ 16) (by omega)
              have hs1 : IntKind.u32.wrap ((2 : Int) ^ min x 32) = (mk : Int) := by rw [Nat.min_eq_left (by omega), show (2 : Int) ^ x = ((mk : Nat) : Int) by rw [hmk]; simp]; show (mk : Int) % 4294967296 = _; omega
              have hs2 : IntKind.u32.wrap ((2 : Int) ^ x) = (mk : Int) := by rw [show (2 : Int) ^ x = ((mk : Nat) : Int) by rw [hmk]; simp]; show (mk : Int) % 4294967296 = _; omega
              have hs3 : (2 : Int) ^ x % 4294967296 = (mk : Int) := by rw [show (2 : Int) ^ x = ((mk : Nat) : Int) by rw [hmk]; simp]; omega
              have HMK := Lib.hid hmk
              clear hmk
              have HBA : Hid (∀ d o, Below X4.heap.size X4 ((X4.drewN d).alloc o)) := fun d o => (below_drewN _ _ d).alloc (by simp) o
              have HSX : Hid (∀ d, RdS ((X4.drewN d).alloc (.cells #[.int .u32 lo, .int .u32 hi] 37)) (.slice (some ⟨X4.heap.size, 0, none⟩) 1 1) [(lo, hi)]) := fun d => rdS_at [(lo, hi)] (heap_alloc_at (X4.drewN d) _) (by intro s hs; simp at hs; subst hs; exact ⟨by omega, hhi⟩) (by simp) 1 rfl
              have HTA : Hid (∀ d o, Tab ((X4.drewN d).alloc o)) := fun d o => HTX.out.keep (HBA.out d o)
              have HRA : Hid (∀ d o, RdA ((X4.drewN d).alloc o) _ (partK cl k)) := fun d o => RWX.out.keep (HBA.out d o)
              have HPS : Hid (Sm 20 (partK cl k)) := by show Sm 20 _; rw [HCL.out]; exact partK_sm W_a.out S_a.out k
              have HPL := Lib.hid (partK_len cl k)
              have cX : ∀ W', (∃ d, W' = X4.drewN d) → W'.cell? ⟨wr.heap.size, 0, none⟩ = some (.int .i64 x) ∧ W'.cell? ⟨wr.heap.size, 1, none⟩ = some (.int .u32 lo) ∧ W'.cell? ⟨wr.heap.size, 2, none⟩ = some (.int .u32 hi) := by rintro W' ⟨d, rfl⟩; exact ⟨c0, c1, c2⟩
              have cA : ∀ W', (∃ d o, W' = (X4.drewN d).alloc o) → W'.cell? ⟨wr.heap.size, 0, none⟩ = some (.int .i64 x) ∧ W'.cell? ⟨wr.heap.size, 1, none⟩ = some (.int .u32 lo) ∧ W'.cell? ⟨wr.heap.size, 2, none⟩ = some (.int .u32 hi) := by rintro W' ⟨d, o, rfl⟩; exact ⟨keep_cell (HBA.out d o) c0, keep_cell (HBA.out d o) c1, keep_cell (HBA.out d o) c2⟩
              clear c0 c1 c2
              first
                | (go_region_held3 (fun W' => W'.cell? ⟨wr.heap.size, 0, none⟩ = some (.int .i64 x) ∧ W'.cell? ⟨wr.heap.size, 1, none⟩ = some (.int .u32 lo) ∧ W'.cell? ⟨wr.heap.size, 2, none⟩ = some (.int .u32 hi))
                    (first | with_reducible exact m2 | with_reducible exact m1 | exact cX _ (by first | exact ⟨_, rfl⟩ | exact drewN_ex _ _ _ | exact drew_ex _ _) | exact cA _ ⟨1, _, rfl⟩)
                    (first
                      | (go_at_call 12; have hS := m1; refine (area_union _ _ _ (partK cl k) (ofL 16 (bitsN mk) (nf [(lo, hi)])) 20 1 RW1.out RO.out (Nat.le_trans HPL.out (by omega)) (by rw [ofL_len]; omega) HPS.out (ofL_sm (nf_one lo hi hhi hlo)) (by omega) (by omega)).mono ?_; rintro e Y2 ⟨v_u, u, rfl, R_u, l_u, h_u, -, b2⟩; obtain ⟨A_u, c_u, rfl, -⟩ := id R_u; have LU := Lib.hid l_u; clear l_u; have m2 : Y2.cell? ⟨wr.heap.size, 0, none⟩ = some (.int .i64 x) ∧ Y2.cell? ⟨wr.heap.size, 1, none⟩ = some (.int .u32 lo) ∧ Y2.cell? ⟨wr.heap.size, 2, none⟩ = some (.int .u32 hi) := ⟨keep_cell b2 m1.1, keep_cell b2 m1.2.1, keep_cell b2 m1.2.2⟩; have BY := Lib.hid (B1.out.trans (b2.mono B1.out.size)))
                      | (go_at_call 15; refine (of_calls _ 16 mk _ [(lo, hi)] (HSX.out _) (by simp) hmk2 (HTA.out _ _)).mono ?_; rw [show (min (max (16 : Int) 0) 16).toNat = 16 by decide]; rintro e Y1 ⟨χo, rfl, O, b1⟩; have RO := O.rd (by rw [ofL_len]; omega); rw [World.size_alloc] at RO; have RO := Lib.hid RO; have m1 : Y1.cell? ⟨wr.heap.size, 0, none⟩ = some (.int .i64 x) ∧ Y1.cell? ⟨wr.heap.size, 1, none⟩ = some (.int .u32 lo) ∧ Y1.cell? ⟨wr.heap.size, 2, none⟩ = some (.int .u32 hi) := ⟨keep_cell b1 (cA _ ⟨1, _, rfl⟩).1, keep_cell b1 (cA _ ⟨1, _, rfl⟩).2.1, keep_cell b1 (cA _ ⟨1, _, rfl⟩).2.2⟩; have RW1 := Lib.hid ((HRA.out _ _).keep b1); have B1 := Lib.hid ((HBA.out _ _).trans (b1.mono (HBA.out _ _).size)))))
              have hu := step_at HCL.out W_a.out hlt HX.out HMK.out h_u LU.out ⟨by show lo < _; omega, hhi⟩
              subst hu
              have hbY := hbX.trans (BY.out.mono hbX.size)
              have RY := Lib.hid R_u
              clear h_u LU m1 m2 RO RW1 B1 R_u hs1 hs2 hs3
              go_wp2
              refine ⟨⟨k + 1, hlt, by go_num, RY, hbY⟩, by simp [intOf]; omega⟩
            · skip
              have kB : decide (0 < lo) = true := by simp; omega
              have kC : decide (0 < ph) = true := by simp; omega
              have kD : decide (0 < k) = false := by simp; omega
              obtain ⟨-, c0, c1, c2, d0, d1, e0, e1, f0, f1, g0, g1⟩ := hX
              have k0 : ∀ W', (∃ d, W' = W3.drewN d) → W'.cell? ⟨wr.heap.size, 1, none⟩ = some (.int .u32 lo) ∧ W'.cell? ⟨wr.heap.size, 2, none⟩ = some (.int .u32 hi) ∧ W'.cell? ⟨wr.heap.size, 0, none⟩ = some (.int .i64 x) ∧ W'.cell? ⟨wr.heap.size + 1, 0, none⟩ = some (.int .i64 x) ∧ W'.cell? ⟨wr.heap.size + 1, 1, none⟩ = some (.int .u32 lo) ∧ W'.cell? ⟨wr.heap.size + 1 + 1, 0, none⟩ = some (.int .i64 x) ∧ W'.cell? ⟨wr.heap.size + 1 + 1, 1, none⟩ = some (.int .u32 hi) ∧ W'.cell? ⟨g9, 0, none⟩ = some (.int .i64 x) ∧ W'.cell? ⟨g9, 1, none⟩ = some (.int .u32 pl) ∧ W'.cell? ⟨g10, 0, none⟩ = some (.int .i64 x) ∧ W'.cell? ⟨g10, 1, none⟩ = some (.int .u32 ph) := by rintro W' ⟨d, rfl⟩; exact ⟨c1, c2, c0, d0, d1, e0, e1, f0, f1, g0, g1⟩
              have HK : Hid (∀ W W' : World, Below W.heap.size W W' → (W.cell? ⟨wr.heap.size, 1, none⟩ = some (.int .u32 lo) ∧ W.cell? ⟨wr.heap.size, 2, none⟩ = some (.int .u32 hi) ∧ W.cell? ⟨wr.heap.size, 0, none⟩ = some (.int .i64 x) ∧ W.cell? ⟨wr.heap.size + 1, 0, none⟩ = some (.int .i64 x) ∧ W.cell? ⟨wr.heap.size + 1, 1, none⟩ = some (.int .u32 lo) ∧ W.cell? ⟨wr.heap.size + 1 + 1, 0, none⟩ = some (.int .i64 x) ∧ W.cell? ⟨wr.heap.size + 1 + 1, 1, none⟩ = some (.int .u32 hi) ∧ W.cell? ⟨g9, 0, none⟩ = some (.int .i64 x) ∧ W.cell? ⟨g9, 1, none⟩ = some (.int .u32 pl) ∧ W.cell? ⟨g10, 0, none⟩ = some (.int .i64 x) ∧ W.cell? ⟨g10, 1, none⟩ = some (.int .u32 ph)) → W'.cell? ⟨wr.heap.size, 1, none⟩ = some (.int .u32 lo) ∧ W'.cell? ⟨wr.heap.size, 2, none⟩ = some (.int .u32 hi) ∧ W'.cell? ⟨wr.heap.size, 0, none⟩ = some (.int .i64 x) ∧ W'.cell? ⟨wr.heap.size + 1, 0, none⟩ = some (.int .i64 x) ∧ W'.cell? ⟨wr.heap.size + 1, 1, none⟩ = some (.int .u32 lo) ∧ W'.cell? ⟨wr.heap.size + 1 + 1, 0, none⟩ = some (.int .i64 x) ∧ W'.cell? ⟨wr.heap.size + 1 + 1, 1, none⟩ = some (.int .u32 hi) ∧ W'.cell? ⟨g9, 0, none⟩ = some (.int .i64 x) ∧ W'.cell? ⟨g9, 1, none⟩ = some (.int .u32 pl) ∧ W'.cell? ⟨g10, 0, none⟩ = some (.int .i64 x) ∧ W'.cell? ⟨g10, 1, none⟩ = some (.int .u32 ph)) := fun W W' hb ⟨q0, q1, q2, q3, q4, q5, q6, q7, q8, q9, q10⟩ => ⟨keep_cell hb q0, keep_cell hb q1, keep_cell hb q2, keep_cell hb q3, keep_cell hb q4, keep_cell hb q5, keep_cell hb q6, keep_cell hb q7, keep_cell hb q8, keep_cell hb q9, keep_cell hb q10⟩
              clear c0 c1 c2 d0 d1 e0 e1 f0 f1 g0 g1
              have H1 := Lib.hid HI1.out
              have H2 := Lib.hid HI2.out
              have H3 := Lib.hid (HI3 (by omega) (hpl2 (by omega)))
              have H4 := Lib.hid (HI4 (by omega) (hph2 (by omega)))
              clear HI3 HI4 hpl2 hph2 hph3
              have kS := k0 W3.drew ⟨1, rfl⟩
              refine wp_region_noPanic ?_
              refine wp_region_held_drew (S := fun W' => W'.cell? ⟨wr.heap.size, 1, none⟩ = some (.int .u32 lo) ∧ W'.cell? ⟨wr.heap.size, 2, none⟩ = some (.int .u32 hi) ∧ W'.cell? ⟨wr.heap.size, 0, none⟩ = some (.int .i64 x) ∧ W'.cell? ⟨wr.heap.size + 1, 0, none⟩ = some (.int .i64 x) ∧ W'.cell? ⟨wr.heap.size + 1, 1, none⟩ = some (.int .u32 lo) ∧ W'.cell? ⟨wr.heap.size + 1 + 1, 0, none⟩ = some (.int .i64 x) ∧ W'.cell? ⟨wr.heap.size + 1 + 1, 1, none⟩ = some (.int .u32 hi) ∧ W'.cell? ⟨g9, 0, none⟩ = some (.int .i64 x) ∧ W'.cell? ⟨g9, 1, none⟩ = some (.int .u32 pl) ∧ W'.cell? ⟨g10, 0, none⟩ = some (.int .i64 x) ∧ W'.cell? ⟨g10, 1, none⟩ = some (.int .u32 ph)) (by kernel_rfl) kS (fun hHeld => ?_)
              clear kS
              refine take1 (i := 0) (v := ?v0b) (some 52) rfl rfl (by kernel_rfl) (by kernel_rfl) (by kernel_rfl) (fun _ _ _ h => h) (Or.inl ⟨by rfl, ?h0b⟩) (by assumption) ?r0b
              case h0b => intro w hSw; (try dsimp only at hSw); go_simp; first | done | with_reducible rfl
              try simp only [Act.put, List.setIfInBounds_toArray, List.set_cons_zero, List.set_cons_succ]
              refine take1 (i := 1) (v := ?v1b) (some 53) rfl rfl (by kernel_rfl) (by kernel_rfl) (by kernel_rfl) (fun _ _ _ h => h) (Or.inl ⟨by rfl, ?h1b⟩) (by assumption) ?r1b
              case h1b => intro w hSw; (try dsimp only at hSw); go_simp; first | done | with_reducible rfl
              try simp only [Act.put, List.setIfInBounds_toArray, List.set_cons_zero, List.set_cons_succ]
              refine take1 (i := 2) (v := ?v2b) (some 54) rfl rfl (by kernel_rfl) (by kernel_rfl) (by kernel_rfl) (fun _ _ _ h => h) (Or.inl ⟨by rfl, ?h2b⟩) (by assumption) ?r2b
              case h2b => intro w hSw; (try dsimp only at hSw); go_simp; first | done | with_reducible rfl
              try simp only [Act.put, List.setIfInBounds_toArray, List.set_cons_zero, List.set_cons_succ]
              refine take1 (i := 3) (v := ?v3b) (some 55) rfl rfl (by kernel_rfl) (by kernel_rfl) (by kernel_rfl) (fun _ _ _ h => h) (Or.inl ⟨by rfl, ?h3b⟩) (by assumption) ?r3b
              case h3b => intro w hSw; (try dsimp only at hSw); go_simp; first | done | with_reducible rfl
              try simp only [Act.put, List.setIfInBounds_toArray, List.set_cons_zero, List.set_cons_succ]
              refine take1 (i := 4) (v := ?v4b) (some 56) rfl rfl (by kernel_rfl) (by kernel_rfl) (by kernel_rfl) (fun _ _ _ h => h) (Or.inl ⟨by rfl, ?h4b⟩) (by assumption) ?r4b
              case h4b => intro w hSw; (try dsimp only at hSw); go_simp; first | done | with_reducible rfl
              try simp only [Act.put, List.setIfInBounds_toArray, List.set_cons_zero, List.set_cons_succ]
              refine take1 (i := 5) (v := ?v5b) (some 57) rfl rfl (by kernel_rfl) (by kernel_rfl) (by kernel_rfl) (fun _ _ _ h => h) (Or.inl ⟨by rfl, ?h5b⟩) (by assumption) ?r5b
              case h5b => intro w hSw; (try dsimp only at hSw); go_simp; first | done | with_reducible rfl
              try simp only [Act.put, List.setIfInBounds_toArray, List.set_cons_zero, List.set_cons_succ]
              refine take1 (i := 6) (v := ?v6b) (some 58) rfl rfl (by kernel_rfl) (by kernel_rfl) (by kernel_rfl) (fun _ _ _ h => h) (Or.inl ⟨by rfl, ?h6b⟩) (by assumption) ?r6b
              case h6b => intro w hSw; (try dsimp only at hSw); go_simp; first | done | with_reducible rfl
              try simp only [Act.put, List.setIfInBounds_toArray, List.set_cons_zero, List.set_cons_succ]
              refine take1 (i := 7) (v := ?v7b) (some 59) rfl rfl (by kernel_rfl) (by kernel_rfl) (by kernel_rfl) (fun _ _ _ h => h) (Or.inl ⟨by rfl, ?h7b⟩) (by assumption) ?r7b
              case h7b => intro w hSw; (try dsimp only at hSw); go_simp; first | done | with_reducible rfl
              try simp only [Act.put, List.setIfInBounds_toArray, List.set_cons_zero, List.set_cons_succ]
              refine take1 (i := 8) (v := ?v8b) (some 60) rfl rfl (by kernel_rfl) (by kernel_rfl) (by kernel_rfl) (fun _ _ _ h => h) (Or.inl ⟨by rfl, ?h8b⟩) (by assumption) ?r8b
              case h8b => intro w hSw; (try dsimp only at hSw); go_simp; first | done | with_reducible rfl
              try simp only [Act.put, List.setIfInBounds_toArray, List.set_cons_zero, List.set_cons_succ]
              refine take1 (i := 9) (v := ?v9b) (some 61) rfl rfl (by kernel_rfl) (by kernel_rfl) (by kernel_rfl) (fun _ _ _ h => h) (Or.inl ⟨by rfl, ?h9b⟩) (by assumption) ?r9b
              case h9b => intro w hSw; (try dsimp only at hSw); go_simp; first | done | with_reducible rfl
              try simp only [Act.put, List.setIfInBounds_toArray, List.set_cons_zero, List.set_cons_succ]
              refine wpAnyH_ready (rs := [10]) (by kernel_rfl) (by simp) ?_
              refine AllReadyH.cons rfl (fun K hK => ?_) AllReadyH.nil
              simp only [List.getElem_toArray, List.getElem_cons_zero, List.getElem_cons_succ]
              go_simp
              refine (has_b _ _ a x lo _ ((HL3.out.keep (below_drewN _ _ _)).at_ 0 rfl) H1.out).mono ?_
              rintro e X1 ⟨rfl, b1⟩
              have k1 := HK.out _ _ b1 (k0 _ ⟨1, rfl⟩)
              have L1 := Lib.hid ((HL3.out.keep (below_drewN _ _ 1)).keep b1)
              have B1 := Lib.hid ((hself.out.trans (below_drewN _ _ 1)).trans (b1.mono (hself.out.trans (below_drewN _ _ 1)).size))
              go_wp2_with fail
              clear hHeld
              refine hK.out _ _ k1 (fun hHeld => ?_)
              clear hK K
              try simp only [Act.put, List.setIfInBounds_toArray, List.set_cons_zero, List.set_cons_succ]
              refine take1 (i := 11) (v := ?v11b) (some 63) rfl rfl (by kernel_rfl) (by kernel_rfl) (by kernel_rfl) (fun _ _ _ h => h) (Or.inl ⟨by rfl, ?h11b⟩) (by assumption) ?r11b
              case h11b => intro w hSw; (try dsimp only at hSw); go_simp; first | done | with_reducible rfl
              try simp only [Act.put, List.setIfInBounds_toArray, List.set_cons_zero, List.set_cons_succ]
              refine take1 (i := 12) (v := ?v12b) (some 64) rfl rfl (by kernel_rfl) (by kernel_rfl) (by kernel_rfl) (fun _ _ _ h => h) (Or.inl ⟨by rfl, ?h12b⟩) (by assumption) ?r12b
              case h12b => intro w hSw; (try dsimp only at hSw); go_simp; first | done | with_reducible rfl
              try simp only [Act.put, List.setIfInBounds_toArray, List.set_cons_zero, List.set_cons_succ]
              refine take1 (i := 13) (v := ?v13b) (some 65) rfl rfl (by kernel_rfl) (by kernel_rfl) (by kernel_rfl) (fun _ _ _ h => h) (Or.inl ⟨by rfl, ?h13b⟩) (by assumption) ?r13b
              case h13b => intro w hSw; (try dsimp only at hSw); go_simp; first | done | with_reducible rfl
              try simp only [Act.put, List.setIfInBounds_toArray, List.set_cons_zero, List.set_cons_succ]
              refine take1 (i := 14) (v := ?v14b) (some 66) rfl rfl (by kernel_rfl) (by kernel_rfl) (by kernel_rfl) (fun _ _ _ h => h) (Or.inl ⟨by rfl, ?h14b⟩) (by assumption) ?r14b
              case h14b => intro w hSw; (try dsimp only at hSw); go_simp; first | done | with_reducible rfl
              try simp only [Act.put, List.setIfInBounds_toArray, List.set_cons_zero, List.set_cons_succ]
              refine take1 (i := 15) (v := ?v15b) (some 67) rfl rfl (by kernel_rfl) (by kernel_rfl) (by kernel_rfl) (fun _ _ _ h => h) (Or.inl ⟨by rfl, ?h15b⟩) (by assumption) ?r15b
              case h15b => intro w hSw; (try dsimp only at hSw); go_simp; first | done | with_reducible rfl
              try simp only [Act.put, List.setIfInBounds_toArray, List.set_cons_zero, List.set_cons_succ]
              refine wpAnyH_ready (rs := [16]) (by kernel_rfl) (by simp) ?_
              refine AllReadyH.cons rfl (fun K hK => ?_) AllReadyH.nil
              simp only [List.getElem_toArray, List.getElem_cons_zero, List.getElem_cons_succ]
              go_simp
              refine (has_b _ _ a x hi _ (L1.out.at_ 0 rfl) H2.out).mono ?_
              rintro e X2 ⟨rfl, b2⟩
              have k2 := HK.out _ _ b2 k1
              have L2 := Lib.hid (L1.out.keep b2)
              have B2 := Lib.hid (B1.out.trans (b2.mono B1.out.size))
              go_wp2_with fail
              clear hHeld
              refine hK.out _ _ k2 (fun hHeld => ?_)
              clear hK K
              try simp only [Act.put, List.setIfInBounds_toArray, List.set_cons_zero, List.set_cons_succ]
              refine take1 (i := 17) (v := ?v17b) (some 69) rfl rfl (by kernel_rfl) (by kernel_rfl) (by kernel_rfl) (fun _ _ _ h => h) (Or.inl ⟨by rfl, ?h17b⟩) (by assumption) ?r17b
              case h17b => intro w hSw; (try dsimp only at hSw); go_simp; first | done | with_reducible rfl
              try simp only [Act.put, List.setIfInBounds_toArray, List.set_cons_zero, List.set_cons_succ]
              refine take1 (i := 18) (v := ?v18b) (some 70) rfl rfl (by kernel_rfl) (by kernel_rfl) (by kernel_rfl) (fun _ _ _ h => h) (Or.inl ⟨by rfl, ?h18b⟩) (by assumption) ?r18b
              case h18b => intro w hSw; (try dsimp only at hSw); go_simp; first | done | with_reducible rfl
              try simp only [Act.put, List.setIfInBounds_toArray, List.set_cons_zero, List.set_cons_succ]
              refine take1 (i := 19) (v := ?v19b) (some 71) rfl rfl (by kernel_rfl) (by kernel_rfl) (by kernel_rfl) (fun _ _ _ h => h) (Or.inl ⟨by rfl, ?h19b⟩) (by assumption) ?r19b
              case h19b => intro w hSw; (try dsimp only at hSw); go_simp; first | done | with_reducible rfl
              try simp only [Act.put, List.setIfInBounds_toArray, List.set_cons_zero, List.set_cons_succ]
              refine take1 (i := 20) (v := ?v20b) (some 72) rfl rfl (by kernel_rfl) (by kernel_rfl) (by kernel_rfl) (fun _ _ _ h => h) (Or.inl ⟨by rfl, ?h20b⟩) (by assumption) ?r20b
              case h20b => intro w hSw; (try dsimp only at hSw); go_simp; first | done | with_reducible rfl
              try simp only [Act.put, List.setIfInBounds_toArray, List.set_cons_zero, List.set_cons_succ]
              refine take1 (i := 21) (v := ?v21b) (some 73) rfl rfl (by kernel_rfl) (by kernel_rfl) (by kernel_rfl) (fun _ _ _ h => h) (Or.inl ⟨by rfl, ?h21b⟩) (by assumption) ?r21b
              case h21b => intro w hSw; (try dsimp only at hSw); go_simp; first | done | with_reducible rfl
              try simp only [Act.put, List.setIfInBounds_toArray, List.set_cons_zero, List.set_cons_succ]
              refine take1 (i := 22) (v := ?v22b) (some 74) rfl rfl (by kernel_rfl) (by kernel_rfl) (by kernel_rfl) (fun _ _ _ h => h) (Or.inl ⟨by rfl, ?h22b⟩) (by assumption) ?r22b
              case h22b => intro w hSw; (try dsimp only at hSw); go_simp; first | done | with_reducible rfl
              try simp only [Act.put, List.setIfInBounds_toArray, List.set_cons_zero, List.set_cons_succ]
              refine take1 (i := 23) (v := ?v23b) (some 75) rfl rfl (by kernel_rfl) (by kernel_rfl) (by kernel_rfl) (fun _ _ _ h => h) (Or.inl ⟨by rfl, ?h23b⟩) (by assumption) ?r23b
              case h23b => intro w hSw; (try dsimp only at hSw); go_simp; first | done | with_reducible rfl
              try simp only [Act.put, List.setIfInBounds_toArray, List.set_cons_zero, List.set_cons_succ]
              refine take1 (i := 24) (v := ?v24b) (some 76) rfl rfl (by kernel_rfl) (by kernel_rfl) (by kernel_rfl) (fun _ _ _ h => h) (Or.inl ⟨by rfl, ?h24b⟩) (by assumption) ?r24b
              case h24b => intro w hSw; (try dsimp only at hSw); go_simp; first | done | with_reducible rfl
              try simp only [Act.put, List.setIfInBounds_toArray, List.set_cons_zero, List.set_cons_succ]
              refine take1 (i := 25) (v := ?v25b) (some 77) rfl rfl (by kernel_rfl) (by kernel_rfl) (by kernel_rfl) (fun _ _ _ h => h) (Or.inl ⟨by rfl, ?h25b⟩) (by assumption) ?r25b
              case h25b => intro w hSw; (try dsimp only at hSw); go_simp; first | done | with_reducible rfl
              try simp only [Act.put, List.setIfInBounds_toArray, List.set_cons_zero, List.set_cons_succ]
              refine wpAnyH_ready (rs := [26]) (by kernel_rfl) (by simp) ?_
              refine AllReadyH.cons rfl (fun K hK => ?_) AllReadyH.nil
              simp only [List.getElem_toArray, List.getElem_cons_zero, List.getElem_cons_succ]
              go_simp
              refine (has_b _ _ a x pl _ (L2.out.at_ 0 rfl) H3.out).mono ?_
              rintro e X3 ⟨rfl, b3⟩
              have k3 := HK.out _ _ b3 k2
              have L3 := Lib.hid (L2.out.keep b3)
              have B3 := Lib.hid (B2.out.trans (b3.mono B2.out.size))
              go_wp2_with fail
              clear hHeld
              refine hK.out _ _ k3 (fun hHeld => ?_)
              clear hK K
              try simp only [Act.put, List.setIfInBounds_toArray, List.set_cons_zero, List.set_cons_succ]
              refine take1 (i := 27) (v := ?v27b) (some 79) rfl rfl (by kernel_rfl) (by kernel_rfl) (by kernel_rfl) (fun _ _ _ h => h) (Or.inl ⟨by rfl, ?h27b⟩) (by assumption) ?r27b
              case h27b => intro w hSw; (try dsimp only at hSw); go_simp; first | done | with_reducible rfl
              try simp only [Act.put, List.setIfInBounds_toArray, List.set_cons_zero, List.set_cons_succ]
              refine take1 (i := 28) (v := ?v28b) (some 80) rfl rfl (by kernel_rfl) (by kernel_rfl) (by kernel_rfl) (fun _ _ _ h => h) (Or.inl ⟨by rfl, ?h28b⟩) (by assumption) ?r28b
              case h28b => intro w hSw; (try dsimp only at hSw); go_simp; first | done | with_reducible rfl
              try simp only [Act.put, List.setIfInBounds_toArray, List.set_cons_zero, List.set_cons_succ]
              refine take1 (i := 29) (v := ?v29b) (some 81) rfl rfl (by kernel_rfl) (by kernel_rfl) (by kernel_rfl) (fun _ _ _ h => h) (Or.inl ⟨by rfl, ?h29b⟩) (by assumption) ?r29b
              case h29b => intro w hSw; (try dsimp only at hSw); go_simp; first | done | with_reducible rfl
              try simp only [Act.put, List.setIfInBounds_toArray, List.set_cons_zero, List.set_cons_succ]
              refine take1 (i := 30) (v := ?v30b) (some 82) rfl rfl (by kernel_rfl) (by kernel_rfl) (by kernel_rfl) (fun _ _ _ h => h) (Or.inl ⟨by rfl, ?h30b⟩) (by assumption) ?r30b
              case h30b => intro w hSw; (try dsimp only at hSw); go_simp; first | done | with_reducible rfl
              try simp only [Act.put, List.setIfInBounds_toArray, List.set_cons_zero, List.set_cons_succ]
              refine take1 (i := 31) (v := ?v31b) (some 83) rfl rfl (by kernel_rfl) (by kernel_rfl) (by kernel_rfl) (fun _ _ _ h => h) (Or.inl ⟨by rfl, ?h31b⟩) (by assumption) ?r31b
              case h31b => intro w hSw; (try dsimp only at hSw); go_simp; first | done | with_reducible rfl
              try simp only [Act.put, List.setIfInBounds_toArray, List.set_cons_zero, List.set_cons_succ]
              refine take1 (i := 32) (v := ?v32b) (some 84) rfl rfl (by kernel_rfl) (by kernel_rfl) (by kernel_rfl) (fun _ _ _ h => h) (Or.inl ⟨by rfl, ?h32b⟩) (by assumption) ?r32b
              case h32b => intro w hSw; (try dsimp only at hSw); go_simp; first | done | with_reducible rfl
              try simp only [Act.put, List.setIfInBounds_toArray, List.set_cons_zero, List.set_cons_succ]
              refine take1 (i := 33) (v := ?v33b) (some 85) rfl rfl (by kernel_rfl) (by kernel_rfl) (by kernel_rfl) (fun _ _ _ h => h) (Or.inl ⟨by rfl, ?h33b⟩) (by assumption) ?r33b
              case h33b => intro w hSw; (try dsimp only at hSw); go_simp; first | done | with_reducible rfl
              try simp only [Act.put, List.setIfInBounds_toArray, List.set_cons_zero, List.set_cons_succ]
              refine take1 (i := 34) (v := ?v34b) (some 86) rfl rfl (by kernel_rfl) (by kernel_rfl) (by kernel_rfl) (fun _ _ _ h => h) (Or.inl ⟨by rfl, ?h34b⟩) (by assumption) ?r34b
              case h34b => intro w hSw; (try dsimp only at hSw); go_simp; first | done | with_reducible rfl
              try simp only [Act.put, List.setIfInBounds_toArray, List.set_cons_zero, List.set_cons_succ]
              refine take1 (i := 35) (v := ?v35b) (some 87) rfl rfl (by kernel_rfl) (by kernel_rfl) (by kernel_rfl) (fun _ _ _ h => h) (Or.inl ⟨by rfl, ?h35b⟩) (by assumption) ?r35b
              case h35b => intro w hSw; (try dsimp only at hSw); go_simp; first | done | with_reducible rfl
              try simp only [Act.put, List.setIfInBounds_toArray, List.set_cons_zero, List.set_cons_succ]
              refine wpAnyH_ready (rs := [36]) (by kernel_rfl) (by simp) ?_
              refine AllReadyH.cons rfl (fun K hK => ?_) AllReadyH.nil
              simp only [List.getElem_toArray, List.getElem_cons_zero, List.getElem_cons_succ]
              go_simp
              refine (has_b _ _ a x ph _ (L3.out.at_ 0 rfl) H4.out).mono ?_
              rintro e X4 ⟨rfl, b4⟩
              have k4 := HK.out _ _ b4 k3
              have L4 := Lib.hid (L3.out.keep b4)
              have B4 := Lib.hid (B3.out.trans (b4.mono B3.out.size))
              go_wp2_with fail
              clear hHeld
              refine hK.out _ _ k4 (fun hHeld => ?_)
              clear hK K
              try simp only [Act.put, List.setIfInBounds_toArray, List.set_cons_zero, List.set_cons_succ]
              refine take1 (i := 37) (v := ?v37b) (some 89) rfl rfl (by kernel_rfl) (by kernel_rfl) (by kernel_rfl) (fun _ _ _ h => h) (Or.inl ⟨by rfl, ?h37b⟩) (by assumption) ?r37b
              case h37b => intro w hSw; (try dsimp only at hSw); go_simp; first | done | with_reducible rfl
              try simp only [Act.put, List.setIfInBounds_toArray, List.set_cons_zero, List.set_cons_succ]
              refine take1 (i := 38) (v := ?v38b) (some 90) rfl rfl (by kernel_rfl) (by kernel_rfl) (by kernel_rfl) (fun _ _ _ h => h) (Or.inl ⟨by rfl, ?h38b⟩) (by assumption) ?r38b
              case h38b => intro w hSw; (try dsimp only at hSw); go_simp; first | done | with_reducible rfl
              try simp only [Act.put, List.setIfInBounds_toArray, List.set_cons_zero, List.set_cons_succ]
              refine take1 (i := 39) (v := ?v39b) (some 91) rfl rfl (by kernel_rfl) (by kernel_rfl) (by kernel_rfl) (fun _ _ _ h => h) (Or.inl ⟨by rfl, ?h39b⟩) (by assumption) ?r39b
              case h39b => intro w hSw; (try dsimp only at hSw); go_simp; first | done | with_reducible rfl
              try simp only [Act.put, List.setIfInBounds_toArray, List.set_cons_zero, List.set_cons_succ]
              refine take1 (i := 40) (v := ?v40b) (some 92) rfl rfl (by kernel_rfl) (by kernel_rfl) (by kernel_rfl) (fun _ _ _ h => h) (Or.inl ⟨by rfl, ?h40b⟩) (by assumption) ?r40b
              case h40b => intro w hSw; (try dsimp only at hSw); go_simp; first | done | with_reducible rfl
              try simp only [Act.put, List.setIfInBounds_toArray, List.set_cons_zero, List.set_cons_succ]
              refine take1 (i := 41) (v := ?v41b) (some 93) rfl rfl (by kernel_rfl) (by kernel_rfl) (by kernel_rfl) (fun _ _ _ h => h) (Or.inl ⟨by rfl, ?h41b⟩) (by assumption) ?r41b
              case h41b => intro w hSw; (try dsimp only at hSw); go_simp; first | done | with_reducible rfl
              try simp only [Act.put, List.setIfInBounds_toArray, List.set_cons_zero, List.set_cons_succ]
              refine take1 (i := 42) (v := ?v42b) (some 94) rfl rfl (by kernel_rfl) (by kernel_rfl) (by kernel_rfl) (fun _ _ _ h => h) (Or.inl ⟨by rfl, ?h42b⟩) (by assumption) ?r42b
              case h42b => intro w hSw; (try dsimp only at hSw); go_simp; first | done | with_reducible rfl
              try simp only [Act.put, List.setIfInBounds_toArray, List.set_cons_zero, List.set_cons_succ]
              refine take1 (i := 43) (v := undef) (some 95) rfl rfl (by kernel_rfl) (by kernel_rfl) (by kernel_rfl) (fun _ _ _ h => h) (Or.inr ⟨by rfl, rfl⟩) (by assumption) ?_
              try simp only [Act.put, List.setIfInBounds_toArray, List.set_cons_zero, List.set_cons_succ]
              refine take1 (i := 44) (v := undef) (some 96) rfl rfl (by kernel_rfl) (by kernel_rfl) (by kernel_rfl) (fun _ _ _ h => h) (Or.inr ⟨by rfl, rfl⟩) (by assumption) ?_
              try simp only [Act.put, List.setIfInBounds_toArray, List.set_cons_zero, List.set_cons_succ]
              refine take1 (i := 45) (v := undef) (some 97) rfl rfl (by kernel_rfl) (by kernel_rfl) (by kernel_rfl) (fun _ _ _ h => h) (Or.inr ⟨by rfl, rfl⟩) (by assumption) ?_
              try simp only [Act.put, List.setIfInBounds_toArray, List.set_cons_zero, List.set_cons_succ]
              refine take1 (i := 46) (v := undef) (some 98) rfl rfl (by kernel_rfl) (by kernel_rfl) (by kernel_rfl) (fun _ _ _ h => h) (Or.inr ⟨by rfl, rfl⟩) (by assumption) ?_
              try simp only [Act.put, List.setIfInBounds_toArray, List.set_cons_zero, List.set_cons_succ]
              refine take1 (i := 47) (v := undef) (some 99) rfl rfl (by kernel_rfl) (by kernel_rfl) (by kernel_rfl) (fun _ _ _ h => h) (Or.inr ⟨by rfl, rfl⟩) (by assumption) ?_
              try simp only [Act.put, List.setIfInBounds_toArray, List.set_cons_zero, List.set_cons_succ]
              refine take1 (i := 48) (v := undef) (some 100) rfl rfl (by kernel_rfl) (by kernel_rfl) (by kernel_rfl) (fun _ _ _ h => h) (Or.inr ⟨by rfl, rfl⟩) (by assumption) ?_
              try simp only [Act.put, List.setIfInBounds_toArray, List.set_cons_zero, List.set_cons_succ]
              refine take1 (i := 49) (v := undef) (some 101) rfl rfl (by kernel_rfl) (by kernel_rfl) (by kernel_rfl) (fun _ _ _ h => h) (Or.inr ⟨by rfl, rfl⟩) (by assumption) ?_
              try simp only [Act.put, List.setIfInBounds_toArray, List.set_cons_zero, List.set_cons_succ]
              refine take1 (i := 50) (v := undef) (some 102) rfl rfl (by kernel_rfl) (by kernel_rfl) (by kernel_rfl) (fun _ _ _ h => h) (Or.inr ⟨by rfl, rfl⟩) (by assumption) ?_
              try simp only [Act.put, List.setIfInBounds_toArray, List.set_cons_zero, List.set_cons_succ]
              refine take1 (i := 51) (v := undef) (some 103) rfl rfl (by kernel_rfl) (by kernel_rfl) (by kernel_rfl) (fun _ _ _ h => h) (Or.inr ⟨by rfl, rfl⟩) (by assumption) ?_
              try simp only [Act.put, List.setIfInBounds_toArray, List.set_cons_zero, List.set_cons_succ]
              refine take1 (i := 52) (v := ?v52b) (some 104) rfl rfl (by kernel_rfl) (by kernel_rfl) (by kernel_rfl) (fun _ _ _ h => h) (Or.inl ⟨by rfl, ?h52b⟩) (by assumption) ?r52b
              case h52b => intro w hSw; (try dsimp only at hSw); go_simp; first | done | with_reducible rfl
              try simp only [Act.put, List.setIfInBounds_toArray, List.set_cons_zero, List.set_cons_succ]
              refine take1 (i := 53) (v := ?v53b) (some 105) rfl rfl (by kernel_rfl) (by kernel_rfl) (by kernel_rfl) (fun _ _ _ h => h) (Or.inl ⟨by rfl, ?h53b⟩) (by assumption) ?r53b
              case h53b => intro w hSw; (try dsimp only at hSw); go_simp; first | done | with_reducible rfl
              try simp only [Act.put, List.setIfInBounds_toArray, List.set_cons_zero, List.set_cons_succ]
              refine wpAnyH_done (by kernel_rfl) ?_ _
              refine NoPanic.normal ?_
              clear kA kB kC kD k0 HK H1 b1 H2 b2 H3 b3 H4 b4
              have HL := Lib.hid L4.out
              have BX := Lib.hid B4.out
              have c0 := k4.2.2.1
              have c1 := k4.1
              have c2 := k4.2.1
              have HTX := Lib.hid (HT3.out.keep BX.out)
              have RWX := Lib.hid (RW3.out.keep BX.out)
              have hbX := Lib.hid (hb3.trans (BX.out.mono hb3.size))
              clear L1 B1 k1 L2 B2 k2 L3 B3 k3 L4 B4 k4
              go_wp2
              obtain ⟨mk, hmk⟩ : ∃ mk : Nat, mk = 2 ^ x := ⟨_, rfl⟩
              have hmk2 : mk < 4294967296 := by rw [hmk]; exact Nat.lt_of_lt_of_le (Nat.pow_lt_pow_right (by omega) hx16b : 2 ^ x < 2 ^ 16) (by omega)
              have hs1 : IntKind.u32.wrap ((2 : Int) ^ min x 32) = (mk : Int) := by rw [Nat.min_eq_left (by omega), show (2 : Int) ^ x = ((mk : Nat) : Int) by rw [hmk]; simp]; show (mk : Int) % 4294967296 = _; omega
              have hs2 : IntKind.u32.wrap ((2 : Int) ^ x) = (mk : Int) := by rw [show (2 : Int) ^ x = ((mk : Nat) : Int) by rw [hmk]; simp]; show (mk : Int) % 4294967296 = _; omega
              have hs3 : (2 : Int) ^ x % 4294967296 = (mk : Int) := by rw [show (2 : Int) ^ x = ((mk : Nat) : Int) by rw [hmk]; simp]; omega
              have HMK := Lib.hid hmk
              clear hmk
              have HBA : Hid (∀ d o, Below X4.heap.size X4 ((X4.drewN d).alloc o)) := fun d o => (below_drewN _ _ d).alloc (by simp) o
              have HSX : Hid (∀ d, RdS ((X4.drewN d).alloc (.cells #[.int .u32 lo, .int .u32 hi] 37)) (.slice (some ⟨X4.heap.size, 0, none⟩) 1 1) [(lo, hi)]) := fun d => rdS_at [(lo, hi)] (heap_alloc_at (X4.drewN d) _) (by intro s hs; simp at hs; subst hs; exact ⟨by omega, hhi⟩) (by simp) 1 rfl
              have HTA : Hid (∀ d o, Tab ((X4.drewN d).alloc o)) := fun d o => HTX.out.keep (HBA.out d o)
              have HRA : Hid (∀ d o, RdA ((X4.drewN d).alloc o) _ (partK cl k)) := fun d o => RWX.out.keep (HBA.out d o)
              have HPS : Hid (Sm 20 (partK cl k)) := by show Sm 20 _; rw [HCL.out]; exact partK_sm W_a.out S_a.out k
              have HPL := Lib.hid (partK_len cl k)
              have cX : ∀ W', (∃ d, W' = X4.drewN d) → W'.cell? ⟨wr.heap.size, 0, none⟩ = some (.int .i64 x) ∧ W'.cell? ⟨wr.heap.size, 1, none⟩ = some (.int .u32 lo) ∧ W'.cell? ⟨wr.heap.size, 2, none⟩ = some (.int .u32 hi) := by rintro W' ⟨d, rfl⟩; exact ⟨c0, c1, c2⟩
              have cA : ∀ W', (∃ d o, W' = (X4.drewN d).alloc o) → W'.cell? ⟨wr.heap.size, 0, none⟩ = some (.int .i64 x) ∧ W'.cell? ⟨wr.heap.size, 1, none⟩ = some (.int .u32 lo) ∧ W'.cell? ⟨wr.heap.size, 2, none⟩ = some (.int .u32 hi) := by rintro W' ⟨d, o, rfl⟩; exact ⟨keep_cell (HBA.out d o) c0, keep_cell (HBA.out d o) c1, keep_cell (HBA.out d o) c2⟩
              clear c0 c1 c2
              first
                | (go_region_held3 (fun W' => W'.cell? ⟨wr.heap.size, 0, none⟩ = some (.int .i64 x) ∧ W'.cell? ⟨wr.heap.size, 1, none⟩ = some (.int .u32 lo) ∧ W'.cell? ⟨wr.heap.size, 2, none⟩ = some (.int .u32 hi))
                    (first | with_reducible exact m2 | with_reducible exact m1 | exact cX _ (by first | exact ⟨_, rfl⟩ | exact drewN_ex _ _ _ | exact drew_ex _ _) | exact cA _ ⟨1, _, rfl⟩)
                    (first
                      | (go_at_call 12; have hS := m1; refine (area_union _ _ _ (partK cl k) (ofL 16 (bitsN mk) (nf [(lo, hi)])) 20 1 RW1.out RO.out (Nat.le_trans HPL.out (by omega)) (by rw [ofL_len]; omega) HPS.out (ofL_sm (nf_one lo hi hhi hlo)) (by omega) (by omega)).mono ?_; rintro e Y2 ⟨v_u, u, rfl, R_u, l_u, h_u, -, b2⟩; obtain ⟨A_u, c_u, rfl, -⟩ := id R_u; have LU := Lib.hid l_u; clear l_u; have m2 : Y2.cell? ⟨wr.heap.size, 0, none⟩ = some (.int .i64 x) ∧ Y2.cell? ⟨wr.heap.size, 1, none⟩ = some (.int .u32 lo) ∧ Y2.cell? ⟨wr.heap.size, 2, none⟩ = some (.int .u32 hi) := ⟨keep_cell b2 m1.1, keep_cell b2 m1.2.1, keep_cell b2 m1.2.2⟩; have BY := Lib.hid (B1.out.trans (b2.mono B1.out.size)))
                      | (go_at_call 15; refine (of_calls _ 16 mk _ [(lo, hi)] (HSX.out _) (by simp) hmk2 (HTA.out _ _)).mono ?_; rw [show (min (max (16 : Int) 0) 16).toNat = 16 by decide]; rintro e Y1 ⟨χo, rfl, O, b1⟩; have RO := O.rd (by rw [ofL_len]; omega); rw [World.size_alloc] at RO; have RO := Lib.hid RO; have m1 : Y1.cell? ⟨wr.heap.size, 0, none⟩ = some (.int .i64 x) ∧ Y1.cell? ⟨wr.heap.size, 1, none⟩ = some (.int .u32 lo) ∧ Y1.cell? ⟨wr.heap.size, 2, none⟩ = some (.int .u32 hi) := ⟨keep_cell b1 (cA _ ⟨1, _, rfl⟩).1, keep_cell b1 (cA _ ⟨1, _, rfl⟩).2.1, keep_cell b1 (cA _ ⟨1, _, rfl⟩).2.2⟩; have RW1 := Lib.hid ((HRA.out _ _).keep b1); have B1 := Lib.hid ((HBA.out _ _).trans (b1.mono (HBA.out _ _).size)))))
              have hu := step_at HCL.out W_a.out hlt HX.out HMK.out h_u LU.out ⟨by show lo < _; omega, hhi⟩
              subst hu
              have hbY := hbX.trans (BY.out.mono hbX.size)
              have RY := Lib.hid R_u
              clear h_u LU m1 m2 RO RW1 B1 R_u hs1 hs2 hs3
              go_wp2
              refine ⟨⟨k + 1, hlt, by go_num, RY, hbY⟩, by simp [intOf]; omega⟩
          · by_cases hk0 : 0 < k
            · skip
              have kB : decide (0 < lo) = true := by simp; omega
              have kC : decide (0 < ph) = false := by simp; omega
              have kD : decide (0 < k) = true := by simp; omega
              obtain ⟨gl2, ol2, hgl, l0, -, -⟩ := HRC3.out.get (k - 1) (by omega)
              cases hgl
              obtain ⟨x2, hx2⟩ : ∃ x2, x2 = (cl[k - 1]'(by omega)).1 := ⟨_, rfl⟩
              have hx2le : x2 ≤ x := by rw [hx2]; exact HMON.out (by omega)
              rw [← hx2] at l0
              have kE : decide (x < x2) = false := by simp; omega
              have hk1 : IntKind.i64.wrap ((k : Int) - 1) = ((k - 1 : Nat) : Int) := by rw [IntKind.wrap_i64]; omega
              have hk2 : k - 1 < cl.length := by omega
              have hk3 : decide ((0 : Int) ≤ ((k - 1 : Nat) : Int)) = true := by simp
              have hk4 : decide (((k - 1 : Nat) : Int) < (cl.length : Int)) = true := by simp; omega
              clear hx2
              obtain ⟨-, c0, c1, c2, d0, d1, e0, e1, f0, f1, g0, g1⟩ := hX
              have k0 : ∀ W', (∃ d, W' = W3.drewN d) → W'.cell? ⟨wr.heap.size, 1, none⟩ = some (.int .u32 lo) ∧ W'.cell? ⟨wr.heap.size, 2, none⟩ = some (.int .u32 hi) ∧ W'.cell? ⟨wr.heap.size, 0, none⟩ = some (.int .i64 x) ∧ W'.cell? ⟨wr.heap.size + 1, 0, none⟩ = some (.int .i64 x) ∧ W'.cell? ⟨wr.heap.size + 1, 1, none⟩ = some (.int .u32 lo) ∧ W'.cell? ⟨wr.heap.size + 1 + 1, 0, none⟩ = some (.int .i64 x) ∧ W'.cell? ⟨wr.heap.size + 1 + 1, 1, none⟩ = some (.int .u32 hi) ∧ W'.cell? ⟨g9, 0, none⟩ = some (.int .i64 x) ∧ W'.cell? ⟨g9, 1, none⟩ = some (.int .u32 pl) ∧ W'.cell? ⟨g10, 0, none⟩ = some (.int .i64 x) ∧ W'.cell? ⟨g10, 1, none⟩ = some (.int .u32 ph) ∧ W'.cell? ⟨gl, ol + (k - 1) * 3, none⟩ = some (.int .i64 x2) := by rintro W' ⟨d, rfl⟩; exact ⟨c1, c2, c0, d0, d1, e0, e1, f0, f1, g0, g1, l0⟩
              have HK : Hid (∀ W W' : World, Below W.heap.size W W' → (W.cell? ⟨wr.heap.size, 1, none⟩ = some (.int .u32 lo) ∧ W.cell? ⟨wr.heap.size, 2, none⟩ = some (.int .u32 hi) ∧ W.cell? ⟨wr.heap.size, 0, none⟩ = some (.int .i64 x) ∧ W.cell? ⟨wr.heap.size + 1, 0, none⟩ = some (.int .i64 x) ∧ W.cell? ⟨wr.heap.size + 1, 1, none⟩ = some (.int .u32 lo) ∧ W.cell? ⟨wr.heap.size + 1 + 1, 0, none⟩ = some (.int .i64 x) ∧ W.cell? ⟨wr.heap.size + 1 + 1, 1, none⟩ = some (.int .u32 hi) ∧ W.cell? ⟨g9, 0, none⟩ = some (.int .i64 x) ∧ W.cell? ⟨g9, 1, none⟩ = some (.int .u32 pl) ∧ W.cell? ⟨g10, 0, none⟩ = some (.int .i64 x) ∧ W.cell? ⟨g10, 1, none⟩ = some (.int .u32 ph) ∧ W.cell? ⟨gl, ol + (k - 1) * 3, none⟩ = some (.int .i64 x2)) → W'.cell? ⟨wr.heap.size, 1, none⟩ = some (.int .u32 lo) ∧ W'.cell? ⟨wr.heap.size, 2, none⟩ = some (.int .u32 hi) ∧ W'.cell? ⟨wr.heap.size, 0, none⟩ = some (.int .i64 x) ∧ W'.cell? ⟨wr.heap.size + 1, 0, none⟩ = some (.int .i64 x) ∧ W'.cell? ⟨wr.heap.size + 1, 1, none⟩ = some (.int .u32 lo) ∧ W'.cell? ⟨wr.heap.size + 1 + 1, 0, none⟩ = some (.int .i64 x) ∧ W'.cell? ⟨wr.heap.size + 1 + 1, 1, none⟩ = some (.int .u32 hi) ∧ W'.cell? ⟨g9, 0, none⟩ = some (.int .i64 x) ∧ W'.cell? ⟨g9, 1, none⟩ = some (.int .u32 pl) ∧ W'.cell? ⟨g10, 0, none⟩ = some (.int .i64 x) ∧ W'.cell? ⟨g10, 1, none⟩ = some (.int .u32 ph) ∧ W'.cell? ⟨gl, ol + (k - 1) * 3, none⟩ = some (.int .i64 x2)) := fun W W' hb ⟨q0, q1, q2, q3, q4, q5, q6, q7, q8, q9, q10, q11⟩ => ⟨keep_cell hb q0, keep_cell hb q1, keep_cell hb q2, keep_cell hb q3, keep_cell hb q4, keep_cell hb q5, keep_cell hb q6, keep_cell hb q7, keep_cell hb q8, keep_cell hb q9, keep_cell hb q10, keep_cell hb q11⟩
              clear c0 c1 c2 d0 d1 e0 e1 f0 f1 g0 g1 l0
              have H1 := Lib.hid HI1.out
              have H2 := Lib.hid HI2.out
              have H3 := Lib.hid (HI3 (by omega) (hpl2 (by omega)))
              clear HI3 HI4 hpl2 hph2 hph3
              have kS := k0 W3.drew ⟨1, rfl⟩
              refine wp_region_noPanic ?_
              refine wp_region_held_drew (S := fun W' => W'.cell? ⟨wr.heap.size, 1, none⟩ = some (.int .u32 lo) ∧ W'.cell? ⟨wr.heap.size, 2, none⟩ = some (.int .u32 hi) ∧ W'.cell? ⟨wr.heap.size, 0, none⟩ = some (.int .i64 x) ∧ W'.cell? ⟨wr.heap.size + 1, 0, none⟩ = some (.int .i64 x) ∧ W'.cell? ⟨wr.heap.size + 1, 1, none⟩ = some (.int .u32 lo) ∧ W'.cell? ⟨wr.heap.size + 1 + 1, 0, none⟩ = some (.int .i64 x) ∧ W'.cell? ⟨wr.heap.size + 1 + 1, 1, none⟩ = some (.int .u32 hi) ∧ W'.cell? ⟨g9, 0, none⟩ = some (.int .i64 x) ∧ W'.cell? ⟨g9, 1, none⟩ = some (.int .u32 pl) ∧ W'.cell? ⟨g10, 0, none⟩ = some (.int .i64 x) ∧ W'.cell? ⟨g10, 1, none⟩ = some (.int .u32 ph) ∧ W'.cell? ⟨gl, ol + (k - 1) * 3, none⟩ = some (.int .i64 x2)) (by kernel_rfl) kS (fun hHeld => ?_)
              clear kS
              refine take1 (i := 0) (v := ?v0c) (some 52) rfl rfl (by kernel_rfl) (by kernel_rfl) (by kernel_rfl) (fun _ _ _ h => h) (Or.inl ⟨by rfl, ?h0c⟩) (by assumption) ?r0c
              case h0c => intro w hSw; (try dsimp only at hSw); go_simp; first | done | with_reducible rfl
              try simp only [Act.put, List.setIfInBounds_toArray, List.set_cons_zero, List.set_cons_succ]
              refine take1 (i := 1) (v := ?v1c) (some 53) rfl rfl (by kernel_rfl) (by kernel_rfl) (by kernel_rfl) (fun _ _ _ h => h) (Or.inl ⟨by rfl, ?h1c⟩) (by assumption) ?r1c
              case h1c => intro w hSw; (try dsimp only at hSw); go_simp; first | done | with_reducible rfl
              try simp only [Act.put, List.setIfInBounds_toArray, List.set_cons_zero, List.set_cons_succ]
              refine take1 (i := 2) (v := ?v2c) (some 54) rfl rfl (by kernel_rfl) (by kernel_rfl) (by kernel_rfl) (fun _ _ _ h => h) (Or.inl ⟨by rfl, ?h2c⟩) (by assumption) ?r2c
              case h2c => intro w hSw; (try dsimp only at hSw); go_simp; first | done | with_reducible rfl
              try simp only [Act.put, List.setIfInBounds_toArray, List.set_cons_zero, List.set_cons_succ]
              refine take1 (i := 3) (v := ?v3c) (some 55) rfl rfl (by kernel_rfl) (by kernel_rfl) (by kernel_rfl) (fun _ _ _ h => h) (Or.inl ⟨by rfl, ?h3c⟩) (by assumption) ?r3c
              case h3c => intro w hSw; (try dsimp only at hSw); go_simp; first | done | with_reducible rfl
              try simp only [Act.put, List.setIfInBounds_toArray, List.set_cons_zero, List.set_cons_succ]
              refine take1 (i := 4) (v := ?v4c) (some 56) rfl rfl (by kernel_rfl) (by kernel_rfl) (by kernel_rfl) (fun _ _ _ h => h) (Or.inl ⟨by rfl, ?h4c⟩) (by assumption) ?r4c
              case h4c => intro w hSw; (try dsimp only at hSw); go_simp; first | done | with_reducible rfl
              try simp only [Act.put, List.setIfInBounds_toArray, List.set_cons_zero, List.set_cons_succ]
              refine take1 (i := 5) (v := ?v5c) (some 57) rfl rfl (by kernel_rfl) (by kernel_rfl) (by kernel_rfl) (fun _ _ _ h => h) (Or.inl ⟨by rfl, ?h5c⟩) (by assumption) ?r5c
              case h5c => intro w hSw; (try dsimp only at hSw); go_simp; first | done | with_reducible rfl
              try simp only [Act.put, List.setIfInBounds_toArray, List.set_cons_zero, List.set_cons_succ]
              refine take1 (i := 6) (v := ?v6c) (some 58) rfl rfl (by kernel_rfl) (by kernel_rfl) (by kernel_rfl) (fun _ _ _ h => h) (Or.inl ⟨by rfl, ?h6c⟩) (by assumption) ?r6c
              case h6c => intro w hSw; (try dsimp only at hSw); go_simp; first | done | with_reducible rfl
              try simp only [Act.put, List.setIfInBounds_toArray, List.set_cons_zero, List.set_cons_succ]
              refine take1 (i := 7) (v := ?v7c) (some 59) rfl rfl (by kernel_rfl) (by kernel_rfl) (by kernel_rfl) (fun _ _ _ h => h) (Or.inl ⟨by rfl, ?h7c⟩) (by assumption) ?r7c
              case h7c => intro w hSw; (try dsimp only at hSw); go_simp; first | done | with_reducible rfl
              try simp only [Act.put, List.setIfInBounds_toArray, List.set_cons_zero, List.set_cons_succ]
              refine take1 (i := 8) (v := ?v8c) (some 60) rfl rfl (by kernel_rfl) (by kernel_rfl) (by kernel_rfl) (fun _ _ _ h => h) (Or.inl ⟨by rfl, ?h8c⟩) (by assumption) ?r8c
              case h8c => intro w hSw; (try dsimp only at hSw); go_simp; first | done | with_reducible rfl
              try simp only [Act.put, List.setIfInBounds_toArray, List.set_cons_zero, List.set_cons_succ]
              refine take1 (i := 9) (v := ?v9c) (some 61) rfl rfl (by kernel_rfl) (by kernel_rfl) (by kernel_rfl) (fun _ _ _ h => h) (Or.inl ⟨by rfl, ?h9c⟩) (by assumption) ?r9c
              case h9c => intro w hSw; (try dsimp only at hSw); go_simp; first | done | with_reducible rfl
              try simp only [Act.put, List.setIfInBounds_toArray, List.set_cons_zero, List.set_cons_succ]
              refine wpAnyH_ready (rs := [10]) (by kernel_rfl) (by simp) ?_
              refine AllReadyH.cons rfl (fun K hK => ?_) AllReadyH.nil
              simp only [List.getElem_toArray, List.getElem_cons_zero, List.getElem_cons_succ]
              go_simp
              refine (has_b _ _ a x lo _ ((HL3.out.keep (below_drewN _ _ _)).at_ 0 rfl) H1.out).mono ?_
              rintro e X1 ⟨rfl, b1⟩
              have k1 := HK.out _ _ b1 (k0 _ ⟨1, rfl⟩)
              have L1 := Lib.hid ((HL3.out.keep (below_drewN _ _ 1)).keep b1)
              have B1 := Lib.hid ((hself.out.trans (below_drewN _ _ 1)).trans (b1.mono (hself.out.trans (below_drewN _ _ 1)).size))
              go_wp2_with fail
              clear hHeld
              refine hK.out _ _ k1 (fun hHeld => ?_)
              clear hK K
              try simp only [Act.put, List.setIfInBounds_toArray, List.set_cons_zero, List.set_cons_succ]
              refine take1 (i := 11) (v := ?v11c) (some 63) rfl rfl (by kernel_rfl) (by kernel_rfl) (by kernel_rfl) (fun _ _ _ h => h) (Or.inl ⟨by rfl, ?h11c⟩) (by assumption) ?r11c
              case h11c => intro w hSw; (try dsimp only at hSw); go_simp; first | done | with_reducible rfl
              try simp only [Act.put, List.setIfInBounds_toArray, List.set_cons_zero, List.set_cons_succ]
              refine take1 (i := 12) (v := ?v12c) (some 64) rfl rfl (by kernel_rfl) (by kernel_rfl) (by kernel_rfl) (fun _ _ _ h => h) (Or.inl ⟨by rfl, ?h12c⟩) (by assumption) ?r12c
              case h12c => intro w hSw; (try dsimp only at hSw); go_simp; first | done | with_reducible rfl
              try simp only [Act.put, List.setIfInBounds_toArray, List.set_cons_zero, List.set_cons_succ]
              refine take1 (i := 13) (v := ?v13c) (some 65) rfl rfl (by kernel_rfl) (by kernel_rfl) (by kernel_rfl) (fun _ _ _ h => h) (Or.inl ⟨by rfl, ?h13c⟩) (by assumption) ?r13c
              case h13c => intro w hSw; (try dsimp only at hSw); go_simp; first | done | with_reducible rfl
              try simp only [Act.put, List.setIfInBounds_toArray, List.set_cons_zero, List.set_cons_succ]
              refine take1 (i := 14) (v := ?v14c) (some 66) rfl rfl (by kernel_rfl) (by kernel_rfl) (by kernel_rfl) (fun _ _ _ h => h) (Or.inl ⟨by rfl, ?h14c⟩) (by assumption) ?r14c
              case h14c => intro w hSw; (try dsimp only at hSw); go_simp; first | done | with_reducible rfl
              try simp only [Act.put, List.setIfInBounds_toArray, List.set_cons_zero, List.set_cons_succ]
              refine take1 (i := 15) (v := ?v15c) (some 67) rfl rfl (by kernel_rfl) (by kernel_rfl) (by kernel_rfl) (fun _ _ _ h => h) (Or.inl ⟨by rfl, ?h15c⟩) (by assumption) ?r15c
              case h15c => intro w hSw; (try dsimp only at hSw); go_simp; first | done | with_reducible rfl
              try simp only [Act.put, List.setIfInBounds_toArray, List.set_cons_zero, List.set_cons_succ]
              refine wpAnyH_ready (rs := [16]) (by kernel_rfl) (by simp) ?_
              refine AllReadyH.cons rfl (fun K hK => ?_) AllReadyH.nil
              simp only [List.getElem_toArray, List.getElem_cons_zero, List.getElem_cons_succ]
              go_simp
              refine (has_b _ _ a x hi _ (L1.out.at_ 0 rfl) H2.out).mono ?_
              rintro e X2 ⟨rfl, b2⟩
              have k2 := HK.out _ _ b2 k1
              have L2 := Lib.hid (L1.out.keep b2)
              have B2 := Lib.hid (B1.out.trans (b2.mono B1.out.size))
              go_wp2_with fail
              clear hHeld
              refine hK.out _ _ k2 (fun hHeld => ?_)
              clear hK K
              try simp only [Act.put, List.setIfInBounds_toArray, List.set_cons_zero, List.set_cons_succ]
              refine take1 (i := 17) (v := ?v17c) (some 69) rfl rfl (by kernel_rfl) (by kernel_rfl) (by kernel_rfl) (fun _ _ _ h => h) (Or.inl ⟨by rfl, ?h17c⟩) (by assumption) ?r17c
              case h17c => intro w hSw; (try dsimp only at hSw); go_simp; first | done | with_reducible rfl
              try simp only [Act.put, List.setIfInBounds_toArray, List.set_cons_zero, List.set_cons_succ]
              refine take1 (i := 18) (v := ?v18c) (some 70) rfl rfl (by kernel_rfl) (by kernel_rfl) (by kernel_rfl) (fun _ _ _ h => h) (Or.inl ⟨by rfl, ?h18c⟩) (by assumption) ?r18c
              case h18c => intro w hSw; (try dsimp only at hSw); go_simp; first | done | with_reducible rfl
              try simp only [Act.put, List.setIfInBounds_toArray, List.set_cons_zero, List.set_cons_succ]
              refine take1 (i := 19) (v := ?v19c) (some 71) rfl rfl (by kernel_rfl) (by kernel_rfl) (by kernel_rfl) (fun _ _ _ h => h) (Or.inl ⟨by rfl, ?h19c⟩) (by assumption) ?r19c
              case h19c => intro w hSw; (try dsimp only at hSw); go_simp; first | done | with_reducible rfl
              try simp only [Act.put, List.setIfInBounds_toArray, List.set_cons_zero, List.set_cons_succ]
              refine take1 (i := 20) (v := ?v20c) (some 72) rfl rfl (by kernel_rfl) (by kernel_rfl) (by kernel_rfl) (fun _ _ _ h => h) (Or.inl ⟨by rfl, ?h20c⟩) (by assumption) ?r20c
              case h20c => intro w hSw; (try dsimp only at hSw); go_simp; first | done | with_reducible rfl
              try simp only [Act.put, List.setIfInBounds_toArray, List.set_cons_zero, List.set_cons_succ]
              refine take1 (i := 21) (v := ?v21c) (some 73) rfl rfl (by kernel_rfl) (by kernel_rfl) (by kernel_rfl) (fun _ _ _ h => h) (Or.inl ⟨by rfl, ?h21c⟩) (by assumption) ?r21c
              case h21c => intro w hSw; (try dsimp only at hSw); go_simp; first | done | with_reducible rfl
              try simp only [Act.put, List.setIfInBounds_toArray, List.set_cons_zero, List.set_cons_succ]
              refine take1 (i := 22) (v := ?v22c) (some 74) rfl rfl (by kernel_rfl) (by kernel_rfl) (by kernel_rfl) (fun _ _ _ h => h) (Or.inl ⟨by rfl, ?h22c⟩) (by assumption) ?r22c
              case h22c => intro w hSw; (try dsimp only at hSw); go_simp; first | done | with_reducible rfl
              try simp only [Act.put, List.setIfInBounds_toArray, List.set_cons_zero, List.set_cons_succ]
              refine take1 (i := 23) (v := ?v23c) (some 75) rfl rfl (by kernel_rfl) (by kernel_rfl) (by kernel_rfl) (fun _ _ _ h => h) (Or.inl ⟨by rfl, ?h23c⟩) (by assumption) ?r23c
              case h23c => intro w hSw; (try dsimp only at hSw); go_simp; first | done | with_reducible rfl
              try simp only [Act.put, List.setIfInBounds_toArray, List.set_cons_zero, List.set_cons_succ]
              refine take1 (i := 24) (v := ?v24c) (some 76) rfl rfl (by kernel_rfl) (by kernel_rfl) (by kernel_rfl) (fun _ _ _ h => h) (Or.inl ⟨by rfl, ?h24c⟩) (by assumption) ?r24c
              case h24c => intro w hSw; (try dsimp only at hSw); go_simp; first | done | with_reducible rfl
              try simp only [Act.put, List.setIfInBounds_toArray, List.set_cons_zero, List.set_cons_succ]
              refine take1 (i := 25) (v := ?v25c) (some 77) rfl rfl (by kernel_rfl) (by kernel_rfl) (by kernel_rfl) (fun _ _ _ h => h) (Or.inl ⟨by rfl, ?h25c⟩) (by assumption) ?r25c
              case h25c => intro w hSw; (try dsimp only at hSw); go_simp; first | done | with_reducible rfl
              try simp only [Act.put, List.setIfInBounds_toArray, List.set_cons_zero, List.set_cons_succ]
              refine wpAnyH_ready (rs := [26]) (by kernel_rfl) (by simp) ?_
              refine AllReadyH.cons rfl (fun K hK => ?_) AllReadyH.nil
              simp only [List.getElem_toArray, List.getElem_cons_zero, List.getElem_cons_succ]
              go_simp
              refine (has_b _ _ a x pl _ (L2.out.at_ 0 rfl) H3.out).mono ?_
              rintro e X3 ⟨rfl, b3⟩
              have k3 := HK.out _ _ b3 k2
              have L3 := Lib.hid (L2.out.keep b3)
              have B3 := Lib.hid (B2.out.trans (b3.mono B2.out.size))
              go_wp2_with fail
              clear hHeld
              refine hK.out _ _ k3 (fun hHeld => ?_)
              clear hK K
              try simp only [Act.put, List.setIfInBounds_toArray, List.set_cons_zero, List.set_cons_succ]
              refine take1 (i := 27) (v := ?v27c) (some 79) rfl rfl (by kernel_rfl) (by kernel_rfl) (by kernel_rfl) (fun _ _ _ h => h) (Or.inl ⟨by rfl, ?h27c⟩) (by assumption) ?r27c
              case h27c => intro w hSw; (try dsimp only at hSw); go_simp; first | done | with_reducible rfl
              try simp only [Act.put, List.setIfInBounds_toArray, List.set_cons_zero, List.set_cons_succ]
              refine take1 (i := 28) (v := ?v28c) (some 80) rfl rfl (by kernel_rfl) (by kernel_rfl) (by kernel_rfl) (fun _ _ _ h => h) (Or.inl ⟨by rfl, ?h28c⟩) (by assumption) ?r28c
              case h28c => intro w hSw; (try dsimp only at hSw); go_simp; first | done | with_reducible rfl
              try simp only [Act.put, List.setIfInBounds_toArray, List.set_cons_zero, List.set_cons_succ]
              refine take1 (i := 29) (v := ?v29c) (some 81) rfl rfl (by kernel_rfl) (by kernel_rfl) (by kernel_rfl) (fun _ _ _ h => h) (Or.inl ⟨by rfl, ?h29c⟩) (by assumption) ?r29c
              case h29c => intro w hSw; (try dsimp only at hSw); go_simp; first | done | with_reducible rfl
              try simp only [Act.put, List.setIfInBounds_toArray, List.set_cons_zero, List.set_cons_succ]
              refine take1 (i := 30) (v := ?v30c) (some 82) rfl rfl (by kernel_rfl) (by kernel_rfl) (by kernel_rfl) (fun _ _ _ h => h) (Or.inl ⟨by rfl, ?h30c⟩) (by assumption) ?r30c
              case h30c => intro w hSw; (try dsimp only at hSw); go_simp; first | done | with_reducible rfl
              try simp only [Act.put, List.setIfInBounds_toArray, List.set_cons_zero, List.set_cons_succ]
              refine take1 (i := 31) (v := ?v31c) (some 83) rfl rfl (by kernel_rfl) (by kernel_rfl) (by kernel_rfl) (fun _ _ _ h => h) (Or.inl ⟨by rfl, ?h31c⟩) (by assumption) ?r31c
              case h31c => intro w hSw; (try dsimp only at hSw); go_simp; first | done | with_reducible rfl
              try simp only [Act.put, List.setIfInBounds_toArray, List.set_cons_zero, List.set_cons_succ]
              refine take1 (i := 32) (v := ?v32c) (some 84) rfl rfl (by kernel_rfl) (by kernel_rfl) (by kernel_rfl) (fun _ _ _ h => h) (Or.inl ⟨by rfl, ?h32c⟩) (by assumption) ?r32c
              case h32c => intro w hSw; (try dsimp only at hSw); go_simp; first | done | with_reducible rfl
              try simp only [Act.put, List.setIfInBounds_toArray, List.set_cons_zero, List.set_cons_succ]
              refine take1 (i := 33) (v := ?v33c) (some 85) rfl rfl (by kernel_rfl) (by kernel_rfl) (by kernel_rfl) (fun _ _ _ h => h) (Or.inl ⟨by rfl, ?h33c⟩) (by assumption) ?r33c
              case h33c => intro w hSw; (try dsimp only at hSw); go_simp; first | done | with_reducible rfl
              try simp only [Act.put, List.setIfInBounds_toArray, List.set_cons_zero, List.set_cons_succ]
              refine take1 (i := 34) (v := undef) (some 86) rfl rfl (by kernel_rfl) (by kernel_rfl) (by kernel_rfl) (fun _ _ _ h => h) (Or.inr ⟨by rfl, rfl⟩) (by assumption) ?_
              try simp only [Act.put, List.setIfInBounds_toArray, List.set_cons_zero, List.set_cons_succ]
              refine take1 (i := 35) (v := undef) (some 87) rfl rfl (by kernel_rfl) (by kernel_rfl) (by kernel_rfl) (fun _ _ _ h => h) (Or.inr ⟨by rfl, rfl⟩) (by assumption) ?_
              try simp only [Act.put, List.setIfInBounds_toArray, List.set_cons_zero, List.set_cons_succ]
              refine wpAnyH_ready (rs := [36]) (by kernel_rfl) (by simp) ?_
              refine AllReadyH.cons rfl (fun K hK => ?_) AllReadyH.nil
              simp only [List.getElem_toArray, List.getElem_cons_zero, List.getElem_cons_succ]
              go_simp
              refine hK.out _ _ hHeld (fun hHeld => ?_)
              clear hK K
              try simp only [Act.put, List.setIfInBounds_toArray, List.set_cons_zero, List.set_cons_succ]
              refine take1 (i := 37) (v := ?v37c) (some 89) rfl rfl (by kernel_rfl) (by kernel_rfl) (by kernel_rfl) (fun _ _ _ h => h) (Or.inl ⟨by rfl, ?h37c⟩) (by assumption) ?r37c
              case h37c => intro w hSw; (try dsimp only at hSw); go_simp; first | done | with_reducible rfl
              try simp only [Act.put, List.setIfInBounds_toArray, List.set_cons_zero, List.set_cons_succ]
              refine take1 (i := 38) (v := ?v38c) (some 90) rfl rfl (by kernel_rfl) (by kernel_rfl) (by kernel_rfl) (fun _ _ _ h => h) (Or.inl ⟨by rfl, ?h38c⟩) (by assumption) ?r38c
              case h38c => intro w hSw; (try dsimp only at hSw); go_simp; first | done | with_reducible rfl
              try simp only [Act.put, List.setIfInBounds_toArray, List.set_cons_zero, List.set_cons_succ]
              refine take1 (i := 39) (v := ?v39c) (some 91) rfl rfl (by kernel_rfl) (by kernel_rfl) (by kernel_rfl) (fun _ _ _ h => h) (Or.inl ⟨by rfl, ?h39c⟩) (by assumption) ?r39c
              case h39c => intro w hSw; (try dsimp only at hSw); go_simp; first | done | with_reducible rfl
              try simp only [Act.put, List.setIfInBounds_toArray, List.set_cons_zero, List.set_cons_succ]
              refine take1 (i := 40) (v := ?v40c) (some 92) rfl rfl (by kernel_rfl) (by kernel_rfl) (by kernel_rfl) (fun _ _ _ h => h) (Or.inl ⟨by rfl, ?h40c⟩) (by assumption) ?r40c
              case h40c => intro w hSw; (try dsimp only at hSw); go_simp; first | done | with_reducible rfl
              try simp only [Act.put, List.setIfInBounds_toArray, List.set_cons_zero, List.set_cons_succ]
              refine take1 (i := 41) (v := ?v41c) (some 93) rfl rfl (by kernel_rfl) (by kernel_rfl) (by kernel_rfl) (fun _ _ _ h => h) (Or.inl ⟨by rfl, ?h41c⟩) (by assumption) ?r41c
              case h41c => intro w hSw; (try dsimp only at hSw); go_simp; first | done | with_reducible rfl
              try simp only [Act.put, List.setIfInBounds_toArray, List.set_cons_zero, List.set_cons_succ]
              refine take1 (i := 42) (v := ?v42c) (some 94) rfl rfl (by kernel_rfl) (by kernel_rfl) (by kernel_rfl) (fun _ _ _ h => h) (Or.inl ⟨by rfl, ?h42c⟩) (by assumption) ?r42c
              case h42c => intro w hSw; (try dsimp only at hSw); go_simp; first | done | with_reducible rfl
              try simp only [Act.put, List.setIfInBounds_toArray, List.set_cons_zero, List.set_cons_succ]
              refine take1 (i := 43) (v := ?v43c) (some 95) rfl rfl (by kernel_rfl) (by kernel_rfl) (by kernel_rfl) (fun _ _ _ h => h) (Or.inl ⟨by rfl, ?h43c⟩) (by assumption) ?r43c
              case h43c => intro w hSw; (try dsimp only at hSw); go_simp; first | done | with_reducible rfl
              try simp only [Act.put, List.setIfInBounds_toArray, List.set_cons_zero, List.set_cons_succ]
              refine take1 (i := 44) (v := ?v44c) (some 96) rfl rfl (by kernel_rfl) (by kernel_rfl) (by kernel_rfl) (fun _ _ _ h => h) (Or.inl ⟨by rfl, ?h44c⟩) (by assumption) ?r44c
              case h44c => intro w hSw; (try dsimp only at hSw); go_simp; first | done | with_reducible rfl
              try simp only [Act.put, List.setIfInBounds_toArray, List.set_cons_zero, List.set_cons_succ]
              refine take1 (i := 45) (v := ?v45c) (some 97) rfl rfl (by kernel_rfl) (by kernel_rfl) (by kernel_rfl) (fun _ _ _ h => h) (Or.inl ⟨by rfl, ?h45c⟩) (by assumption) ?r45c
              case h45c => intro w hSw; (try dsimp only at hSw); go_simp; first | done | with_reducible rfl
              try simp only [Act.put, List.setIfInBounds_toArray, List.set_cons_zero, List.set_cons_succ]
              refine take1 (i := 46) (v := ?v46c) (some 98) rfl rfl (by kernel_rfl) (by kernel_rfl) (by kernel_rfl) (fun _ _ _ h => h) (Or.inl ⟨by rfl, ?h46c⟩) (by assumption) ?r46c
              case h46c => intro w hSw; (try dsimp only at hSw); go_simp; first | done | with_reducible rfl
              try simp only [Act.put, List.setIfInBounds_toArray, List.set_cons_zero, List.set_cons_succ]
              refine take1 (i := 47) (v := ?v47c) (some 99) rfl rfl (by kernel_rfl) (by kernel_rfl) (by kernel_rfl) (fun _ _ _ h => h) (Or.inl ⟨by rfl, ?h47c⟩) (by assumption) ?r47c
              case h47c => intro w hSw; (try dsimp only at hSw); go_simp; first | done | with_reducible rfl
              try simp only [Act.put, List.setIfInBounds_toArray, List.set_cons_zero, List.set_cons_succ]
              refine take1 (i := 48) (v := ?v48c) (some 100) rfl rfl (by kernel_rfl) (by kernel_rfl) (by kernel_rfl) (fun _ _ _ h => h) (Or.inl ⟨by rfl, ?h48c⟩) (by assumption) ?r48c
              case h48c => intro w hSw; (try dsimp only at hSw); go_simp; first | done | with_reducible rfl
              try simp only [Act.put, List.setIfInBounds_toArray, List.set_cons_zero, List.set_cons_succ]
              refine take1 (i := 49) (v := ?v49c) (some 101) rfl rfl (by kernel_rfl) (by kernel_rfl) (by kernel_rfl) (fun _ _ _ h => h) (Or.inl ⟨by rfl, ?h49c⟩) (by assumption) ?r49c
              case h49c => intro w hSw; (try dsimp only at hSw); go_simp; first | done | with_reducible rfl
              try simp only [Act.put, List.setIfInBounds_toArray, List.set_cons_zero, List.set_cons_succ]
              refine take1 (i := 50) (v := ?v50c) (some 102) rfl rfl (by kernel_rfl) (by kernel_rfl) (by kernel_rfl) (fun _ _ _ h => h) (Or.inl ⟨by rfl, ?h50c⟩) (by assumption) ?r50c
              case h50c => intro w hSw; (try dsimp only at hSw); go_simp; first | done | with_reducible rfl
              try simp only [Act.put, List.setIfInBounds_toArray, List.set_cons_zero, List.set_cons_succ]
              refine take1 (i := 51) (v := ?v51c) (some 103) rfl rfl (by kernel_rfl) (by kernel_rfl) (by kernel_rfl) (fun _ _ _ h => h) (Or.inl ⟨by rfl, ?h51c⟩) (by assumption) ?r51c
              case h51c => intro w hSw; (try dsimp only at hSw); go_simp; first | done | with_reducible rfl
              try simp only [Act.put, List.setIfInBounds_toArray, List.set_cons_zero, List.set_cons_succ]
              refine take1 (i := 52) (v := ?v52c) (some 104) rfl rfl (by kernel_rfl) (by kernel_rfl) (by kernel_rfl) (fun _ _ _ h => h) (Or.inl ⟨by rfl, ?h52c⟩) (by assumption) ?r52c
              case h52c => intro w hSw; (try dsimp only at hSw); go_simp; first | done | with_reducible rfl
              try simp only [Act.put, List.setIfInBounds_toArray, List.set_cons_zero, List.set_cons_succ]
              refine take1 (i := 53) (v := ?v53c) (some 105) rfl rfl (by kernel_rfl) (by kernel_rfl) (by kernel_rfl) (fun _ _ _ h => h) (Or.inl ⟨by rfl, ?h53c⟩) (by assumption) ?r53c
              case h53c => intro w hSw; (try dsimp only at hSw); go_simp; first | done | with_reducible rfl
              try simp only [Act.put, List.setIfInBounds_toArray, List.set_cons_zero, List.set_cons_succ]
              refine wpAnyH_done (by kernel_rfl) ?_ _
              refine NoPanic.normal ?_
              clear kA kB kC kD kE hk1 hk2 hk3 hk4 hx2le k0 HK H1 b1 H2 b2 H3 b3
              have HL := Lib.hid L3.out
              have BX := Lib.hid B3.out
              have c0 := k3.2.2.1
              have c1 := k3.1
              have c2 := k3.2.1
              have HTX := Lib.hid (HT3.out.keep BX.out)
              have RWX := Lib.hid (RW3.out.keep BX.out)
              have hbX := Lib.hid (hb3.trans (BX.out.mono hb3.size))
              clear L1 B1 k1 L2 B2 k2 L3 B3 k3
              go_wp2
              obtain ⟨mk, hmk⟩ : ∃ mk : Nat, mk = 2 ^ x := ⟨_, rfl⟩
              have hmk2 : mk < 4294967296 := by rw [hmk]; exact Nat.lt_of_lt_of_le (Nat.pow_lt_pow_right (by omega) hx16b : 2 ^ x < 2 ^ 16) (by omega)
              have hs1 : IntKind.u32.wrap ((2 : Int) ^ min x 32) = (mk : Int) := by rw [Nat.min_eq_left (by omega), show (2 : Int) ^ x = ((mk : Nat) : Int) by rw [hmk]; simp]; show (mk : Int) % 4294967296 = _; omega
              have hs2 : IntKind.u32.wrap ((2 : Int) ^ x) = (mk : Int) := by rw [show (2 : Int) ^ x = ((mk : Nat) : Int) by rw [hmk]; simp]; show (mk : Int) % 4294967296 = _; omega
              have hs3 : (2 : Int) ^ x % 4294967296 = (mk : Int) := by rw [show (2 : Int) ^ x = ((mk : Nat) : Int) by rw [hmk]; simp]; omega
              have HMK := Lib.hid hmk
              clear hmk
              have HBA : Hid (∀ d o, Below X3.heap.size X3 ((X3.drewN d).alloc o)) := fun d o => (below_drewN _ _ d).alloc (by simp) o
              have HSX : Hid (∀ d, RdS ((X3.drewN d).alloc (.cells #[.int .u32 lo, .int .u32 hi] 37)) (.slice (some ⟨X3.heap.size, 0, none⟩) 1 1) [(lo, hi)]) := fun d => rdS_at [(lo, hi)] (heap_alloc_at (X3.drewN d) _) (by intro s hs; simp at hs; subst hs; exact ⟨by omega, hhi⟩) (by simp) 1 rfl
              have HTA : Hid (∀ d o, Tab ((X3.drewN d).alloc o)) := fun d o => HTX.out.keep (HBA.out d o)
              have HRA : Hid (∀ d o, RdA ((X3.drewN d).alloc o) _ (partK cl k)) := fun d o => RWX.out.keep (HBA.out d o)
              have HPS : Hid (Sm 20 (partK cl k)) := by show Sm 20 _; rw [HCL.out]; exact partK_sm W_a.out S_a.out k
              have HPL := Lib.hid (partK_len cl k)
              have cX : ∀ W', (∃ d, W' = X3.drewN d) → W'.cell? ⟨wr.heap.size, 0, none⟩ = some (.int .i64 x) ∧ W'.cell? ⟨wr.heap.size, 1, none⟩ = some (.int .u32 lo) ∧ W'.cell? ⟨wr.heap.size, 2, none⟩ = some (.int .u32 hi) := by rintro W' ⟨d, rfl⟩; exact ⟨c0, c1, c2⟩
              have cA : ∀ W', (∃ d o, W' = (X3.drewN d).alloc o) → W'.cell? ⟨wr.heap.size, 0, none⟩ = some (.int .i64 x) ∧ W'.cell? ⟨wr.heap.size, 1, none⟩ = some (.int .u32 lo) ∧ W'.cell? ⟨wr.heap.size, 2, none⟩ = some (.int .u32 hi) := by rintro W' ⟨d, o, rfl⟩; exact ⟨keep_cell (HBA.out d o) c0, keep_cell (HBA.out d o) c1, keep_cell (HBA.out d o) c2⟩
              clear c0 c1 c2
              first
                | (go_region_held3 (fun W' => W'.cell? ⟨wr.heap.size, 0, none⟩ = some (.int .i64 x) ∧ W'.cell? ⟨wr.heap.size, 1, none⟩ = some (.int .u32 lo) ∧ W'.cell? ⟨wr.heap.size, 2, none⟩ = some (.int .u32 hi))
                    (first | with_reducible exact m2 | with_reducible exact m1 | exact cX _ (by first | exact ⟨_, rfl⟩ | exact drewN_ex _ _ _ | exact drew_ex _ _) | exact cA _ ⟨1, _, rfl⟩)
                    (first
                      | (go_at_call 12; have hS := m1; refine (area_union _ _ _ (partK cl k) (ofL 16 (bitsN mk) (nf [(lo, hi)])) 20 1 RW1.out RO.out (Nat.le_trans HPL.out (by omega)) (by rw [ofL_len]; omega) HPS.out (ofL_sm (nf_one lo hi hhi hlo)) (by omega) (by omega)).mono ?_; rintro e Y2 ⟨v_u, u, rfl, R_u, l_u, h_u, -, b2⟩; obtain ⟨A_u, c_u, rfl, -⟩ := id R_u; have LU := Lib.hid l_u; clear l_u; have m2 : Y2.cell? ⟨wr.heap.size, 0, none⟩ = some (.int .i64 x) ∧ Y2.cell? ⟨wr.heap.size, 1, none⟩ = some (.int .u32 lo) ∧ Y2.cell? ⟨wr.heap.size, 2, none⟩ = some (.int .u32 hi) := ⟨keep_cell b2 m1.1, keep_cell b2 m1.2.1, keep_cell b2 m1.2.2⟩; have BY := Lib.hid (B1.out.trans (b2.mono B1.out.size)))
                      | (go_at_call 15; refine (of_calls _ 16 mk _ [(lo, hi)] (HSX.out _) (by simp) hmk2 (HTA.out _ _)).mono ?_; rw [show (min (max (16 : Int) 0) 16).toNat = 16 by decide]; rintro e Y1 ⟨χo, rfl, O, b1⟩; have RO := O.rd (by rw [ofL_len]; omega); rw [World.size_alloc] at RO; have RO := Lib.hid RO; have m1 : Y1.cell? ⟨wr.heap.size, 0, none⟩ = some (.int .i64 x) ∧ Y1.cell? ⟨wr.heap.size, 1, none⟩ = some (.int .u32 lo) ∧ Y1.cell? ⟨wr.heap.size, 2, none⟩ = some (.int .u32 hi) := ⟨keep_cell b1 (cA _ ⟨1, _, rfl⟩).1, keep_cell b1 (cA _ ⟨1, _, rfl⟩).2.1, keep_cell b1 (cA _ ⟨1, _, rfl⟩).2.2⟩; have RW1 := Lib.hid ((HRA.out _ _).keep b1); have B1 := Lib.hid ((HBA.out _ _).trans (b1.mono (HBA.out _ _).size)))))
              have hu := step_at HCL.out W_a.out hlt HX.out HMK.out h_u LU.out ⟨by show lo < _; omega, hhi⟩
              subst hu
              have hbY := hbX.trans (BY.out.mono hbX.size)
              have RY := Lib.hid R_u
              clear h_u LU m1 m2 RO RW1 B1 R_u hs1 hs2 hs3
              go_wp2
              refine ⟨⟨k + 1, hlt, by go_num, RY, hbY⟩, by simp [intOf]; omega⟩
            · skip
              have kB : decide (0 < lo) = true := by simp; omega
              have kC : decide (0 < ph) = false := by simp; omega
              have kD : decide (0 < k) = false := by simp; omega
              obtain ⟨-, c0, c1, c2, d0, d1, e0, e1, f0, f1, g0, g1⟩ := hX
              have k0 : ∀ W', (∃ d, W' = W3.drewN d) → W'.cell? ⟨wr.heap.size, 1, none⟩ = some (.int .u32 lo) ∧ W'.cell? ⟨wr.heap.size, 2, none⟩ = some (.int .u32 hi) ∧ W'.cell? ⟨wr.heap.size, 0, none⟩ = some (.int .i64 x) ∧ W'.cell? ⟨wr.heap.size + 1, 0, none⟩ = some (.int .i64 x) ∧ W'.cell? ⟨wr.heap.size + 1, 1, none⟩ = some (.int .u32 lo) ∧ W'.cell? ⟨wr.heap.size + 1 + 1, 0, none⟩ = some (.int .i64 x) ∧ W'.cell? ⟨wr.heap.size + 1 + 1, 1, none⟩ = some (.int .u32 hi) ∧ W'.cell? ⟨g9, 0, none⟩ = some (.int .i64 x) ∧ W'.cell? ⟨g9, 1, none⟩ = some (.int .u32 pl) ∧ W'.cell? ⟨g10, 0, none⟩ = some (.int .i64 x) ∧ W'.cell? ⟨g10, 1, none⟩ = some (.int .u32 ph) := by rintro W' ⟨d, rfl⟩; exact ⟨c1, c2, c0, d0, d1, e0, e1, f0, f1, g0, g1⟩
              have HK : Hid (∀ W W' : World, Below W.heap.size W W' → (W.cell? ⟨wr.heap.size, 1, none⟩ = some (.int .u32 lo) ∧ W.cell? ⟨wr.heap.size, 2, none⟩ = some (.int .u32 hi) ∧ W.cell? ⟨wr.heap.size, 0, none⟩ = some (.int .i64 x) ∧ W.cell? ⟨wr.heap.size + 1, 0, none⟩ = some (.int .i64 x) ∧ W.cell? ⟨wr.heap.size + 1, 1, none⟩ = some (.int .u32 lo) ∧ W.cell? ⟨wr.heap.size + 1 + 1, 0, none⟩ = some (.int .i64 x) ∧ W.cell? ⟨wr.heap.size + 1 + 1, 1, none⟩ = some (.int .u32 hi) ∧ W.cell? ⟨g9, 0, none⟩ = some (.int .i64 x) ∧ W.cell? ⟨g9, 1, none⟩ = some (.int .u32 pl) ∧ W.cell? ⟨g10, 0, none⟩ = some (.int .i64 x) ∧ W.cell? ⟨g10, 1, none⟩ = some (.int .u32 ph)) → W'.cell? ⟨wr.heap.size, 1, none⟩ = some (.int .u32 lo) ∧ W'.cell? ⟨wr.heap.size, 2, none⟩ = some (.int .u32 hi) ∧ W'.cell? ⟨wr.heap.size, 0, none⟩ = some (.int .i64 x) ∧ W'.cell? ⟨wr.heap.size + 1, 0, none⟩ = some (.int .i64 x) ∧ W'.cell? ⟨wr.heap.size + 1, 1, none⟩ = some (.int .u32 lo) ∧ W'.cell? ⟨wr.heap.size + 1 + 1, 0, none⟩ = some (.int .i64 x) ∧ W'.cell? ⟨wr.heap.size + 1 + 1, 1, none⟩ = some (.int .u32 hi) ∧ W'.cell? ⟨g9, 0, none⟩ = some (.int .i64 x) ∧ W'.cell? ⟨g9, 1, none⟩ = some (.int .u32 pl) ∧ W'.cell? ⟨g10, 0, none⟩ = some (.int .i64 x) ∧ W'.cell? ⟨g10, 1, none⟩ = some (.int .u32 ph)) := fun W W' hb ⟨q0, q1, q2, q3, q4, q5, q6, q7, q8, q9, q10⟩ => ⟨keep_cell hb q0, keep_cell hb q1, keep_cell hb q2, keep_cell hb q3, keep_cell hb q4, keep_cell hb q5, keep_cell hb q6, keep_cell hb q7, keep_cell hb q8, keep_cell hb q9, keep_cell hb q10⟩
              clear c0 c1 c2 d0 d1 e0 e1 f0 f1 g0 g1
              have H1 := Lib.hid HI1.out
              have H2 := Lib.hid HI2.out
              have H3 := Lib.hid (HI3 (by omega) (hpl2 (by omega)))
              clear HI3 HI4 hpl2 hph2 hph3
              have kS := k0 W3.drew ⟨1, rfl⟩
              refine wp_region_noPanic ?_
              refine wp_region_held_drew (S := fun W' => W'.cell? ⟨wr.heap.size, 1, none⟩ = some (.int .u32 lo) ∧ W'.cell? ⟨wr.heap.size, 2, none⟩ = some (.int .u32 hi) ∧ W'.cell? ⟨wr.heap.size, 0, none⟩ = some (.int .i64 x) ∧ W'.cell? ⟨wr.heap.size + 1, 0, none⟩ = some (.int .i64 x) ∧ W'.cell? ⟨wr.heap.size + 1, 1, none⟩ = some (.int .u32 lo) ∧ W'.cell? ⟨wr.heap.size + 1 + 1, 0, none⟩ = some (.int .i64 x) ∧ W'.cell? ⟨wr.heap.size + 1 + 1, 1, none⟩ = some (.int .u32 hi) ∧ W'.cell? ⟨g9, 0, none⟩ = some (.int .i64 x) ∧ W'.cell? ⟨g9, 1, none⟩ = some (.int .u32 pl) ∧ W'.cell? ⟨g10, 0, none⟩ = some (.int .i64 x) ∧ W'.cell? ⟨g10, 1, none⟩ = some (.int .u32 ph)) (by kernel_rfl) kS (fun hHeld => ?_)
              clear kS
              refine take1 (i := 0) (v := ?v0d) (some 52) rfl rfl (by kernel_rfl) (by kernel_rfl) (by kernel_rfl) (fun _ _ _ h => h) (Or.inl ⟨by rfl, ?h0d⟩) (by assumption) ?r0d
              case h0d => intro w hSw; (try dsimp only at hSw); go_simp; first | done | with_reducible rfl
              try simp only [Act.put, List.setIfInBounds_toArray, List.set_cons_zero, List.set_cons_succ]
              refine take1 (i := 1) (v := ?v1d) (some 53) rfl rfl (by kernel_rfl) (by kernel_rfl) (by kernel_rfl) (fun _ _ _ h => h) (Or.inl ⟨by rfl, ?h1d⟩) (by assumption) ?r1d
              case h1d => intro w hSw; (try dsimp only at hSw); go_simp; first | done | with_reducible rfl
              try simp only [Act.put, List.setIfInBounds_toArray, List.set_cons_zero, List.set_cons_succ]
              refine take1 (i := 2) (v := ?v2d) (some 54) rfl rfl (by kernel_rfl) (by kernel_rfl) (by kernel_rfl) (fun _ _ _ h => h) (Or.inl ⟨by rfl, ?h2d⟩) (by assumption) ?r2d
              case h2d => intro w hSw; (try dsimp only at hSw); go_simp; first | done | with_reducible rfl
              try simp only [Act.put, List.setIfInBounds_toArray, List.set_cons_zero, List.set_cons_succ]
              refine take1 (i := 3) (v := ?v3d) (some 55) rfl rfl (by kernel_rfl) (by kernel_rfl) (by kernel_rfl) (fun _ _ _ h => h) (Or.inl ⟨by rfl, ?h3d⟩) (by assumption) ?r3d
              case h3d => intro w hSw; (try dsimp only at hSw); go_simp; first | done | with_reducible rfl
              try simp only [Act.put, List.setIfInBounds_toArray, List.set_cons_zero, List.set_cons_succ]
              refine take1 (i := 4) (v := ?v4d) (some 56) rfl rfl (by kernel_rfl) (by kernel_rfl) (by kernel_rfl) (fun _ _ _ h => h) (Or.inl ⟨by rfl, ?h4d⟩) (by assumption) ?r4d
              case h4d => intro w hSw; (try dsimp only at hSw); go_simp; first | done | with_reducible rfl
              try simp only [Act.put, List.setIfInBounds_toArray, List.set_cons_zero, List.set_cons_succ]
              refine take1 (i := 5) (v := ?v5d) (some 57) rfl rfl (by kernel_rfl) (by kernel_rfl) (by kernel_rfl) (fun _ _ _ h => h) (Or.inl ⟨by rfl, ?h5d⟩) (by assumption) ?r5d
              case h5d => intro w hSw; (try dsimp only at hSw); go_simp; first | done | with_reducible rfl
              try simp only [Act.put, List.setIfInBounds_toArray, List.set_cons_zero, List.set_cons_succ]
              refine take1 (i := 6) (v := ?v6d) (some 58) rfl rfl (by kernel_rfl) (by kernel_rfl) (by kernel_rfl) (fun _ _ _ h => h) (Or.inl ⟨by rfl, ?h6d⟩) (by assumption) ?r6d
              case h6d => intro w hSw; (try dsimp only at hSw); go_simp; first | done | with_reducible rfl
              try simp only [Act.put, List.setIfInBounds_toArray, List.set_cons_zero, List.set_cons_succ]
              refine take1 (i := 7) (v := ?v7d) (some 59) rfl rfl (by kernel_rfl) (by kernel_rfl) (by kernel_rfl) (fun _ _ _ h => h) (Or.inl ⟨by rfl, ?h7d⟩) (by assumption) ?r7d
              case h7d => intro w hSw; (try dsimp only at hSw); go_simp; first | done | with_reducible rfl
              try simp only [Act.put, List.setIfInBounds_toArray, List.set_cons_zero, List.set_cons_succ]
              refine take1 (i := 8) (v := ?v8d) (some 60) rfl rfl (by kernel_rfl) (by kernel_rfl) (by kernel_rfl) (fun _ _ _ h => h) (Or.inl ⟨by rfl, ?h8d⟩) (by assumption) ?r8d
              case h8d => intro w hSw; (try dsimp only at hSw); go_simp; first | done | with_reducible rfl
              try simp only [Act.put, List.setIfInBounds_toArray, List.set_cons_zero, List.set_cons_succ]
              refine take1 (i := 9) (v := ?v9d) (some 61) rfl rfl (by kernel_rfl) (by kernel_rfl) (by kernel_rfl) (fun _ _ _ h => h) (Or.inl ⟨by rfl, ?h9d⟩) (by assumption) ?r9d
              case h9d => intro w hSw; (try dsimp only at hSw); go_simp; first | done | with_reducible rfl
              try simp only [Act.put, List.setIfInBounds_toArray, List.set_cons_zero, List.set_cons_succ]
              refine wpAnyH_ready (rs := [10]) (by kernel_rfl) (by simp) ?_
              refine AllReadyH.cons rfl (fun K hK => ?_) AllReadyH.nil
              simp only [List.getElem_toArray, List.getElem_cons_zero, List.getElem_cons_succ]
              go_simp
              refine (has_b _ _ a x lo _ ((HL3.out.keep (below_drewN _ _ _)).at_ 0 rfl) H1.out).mono ?_
              rintro e X1 ⟨rfl, b1⟩
              have k1 := HK.out _ _ b1 (k0 _ ⟨1, rfl⟩)
              have L1 := Lib.hid ((HL3.out.keep (below_drewN _ _ 1)).keep b1)
              have B1 := Lib.hid ((hself.out.trans (below_drewN _ _ 1)).trans (b1.mono (hself.out.trans (below_drewN _ _ 1)).size))
              go_wp2_with fail
              clear hHeld
              refine hK.out _ _ k1 (fun hHeld => ?_)
              clear hK K
              try simp only [Act.put, List.setIfInBounds_toArray, List.set_cons_zero, List.set_cons_succ]
              refine take1 (i := 11) (v := ?v11d) (some 63) rfl rfl (by kernel_rfl) (by kernel_rfl) (by kernel_rfl) (fun _ _ _ h => h) (Or.inl ⟨by rfl, ?h11d⟩) (by assumption) ?r11d
              case h11d => intro w hSw; (try dsimp only at hSw); go_simp; first | done | with_reducible rfl
              try simp only [Act.put, List.setIfInBounds_toArray, List.set_cons_zero, List.set_cons_succ]
              refine take1 (i := 12) (v := ?v12d) (some 64) rfl rfl (by kernel_rfl) (by kernel_rfl) (by kernel_rfl) (fun _ _ _ h => h) (Or.inl ⟨by rfl, ?h12d⟩) (by assumption) ?r12d
              case h12d => intro w hSw; (try dsimp only at hSw); go_simp; first | done | with_reducible rfl
              try simp only [Act.put, List.setIfInBounds_toArray, List.set_cons_zero, List.set_cons_succ]
              refine take1 (i := 13) (v := ?v13d) (some 65) rfl rfl (by kernel_rfl) (by kernel_rfl) (by kernel_rfl) (fun _ _ _ h => h) (Or.inl ⟨by rfl, ?h13d⟩) (by assumption) ?r13d
              case h13d => intro w hSw; (try dsimp only at hSw); go_simp; first | done | with_reducible rfl
              try simp only [Act.put, List.setIfInBounds_toArray, List.set_cons_zero, List.set_cons_succ]
              refine take1 (i := 14) (v := ?v14d) (some 66) rfl rfl (by kernel_rfl) (by kernel_rfl) (by kernel_rfl) (fun _ _ _ h => h) (Or.inl ⟨by rfl, ?h14d⟩) (by assumption) ?r14d
              case h14d => intro w hSw; (try dsimp only at hSw); go_simp; first | done | with_reducible rfl
              try simp only [Act.put, List.setIfInBounds_toArray, List.set_cons_zero, List.set_cons_succ]
              refine take1 (i := 15) (v := ?v15d) (some 67) rfl rfl (by kernel_rfl) (by kernel_rfl) (by kernel_rfl) (fun _ _ _ h => h) (Or.inl ⟨by rfl, ?h15d⟩) (by assumption) ?r15d
              case h15d => intro w hSw; (try dsimp only at hSw); go_simp; first | done | with_reducible rfl
              try simp only [Act.put, List.setIfInBounds_toArray, List.set_cons_zero, List.set_cons_succ]
              refine wpAnyH_ready (rs := [16]) (by kernel_rfl) (by simp) ?_
              refine AllReadyH.cons rfl (fun K hK => ?_) AllReadyH.nil
              simp only [List.getElem_toArray, List.getElem_cons_zero, List.getElem_cons_succ]
              go_simp
              refine (has_b _ _ a x hi _ (L1.out.at_ 0 rfl) H2.out).mono ?_
              rintro e X2 ⟨rfl, b2⟩
              have k2 := HK.out _ _ b2 k1
              have L2 := Lib.hid (L1.out.keep b2)
              have B2 := Lib.hid (B1.out.trans (b2.mono B1.out.size))
              go_wp2_with fail
              clear hHeld
              refine hK.out _ _ k2 (fun hHeld => ?_)
              clear hK K
              try simp only [Act.put, List.setIfInBounds_toArray, List.set_cons_zero, List.set_cons_succ]
              refine take1 (i := 17) (v := ?v17d) (some 69) rfl rfl (by kernel_rfl) (by kernel_rfl) (by kernel_rfl) (fun _ _ _ h => h) (Or.inl ⟨by rfl, ?h17d⟩) (by assumption) ?r17d
              case h17d => intro w hSw; (try dsimp only at hSw); go_simp; first | done | with_reducible rfl
              try simp only [Act.put, List.setIfInBounds_toArray, List.set_cons_zero, List.set_cons_succ]
              refine take1 (i := 18) (v := ?v18d) (some 70) rfl rfl (by kernel_rfl) (by kernel_rfl) (by kernel_rfl) (fun _ _ _ h => h) (Or.inl ⟨by rfl, ?h18d⟩) (by assumption) ?r18d
              case h18d => intro w hSw; (try dsimp only at hSw); go_simp; first | done | with_reducible rfl
              try simp only [Act.put, List.setIfInBounds_toArray, List.set_cons_zero, List.set_cons_succ]
              refine take1 (i := 19) (v := ?v19d) (some 71) rfl rfl (by kernel_rfl) (by kernel_rfl) (by kernel_rfl) (fun _ _ _ h => h) (Or.inl ⟨by rfl, ?h19d⟩) (by assumption) ?r19d
              case h19d => intro w hSw; (try dsimp only at hSw); go_simp; first | done | with_reducible rfl
              try simp only [Act.put, List.setIfInBounds_toArray, List.set_cons_zero, List.set_cons_succ]
              refine take1 (i := 20) (v := ?v20d) (some 72) rfl rfl (by kernel_rfl) (by kernel_rfl) (by kernel_rfl) (fun _ _ _ h => h) (Or.inl ⟨by rfl, ?h20d⟩) (by assumption) ?r20d
              case h20d => intro w hSw; (try dsimp only at hSw); go_simp; first | done | with_reducible rfl
              try simp only [Act.put, List.setIfInBounds_toArray, List.set_cons_zero, List.set_cons_succ]
              refine take1 (i := 21) (v := ?v21d) (some 73) rfl rfl (by kernel_rfl) (by kernel_rfl) (by kernel_rfl) (fun _ _ _ h => h) (Or.inl ⟨by rfl, ?h21d⟩) (by assumption) ?r21d
              case h21d => intro w hSw; (try dsimp only at hSw); go_simp; first | done | with_reducible rfl
              try simp only [Act.put, List.setIfInBounds_toArray, List.set_cons_zero, List.set_cons_succ]
              refine take1 (i := 22) (v := ?v22d) (some 74) rfl rfl (by kernel_rfl) (by kernel_rfl) (by kernel_rfl) (fun _ _ _ h => h) (Or.inl ⟨by rfl, ?h22d⟩) (by assumption) ?r22d
              case h22d => intro w hSw; (try dsimp only at hSw); go_simp; first | done | with_reducible rfl
              try simp only [Act.put, List.setIfInBounds_toArray, List.set_cons_zero, List.set_cons_succ]
              refine take1 (i := 23) (v := ?v23d) (some 75) rfl rfl (by kernel_rfl) (by kernel_rfl) (by kernel_rfl) (fun _ _ _ h => h) (Or.inl ⟨by rfl, ?h23d⟩) (by assumption) ?r23d
              case h23d => intro w hSw; (try dsimp only at hSw); go_simp; first | done | with_reducible rfl
              try simp only [Act.put, List.setIfInBounds_toArray, List.set_cons_zero, List.set_cons_succ]
              refine take1 (i := 24) (v := ?v24d) (some 76) rfl rfl (by kernel_rfl) (by kernel_rfl) (by kernel_rfl) (fun _ _ _ h => h) (Or.inl ⟨by rfl, ?h24d⟩) (by assumption) ?r24d
              case h24d => intro w hSw; (try dsimp only at hSw); go_simp; first | done | with_reducible rfl
              try simp only [Act.put, List.setIfInBounds_toArray, List.set_cons_zero, List.set_cons_succ]
              refine take1 (i := 25) (v := ?v25d) (some 77) rfl rfl (by kernel_rfl) (by kernel_rfl) (by kernel_rfl) (fun _ _ _ h => h) (Or.inl ⟨by rfl, ?h25d⟩) (by assumption) ?r25d
              case h25d => intro w hSw; (try dsimp only at hSw); go_simp; first | done | with_reducible rfl
              try simp only [Act.put, List.setIfInBounds_toArray, List.set_cons_zero, List.set_cons_succ]
              refine wpAnyH_ready (rs := [26]) (by kernel_rfl) (by simp) ?_
              refine AllReadyH.cons rfl (fun K hK => ?_) AllReadyH.nil
              simp only [List.getElem_toArray, List.getElem_cons_zero, List.getElem_cons_succ]
              go_simp
              refine (has_b _ _ a x pl _ (L2.out.at_ 0 rfl) H3.out).mono ?_
              rintro e X3 ⟨rfl, b3⟩
              have k3 := HK.out _ _ b3 k2
              have L3 := Lib.hid (L2.out.keep b3)
              have B3 := Lib.hid (B2.out.trans (b3.mono B2.out.size))
              go_wp2_with fail
              clear hHeld
              refine hK.out _ _ k3 (fun hHeld => ?_)
              clear hK K
              try simp only [Act.put, List.setIfInBounds_toArray, List.set_cons_zero, List.set_cons_succ]
              refine take1 (i := 27) (v := ?v27d) (some 79) rfl rfl (by kernel_rfl) (by kernel_rfl) (by kernel_rfl) (fun _ _ _ h => h) (Or.inl ⟨by rfl, ?h27d⟩) (by assumption) ?r27d
              case h27d => intro w hSw; (try dsimp only at hSw); go_simp; first | done | with_reducible rfl
              try simp only [Act.put, List.setIfInBounds_toArray, List.set_cons_zero, List.set_cons_succ]
              refine take1 (i := 28) (v := ?v28d) (some 80) rfl rfl (by kernel_rfl) (by kernel_rfl) (by kernel_rfl) (fun _ _ _ h => h) (Or.inl ⟨by rfl, ?h28d⟩) (by assumption) ?r28d
              case h28d => intro w hSw; (try dsimp only at hSw); go_simp; first | done | with_reducible rfl
              try simp only [Act.put, List.setIfInBounds_toArray, List.set_cons_zero, List.set_cons_succ]
              refine take1 (i := 29) (v := ?v29d) (some 81) rfl rfl (by kernel_rfl) (by kernel_rfl) (by kernel_rfl) (fun _ _ _ h => h) (Or.inl ⟨by rfl, ?h29d⟩) (by assumption) ?r29d
              case h29d => intro w hSw; (try dsimp only at hSw); go_simp; first | done | with_reducible rfl
              try simp only [Act.put, List.setIfInBounds_toArray, List.set_cons_zero, List.set_cons_succ]
              refine take1 (i := 30) (v := ?v30d) (some 82) rfl rfl (by kernel_rfl) (by kernel_rfl) (by kernel_rfl) (fun _ _ _ h => h) (Or.inl ⟨by rfl, ?h30d⟩) (by assumption) ?r30d
              case h30d => intro w hSw; (try dsimp only at hSw); go_simp; first | done | with_reducible rfl
              try simp only [Act.put, List.setIfInBounds_toArray, List.set_cons_zero, List.set_cons_succ]
              refine take1 (i := 31) (v := ?v31d) (some 83) rfl rfl (by kernel_rfl) (by kernel_rfl) (by kernel_rfl) (fun _ _ _ h => h) (Or.inl ⟨by rfl, ?h31d⟩) (by assumption) ?r31d
              case h31d => intro w hSw; (try dsimp only at hSw); go_simp; first | done | with_reducible rfl
              try simp only [Act.put, List.setIfInBounds_toArray, List.set_cons_zero, List.set_cons_succ]
              refine take1 (i := 32) (v := ?v32d) (some 84) rfl rfl (by kernel_rfl) (by kernel_rfl) (by kernel_rfl) (fun _ _ _ h => h) (Or.inl ⟨by rfl, ?h32d⟩) (by assumption) ?r32d
              case h32d => intro w hSw; (try dsimp only at hSw); go_simp; first | done | with_reducible rfl
              try simp only [Act.put, List.setIfInBounds_toArray, List.set_cons_zero, List.set_cons_succ]
              refine take1 (i := 33) (v := ?v33d) (some 85) rfl rfl (by kernel_rfl) (by kernel_rfl) (by kernel_rfl) (fun _ _ _ h => h) (Or.inl ⟨by rfl, ?h33d⟩) (by assumption) ?r33d
              case h33d => intro w hSw; (try dsimp only at hSw); go_simp; first | done | with_reducible rfl
              try simp only [Act.put, List.setIfInBounds_toArray, List.set_cons_zero, List.set_cons_succ]
              refine take1 (i := 34) (v := undef) (some 86) rfl rfl (by kernel_rfl) (by kernel_rfl) (by kernel_rfl) (fun _ _ _ h => h) (Or.inr ⟨by rfl, rfl⟩) (by assumption) ?_
              try simp only [Act.put, List.setIfInBounds_toArray, List.set_cons_zero, List.set_cons_succ]
              refine take1 (i := 35) (v := undef) (some 87) rfl rfl (by kernel_rfl) (by kernel_rfl) (by kernel_rfl) (fun _ _ _ h => h) (Or.inr ⟨by rfl, rfl⟩) (by assumption) ?_
              try simp only [Act.put, List.setIfInBounds_toArray, List.set_cons_zero, List.set_cons_succ]
              refine wpAnyH_ready (rs := [36]) (by kernel_rfl) (by simp) ?_
              refine AllReadyH.cons rfl (fun K hK => ?_) AllReadyH.nil
              simp only [List.getElem_toArray, List.getElem_cons_zero, List.getElem_cons_succ]
              go_simp
              refine hK.out _ _ hHeld (fun hHeld => ?_)
              clear hK K
              try simp only [Act.put, List.setIfInBounds_toArray, List.set_cons_zero, List.set_cons_succ]
              refine take1 (i := 37) (v := ?v37d) (some 89) rfl rfl (by kernel_rfl) (by kernel_rfl) (by kernel_rfl) (fun _ _ _ h => h) (Or.inl ⟨by rfl, ?h37d⟩) (by assumption) ?r37d
              case h37d => intro w hSw; (try dsimp only at hSw); go_simp; first | done | with_reducible rfl
              try simp only [Act.put, List.setIfInBounds_toArray, List.set_cons_zero, List.set_cons_succ]
              refine take1 (i := 38) (v := ?v38d) (some 90) rfl rfl (by kernel_rfl) (by kernel_rfl) (by kernel_rfl) (fun _ _ _ h => h) (Or.inl ⟨by rfl, ?h38d⟩) (by assumption) ?r38d
              case h38d => intro w hSw; (try dsimp only at hSw); go_simp; first | done | with_reducible rfl
              try simp only [Act.put, List.setIfInBounds_toArray, List.set_cons_zero, List.set_cons_succ]
              refine take1 (i := 39) (v := ?v39d) (some 91) rfl rfl (by kernel_rfl) (by kernel_rfl) (by kernel_rfl) (fun _ _ _ h => h) (Or.inl ⟨by rfl, ?h39d⟩) (by assumption) ?r39d
              case h39d => intro w hSw; (try dsimp only at hSw); go_simp; first | done | with_reducible rfl
              try simp only [Act.put, List.setIfInBounds_toArray, List.set_cons_zero, List.set_cons_succ]
              refine take1 (i := 40) (v := ?v40d) (some 92) rfl rfl (by kernel_rfl) (by kernel_rfl) (by kernel_rfl) (fun _ _ _ h => h) (Or.inl ⟨by rfl, ?h40d⟩) (by assumption) ?r40d
              case h40d => intro w hSw; (try dsimp only at hSw); go_simp; first | done | with_reducible rfl
              try simp only [Act.put, List.setIfInBounds_toArray, List.set_cons_zero, List.set_cons_succ]
              refine take1 (i := 41) (v := ?v41d) (some 93) rfl rfl (by kernel_rfl) (by kernel_rfl) (by kernel_rfl) (fun _ _ _ h => h) (Or.inl ⟨by rfl, ?h41d⟩) (by assumption) ?r41d
              case h41d => intro w hSw; (try dsimp only at hSw); go_simp; first | done | with_reducible rfl
              try simp only [Act.put, List.setIfInBounds_toArray, List.set_cons_zero, List.set_cons_succ]
              refine take1 (i := 42) (v := ?v42d) (some 94) rfl rfl (by kernel_rfl) (by kernel_rfl) (by kernel_rfl) (fun _ _ _ h => h) (Or.inl ⟨by rfl, ?h42d⟩) (by assumption) ?r42d
              case h42d => intro w hSw; (try dsimp only at hSw); go_simp; first | done | with_reducible rfl
              try simp only [Act.put, List.setIfInBounds_toArray, List.set_cons_zero, List.set_cons_succ]
              refine take1 (i := 43) (v := undef) (some 95) rfl rfl (by kernel_rfl) (by kernel_rfl) (by kernel_rfl) (fun _ _ _ h => h) (Or.inr ⟨by rfl, rfl⟩) (by assumption) ?_
              try simp only [Act.put, List.setIfInBounds_toArray, List.set_cons_zero, List.set_cons_succ]
              refine take1 (i := 44) (v := undef) (some 96) rfl rfl (by kernel_rfl) (by kernel_rfl) (by kernel_rfl) (fun _ _ _ h => h) (Or.inr ⟨by rfl, rfl⟩) (by assumption) ?_
              try simp only [Act.put, List.setIfInBounds_toArray, List.set_cons_zero, List.set_cons_succ]
              refine take1 (i := 45) (v := undef) (some 97) rfl rfl (by kernel_rfl) (by kernel_rfl) (by kernel_rfl) (fun _ _ _ h => h) (Or.inr ⟨by rfl, rfl⟩) (by assumption) ?_
              try simp only [Act.put, List.setIfInBounds_toArray, List.set_cons_zero, List.set_cons_succ]
              refine take1 (i := 46) (v := undef) (some 98) rfl rfl (by kernel_rfl) (by kernel_rfl) (by kernel_rfl) (fun _ _ _ h => h) (Or.inr ⟨by rfl, rfl⟩) (by assumption) ?_
              try simp only [Act.put, List.setIfInBounds_toArray, List.set_cons_zero, List.set_cons_succ]
              refine take1 (i := 47) (v := undef) (some 99) rfl rfl (by kernel_rfl) (by kernel_rfl) (by kernel_rfl) (fun _ _ _ h => h) (Or.inr ⟨by rfl, rfl⟩) (by assumption) ?_
              try simp only [Act.put, List.setIfInBounds_toArray, List.set_cons_zero, List.set_cons_succ]
              refine take1 (i := 48) (v := undef) (some 100) rfl rfl (by kernel_rfl) (by kernel_rfl) (by kernel_rfl) (fun _ _ _ h => h) (Or.inr ⟨by rfl, rfl⟩) (by assumption) ?_
              try simp only [Act.put, List.setIfInBounds_toArray, List.set_cons_zero, List.set_cons_succ]
              refine take1 (i := 49) (v := undef) (some 101) rfl rfl (by kernel_rfl) (by kernel_rfl) (by kernel_rfl) (fun _ _ _ h => h) (Or.inr ⟨by rfl, rfl⟩) (by assumption) ?_
              try simp only [Act.put, List.setIfInBounds_toArray, List.set_cons_zero, List.set_cons_succ]
              refine take1 (i := 50) (v := undef) (some 102) rfl rfl (by kernel_rfl) (by kernel_rfl) (by kernel_rfl) (fun _ _ _ h => h) (Or.inr ⟨by rfl, rfl⟩) (by assumption) ?_
              try simp only [Act.put, List.setIfInBounds_toArray, List.set_cons_zero, List.set_cons_succ]
              refine take1 (i := 51) (v := undef) (some 103) rfl rfl (by kernel_rfl) (by kernel_rfl) (by kernel_rfl) (fun _ _ _ h => h) (Or.inr ⟨by rfl, rfl⟩) (by assumption) ?_
              try simp only [Act.put, List.setIfInBounds_toArray, List.set_cons_zero, List.set_cons_succ]
              refine take1 (i := 52) (v := ?v52d) (some 104) rfl rfl (by kernel_rfl) (by kernel_rfl) (by kernel_rfl) (fun _ _ _ h => h) (Or.inl ⟨by rfl, ?h52d⟩) (by assumption) ?r52d
              case h52d => intro w hSw; (try dsimp only at hSw); go_simp; first | done | with_reducible rfl
              try simp only [Act.put, List.setIfInBounds_toArray, List.set_cons_zero, List.set_cons_succ]
              refine take1 (i := 53) (v := ?v53d) (some 105) rfl rfl (by kernel_rfl) (by kernel_rfl) (by kernel_rfl) (fun _ _ _ h => h) (Or.inl ⟨by rfl, ?h53d⟩) (by assumption) ?r53d
              case h53d => intro w hSw; (try dsimp only at hSw); go_simp; first | done | with_reducible rfl
              try simp only [Act.put, List.setIfInBounds_toArray, List.set_cons_zero, List.set_cons_succ]
              refine wpAnyH_done (by kernel_rfl) ?_ _
              refine NoPanic.normal ?_
              clear kA kB kC kD k0 HK H1 b1 H2 b2 H3 b3
              have HL := Lib.hid L3.out
              have BX := Lib.hid B3.out
              have c0 := k3.2.2.1
              have c1 := k3.1
              have c2 := k3.2.1
              have HTX := Lib.hid (HT3.out.keep BX.out)
              have RWX := Lib.hid (RW3.out.keep BX.out)
              have hbX := Lib.hid (hb3.trans (BX.out.mono hb3.size))
              clear L1 B1 k1 L2 B2 k2 L3 B3 k3
              go_wp2
              obtain ⟨mk, hmk⟩ : ∃ mk : Nat, mk = 2 ^ x := ⟨_, rfl⟩
              have hmk2 : mk < 4294967296 := by rw [hmk]; exact Nat.lt_of_lt_of_le (Nat.pow_lt_pow_right (by omega) hx16b : 2 ^ x < 2 ^ 16) (by omega)
              have hs1 : IntKind.u32.wrap ((2 : Int) ^ min x 32) = (mk : Int) := by rw [Nat.min_eq_left (by omega), show (2 : Int) ^ x = ((mk : Nat) : Int) by rw [hmk]; simp]; show (mk : Int) % 4294967296 = _; omega
              have hs2 : IntKind.u32.wrap ((2 : Int) ^ x) = (mk : Int) := by rw [show (2 : Int) ^ x = ((mk : Nat) : Int) by rw [hmk]; simp]; show (mk : Int) % 4294967296 = _; omega
              have hs3 : (2 : Int) ^ x % 4294967296 = (mk : Int) := by rw [show (2 : Int) ^ x = ((mk : Nat) : Int) by rw [hmk]; simp]; omega
              have HMK := Lib.hid hmk
              clear hmk
              have HBA : Hid (∀ d o, Below X3.heap.size X3 ((X3.drewN d).alloc o)) := fun d o => (below_drewN _ _ d).alloc (by simp) o
              have HSX : Hid (∀ d, RdS ((X3.drewN d).alloc (.cells #[.int .u32 lo, .int .u32 hi] 37)) (.slice (some ⟨X3.heap.size, 0, none⟩) 1 1) [(lo, hi)]) := fun d => rdS_at [(lo, hi)] (heap_alloc_at (X3.drewN d) _) (by intro s hs; simp at hs; subst hs; exact ⟨by omega, hhi⟩) (by simp) 1 rfl
              have HTA : Hid (∀ d o, Tab ((X3.drewN d).alloc o)) := fun d o => HTX.out.keep (HBA.out d o)
              have HRA : Hid (∀ d o, RdA ((X3.drewN d).alloc o) _ (partK cl k)) := fun d o => RWX.out.keep (HBA.out d o)
              have HPS : Hid (Sm 20 (partK cl k)) := by show Sm 20 _; rw [HCL.out]; exact partK_sm W_a.out S_a.out k
              have HPL := Lib.hid (partK_len cl k)
              have cX : ∀ W', (∃ d, W' = X3.drewN d) → W'.cell? ⟨wr.heap.size, 0, none⟩ = some (.int .i64 x) ∧ W'.cell? ⟨wr.heap.size, 1, none⟩ = some (.int .u32 lo) ∧ W'.cell? ⟨wr.heap.size, 2, none⟩ = some (.int .u32 hi) := by rintro W' ⟨d, rfl⟩; exact ⟨c0, c1, c2⟩
              have cA : ∀ W', (∃ d o, W' = (X3.drewN d).alloc o) → W'.cell? ⟨wr.heap.size, 0, none⟩ = some (.int .i64 x) ∧ W'.cell? ⟨wr.heap.size, 1, none⟩ = some (.int .u32 lo) ∧ W'.cell? ⟨wr.heap.size, 2, none⟩ = some (.int .u32 hi) := by rintro W' ⟨d, o, rfl⟩; exact ⟨keep_cell (HBA.out d o) c0, keep_cell (HBA.out d o) c1, keep_cell (HBA.out d o) c2⟩
              clear c0 c1 c2
              first
                | (go_region_held3 (fun W' => W'.cell? ⟨wr.heap.size, 0, none⟩ = some (.int .i64 x) ∧ W'.cell? ⟨wr.heap.size, 1, none⟩ = some (.int .u32 lo) ∧ W'.cell? ⟨wr.heap.size, 2, none⟩ = some (.int .u32 hi))
                    (first | with_reducible exact m2 | with_reducible exact m1 | exact cX _ (by first | exact ⟨_, rfl⟩ | exact drewN_ex _ _ _ | exact drew_ex _ _) | exact cA _ ⟨1, _, rfl⟩)
                    (first
                      | (go_at_call 12; have hS := m1; refine (area_union _ _ _ (partK cl k) (ofL 16 (bitsN mk) (nf [(lo, hi)])) 20 1 RW1.out RO.out (Nat.le_trans HPL.out (by omega)) (by rw [ofL_len]; omega) HPS.out (ofL_sm (nf_one lo hi hhi hlo)) (by omega) (by omega)).mono ?_; rintro e Y2 ⟨v_u, u, rfl, R_u, l_u, h_u, -, b2⟩; obtain ⟨A_u, c_u, rfl, -⟩ := id R_u; have LU := Lib.hid l_u; clear l_u; have m2 : Y2.cell? ⟨wr.heap.size, 0, none⟩ = some (.int .i64 x) ∧ Y2.cell? ⟨wr.heap.size, 1, none⟩ = some (.int .u32 lo) ∧ Y2.cell? ⟨wr.heap.size, 2, none⟩ = some (.int .u32 hi) := ⟨keep_cell b2 m1.1, keep_cell b2 m1.2.1, keep_cell b2 m1.2.2⟩; have BY := Lib.hid (B1.out.trans (b2.mono B1.out.size)))
                      | (go_at_call 15; refine (of_calls _ 16 mk _ [(lo, hi)] (HSX.out _) (by simp) hmk2 (HTA.out _ _)).mono ?_; rw [show (min (max (16 : Int) 0) 16).toNat = 16 by decide]; rintro e Y1 ⟨χo, rfl, O, b1⟩; have RO := O.rd (by rw [ofL_len]; omega); rw [World.size_alloc] at RO; have RO := Lib.hid RO; have m1 : Y1.cell? ⟨wr.heap.size, 0, none⟩ = some (.int .i64 x) ∧ Y1.cell? ⟨wr.heap.size, 1, none⟩ = some (.int .u32 lo) ∧ Y1.cell? ⟨wr.heap.size, 2, none⟩ = some (.int .u32 hi) := ⟨keep_cell b1 (cA _ ⟨1, _, rfl⟩).1, keep_cell b1 (cA _ ⟨1, _, rfl⟩).2.1, keep_cell b1 (cA _ ⟨1, _, rfl⟩).2.2⟩; have RW1 := Lib.hid ((HRA.out _ _).keep b1); have B1 := Lib.hid ((HBA.out _ _).trans (b1.mono (HBA.out _ _).size)))))
              have hu := step_at HCL.out W_a.out hlt HX.out HMK.out h_u LU.out ⟨by show lo < _; omega, hhi⟩
              subst hu
              have hbY := hbX.trans (BY.out.mono hbX.size)
              have RY := Lib.hid R_u
              clear h_u LU m1 m2 RO RW1 B1 R_u hs1 hs2 hs3
              go_wp2
              refine ⟨⟨k + 1, hlt, by go_num, RY, hbY⟩, by simp [intOf]; omega⟩
        · by_cases hhm : hi < 4294967295
          · by_cases hk0 : 0 < k
            · skip
              have kB : decide (0 < lo) = false := by simp; omega
              have kC : decide (0 < ph) = true := by simp; omega
              have kD : decide (0 < k) = true := by simp; omega
              obtain ⟨gl2, ol2, hgl, l0, -, -⟩ := HRC3.out.get (k - 1) (by omega)
              cases hgl
              obtain ⟨x2, hx2⟩ : ∃ x2, x2 = (cl[k - 1]'(by omega)).1 := ⟨_, rfl⟩
              have hx2le : x2 ≤ x := by rw [hx2]; exact HMON.out (by omega)
              rw [← hx2] at l0
              have kE : decide (x < x2) = false := by simp; omega
              have hk1 : IntKind.i64.wrap ((k : Int) - 1) = ((k - 1 : Nat) : Int) := by rw [IntKind.wrap_i64]; omega
              have hk2 : k - 1 < cl.length := by omega
              have hk3 : decide ((0 : Int) ≤ ((k - 1 : Nat) : Int)) = true := by simp
              have hk4 : decide (((k - 1 : Nat) : Int) < (cl.length : Int)) = true := by simp; omega
              clear hx2
              obtain ⟨-, c0, c1, c2, d0, d1, e0, e1, f0, f1, g0, g1⟩ := hX
              have k0 : ∀ W', (∃ d, W' = W3.drewN d) → W'.cell? ⟨wr.heap.size, 1, none⟩ = some (.int .u32 lo) ∧ W'.cell? ⟨wr.heap.size, 2, none⟩ = some (.int .u32 hi) ∧ W'.cell? ⟨wr.heap.size, 0, none⟩ = some (.int .i64 x) ∧ W'.cell? ⟨wr.heap.size + 1, 0, none⟩ = some (.int .i64 x) ∧ W'.cell? ⟨wr.heap.size + 1, 1, none⟩ = some (.int .u32 lo) ∧ W'.cell? ⟨wr.heap.size + 1 + 1, 0, none⟩ = some (.int .i64 x) ∧ W'.cell? ⟨wr.heap.size + 1 + 1, 1, none⟩ = some (.int .u32 hi) ∧ W'.cell? ⟨g9, 0, none⟩ = some (.int .i64 x) ∧ W'.cell? ⟨g9, 1, none⟩ = some (.int .u32 pl) ∧ W'.cell? ⟨g10, 0, none⟩ = some (.int .i64 x) ∧ W'.cell? ⟨g10, 1, none⟩ = some (.int .u32 ph) ∧ W'.cell? ⟨gl, ol + (k - 1) * 3, none⟩ = some (.int .i64 x2) := by rintro W' ⟨d, rfl⟩; exact ⟨c1, c2, c0, d0, d1, e0, e1, f0, f1, g0, g1, l0⟩
              have HK : Hid (∀ W W' : World, Below W.heap.size W W' → (W.cell? ⟨wr.heap.size, 1, none⟩ = some (.int .u32 lo) ∧ W.cell? ⟨wr.heap.size, 2, none⟩ = some (.int .u32 hi) ∧ W.cell? ⟨wr.heap.size, 0, none⟩ = some (.int .i64 x) ∧ W.cell? ⟨wr.heap.size + 1, 0, none⟩ = some (.int .i64 x) ∧ W.cell? ⟨wr.heap.size + 1, 1, none⟩ = some (.int .u32 lo) ∧ W.cell? ⟨wr.heap.size + 1 + 1, 0, none⟩ = some (.int .i64 x) ∧ W.cell? ⟨wr.heap.size + 1 + 1, 1, none⟩ = some (.int .u32 hi) ∧ W.cell? ⟨g9, 0, none⟩ = some (.int .i64 x) ∧ W.cell? ⟨g9, 1, none⟩ = some (.int .u32 pl) ∧ W.cell? ⟨g10, 0, none⟩ = some (.int .i64 x) ∧ W.cell? ⟨g10, 1, none⟩ = some (.int .u32 ph) ∧ W.cell? ⟨gl, ol + (k - 1) * 3, none⟩ = some (.int .i64 x2)) → W'.cell? ⟨wr.heap.size, 1, none⟩ = some (.int .u32 lo) ∧ W'.cell? ⟨wr.heap.size, 2, none⟩ = some (.int .u32 hi) ∧ W'.cell? ⟨wr.heap.size, 0, none⟩ = some (.int .i64 x) ∧ W'.cell? ⟨wr.heap.size + 1, 0, none⟩ = some (.int .i64 x) ∧ W'.cell? ⟨wr.heap.size + 1, 1, none⟩ = some (.int .u32 lo) ∧ W'.cell? ⟨wr.heap.size + 1 + 1, 0, none⟩ = some (.int .i64 x) ∧ W'.cell? ⟨wr.heap.size + 1 + 1, 1, none⟩ = some (.int .u32 hi) ∧ W'.cell? ⟨g9, 0, none⟩ = some (.int .i64 x) ∧ W'.cell? ⟨g9, 1, none⟩ = some (.int .u32 pl) ∧ W'.cell? ⟨g10, 0, none⟩ = some (.int .i64 x) ∧ W'.cell? ⟨g10, 1, none⟩ = some (.int .u32 ph) ∧ W'.cell? ⟨gl, ol + (k - 1) * 3, none⟩ = some (.int .i64 x2)) := fun W W' hb ⟨q0, q1, q2, q3, q4, q5, q6, q7, q8, q9, q10, q11⟩ => ⟨keep_cell hb q0, keep_cell hb q1, keep_cell hb q2, keep_cell hb q3, keep_cell hb q4, keep_cell hb q5, keep_cell hb q6, keep_cell hb q7, keep_cell hb q8, keep_cell hb q9, keep_cell hb q10, keep_cell hb q11⟩
              clear c0 c1 c2 d0 d1 e0 e1 f0 f1 g0 g1 l0
              have H1 := Lib.hid HI1.out
              have H2 := Lib.hid HI2.out
              have H3 := Lib.hid (HI4 (by omega) (hph2 (by omega)))
              clear HI3 HI4 hpl2 hph2 hph3
              have kS := k0 W3.drew ⟨1, rfl⟩
              refine wp_region_noPanic ?_
              refine wp_region_held_drew (S := fun W' => W'.cell? ⟨wr.heap.size, 1, none⟩ = some (.int .u32 lo) ∧ W'.cell? ⟨wr.heap.size, 2, none⟩ = some (.int .u32 hi) ∧ W'.cell? ⟨wr.heap.size, 0, none⟩ = some (.int .i64 x) ∧ W'.cell? ⟨wr.heap.size + 1, 0, none⟩ = some (.int .i64 x) ∧ W'.cell? ⟨wr.heap.size + 1, 1, none⟩ = some (.int .u32 lo) ∧ W'.cell? ⟨wr.heap.size + 1 + 1, 0, none⟩ = some (.int .i64 x) ∧ W'.cell? ⟨wr.heap.size + 1 + 1, 1, none⟩ = some (.int .u32 hi) ∧ W'.cell? ⟨g9, 0, none⟩ = some (.int .i64 x) ∧ W'.cell? ⟨g9, 1, none⟩ = some (.int .u32 pl) ∧ W'.cell? ⟨g10, 0, none⟩ = some (.int .i64 x) ∧ W'.cell? ⟨g10, 1, none⟩ = some (.int .u32 ph) ∧ W'.cell? ⟨gl, ol + (k - 1) * 3, none⟩ = some (.int .i64 x2)) (by kernel_rfl) kS (fun hHeld => ?_)
              clear kS
              refine take1 (i := 0) (v := ?v0e) (some 52) rfl rfl (by kernel_rfl) (by kernel_rfl) (by kernel_rfl) (fun _ _ _ h => h) (Or.inl ⟨by rfl, ?h0e⟩) (by assumption) ?r0e
              case h0e => intro w hSw; (try dsimp only at hSw); go_simp; first | done | with_reducible rfl
              try simp only [Act.put, List.setIfInBounds_toArray, List.set_cons_zero, List.set_cons_succ]
              refine take1 (i := 1) (v := ?v1e) (some 53) rfl rfl (by kernel_rfl) (by kernel_rfl) (by kernel_rfl) (fun _ _ _ h => h) (Or.inl ⟨by rfl, ?h1e⟩) (by assumption) ?r1e
              case h1e => intro w hSw; (try dsimp only at hSw); go_simp; first | done | with_reducible rfl
              try simp only [Act.put, List.setIfInBounds_toArray, List.set_cons_zero, List.set_cons_succ]
              refine take1 (i := 2) (v := ?v2e) (some 54) rfl rfl (by kernel_rfl) (by kernel_rfl) (by kernel_rfl) (fun _ _ _ h => h) (Or.inl ⟨by rfl, ?h2e⟩) (by assumption) ?r2e
              case h2e => intro w hSw; (try dsimp only at hSw); go_simp; first | done | with_reducible rfl
              try simp only [Act.put, List.setIfInBounds_toArray, List.set_cons_zero, List.set_cons_succ]
              refine take1 (i := 3) (v := ?v3e) (some 55) rfl rfl (by kernel_rfl) (by kernel_rfl) (by kernel_rfl) (fun _ _ _ h => h) (Or.inl ⟨by rfl, ?h3e⟩) (by assumption) ?r3e
              case h3e => intro w hSw; (try dsimp only at hSw); go_simp; first | done | with_reducible rfl
              try simp only [Act.put, List.setIfInBounds_toArray, List.set_cons_zero, List.set_cons_succ]
              refine take1 (i := 4) (v := ?v4e) (some 56) rfl rfl (by kernel_rfl) (by kernel_rfl) (by kernel_rfl) (fun _ _ _ h => h) (Or.inl ⟨by rfl, ?h4e⟩) (by assumption) ?r4e
              case h4e => intro w hSw; (try dsimp only at hSw); go_simp; first | done | with_reducible rfl
              try simp only [Act.put, List.setIfInBounds_toArray, List.set_cons_zero, List.set_cons_succ]
              refine take1 (i := 5) (v := ?v5e) (some 57) rfl rfl (by kernel_rfl) (by kernel_rfl) (by kernel_rfl) (fun _ _ _ h => h) (Or.inl ⟨by rfl, ?h5e⟩) (by assumption) ?r5e
              case h5e => intro w hSw; (try dsimp only at hSw); go_simp; first | done | with_reducible rfl
              try simp only [Act.put, List.setIfInBounds_toArray, List.set_cons_zero, List.set_cons_succ]
              refine take1 (i := 6) (v := ?v6e) (some 58) rfl rfl (by kernel_rfl) (by kernel_rfl) (by kernel_rfl) (fun _ _ _ h => h) (Or.inl ⟨by rfl, ?h6e⟩) (by assumption) ?r6e
              case h6e => intro w hSw; (try dsimp only at hSw); go_simp; first | done | with_reducible rfl
              try simp only [Act.put, List.setIfInBounds_toArray, List.set_cons_zero, List.set_cons_succ]
              refine take1 (i := 7) (v := ?v7e) (some 59) rfl rfl (by kernel_rfl) (by kernel_rfl) (by kernel_rfl) (fun _ _ _ h => h) (Or.inl ⟨by rfl, ?h7e⟩) (by assumption) ?r7e
              case h7e => intro w hSw; (try dsimp only at hSw); go_simp; first | done | with_reducible rfl
              try simp only [Act.put, List.setIfInBounds_toArray, List.set_cons_zero, List.set_cons_succ]
              refine take1 (i := 8) (v := ?v8e) (some 60) rfl rfl (by kernel_rfl) (by kernel_rfl) (by kernel_rfl) (fun _ _ _ h => h) (Or.inl ⟨by rfl, ?h8e⟩) (by assumption) ?r8e
              case h8e => intro w hSw; (try dsimp only at hSw); go_simp; first | done | with_reducible rfl
              try simp only [Act.put, List.setIfInBounds_toArray, List.set_cons_zero, List.set_cons_succ]
              refine take1 (i := 9) (v := ?v9e) (some 61) rfl rfl (by kernel_rfl) (by kernel_rfl) (by kernel_rfl) (fun _ _ _ h => h) (Or.inl ⟨by rfl, ?h9e⟩) (by assumption) ?r9e
              case h9e => intro w hSw; (try dsimp only at hSw); go_simp; first | done | with_reducible rfl
              try simp only [Act.put, List.setIfInBounds_toArray, List.set_cons_zero, List.set_cons_succ]
              refine wpAnyH_ready (rs := [10]) (by kernel_rfl) (by simp) ?_
              refine AllReadyH.cons rfl (fun K hK => ?_) AllReadyH.nil
              simp only [List.getElem_toArray, List.getElem_cons_zero, List.getElem_cons_succ]
              go_simp
              refine (has_b _ _ a x lo _ ((HL3.out.keep (below_drewN _ _ _)).at_ 0 rfl) H1.out).mono ?_
              rintro e X1 ⟨rfl, b1⟩
              have k1 := HK.out _ _ b1 (k0 _ ⟨1, rfl⟩)
              have L1 := Lib.hid ((HL3.out.keep (below_drewN _ _ 1)).keep b1)
              have B1 := Lib.hid ((hself.out.trans (below_drewN _ _ 1)).trans (b1.mono (hself.out.trans (below_drewN _ _ 1)).size))
              go_wp2_with fail
              clear hHeld
              refine hK.out _ _ k1 (fun hHeld => ?_)
              clear hK K
              try simp only [Act.put, List.setIfInBounds_toArray, List.set_cons_zero, List.set_cons_succ]
              refine take1 (i := 11) (v := ?v11e) (some 63) rfl rfl (by kernel_rfl) (by kernel_rfl) (by kernel_rfl) (fun _ _ _ h => h) (Or.inl ⟨by rfl, ?h11e⟩) (by assumption) ?r11e
              case h11e => intro w hSw; (try dsimp only at hSw); go_simp; first | done | with_reducible rfl
              try simp only [Act.put, List.setIfInBounds_toArray, List.set_cons_zero, List.set_cons_succ]
              refine take1 (i := 12) (v := ?v12e) (some 64) rfl rfl (by kernel_rfl) (by kernel_rfl) (by kernel_rfl) (fun _ _ _ h => h) (Or.inl ⟨by rfl, ?h12e⟩) (by assumption) ?r12e
              case h12e => intro w hSw; (try dsimp only at hSw); go_simp; first | done | with_reducible rfl
              try simp only [Act.put, List.setIfInBounds_toArray, List.set_cons_zero, List.set_cons_succ]
              refine take1 (i := 13) (v := ?v13e) (some 65) rfl rfl (by kernel_rfl) (by kernel_rfl) (by kernel_rfl) (fun _ _ _ h => h) (Or.inl ⟨by rfl, ?h13e⟩) (by assumption) ?r13e
              case h13e => intro w hSw; (try dsimp only at hSw); go_simp; first | done | with_reducible rfl
              try simp only [Act.put, List.setIfInBounds_toArray, List.set_cons_zero, List.set_cons_succ]
              refine take1 (i := 14) (v := ?v14e) (some 66) rfl rfl (by kernel_rfl) (by kernel_rfl) (by kernel_rfl) (fun _ _ _ h => h) (Or.inl ⟨by rfl, ?h14e⟩) (by assumption) ?r14e
              case h14e => intro w hSw; (try dsimp only at hSw); go_simp; first | done | with_reducible rfl
              try simp only [Act.put, List.setIfInBounds_toArray, List.set_cons_zero, List.set_cons_succ]
              refine take1 (i := 15) (v := ?v15e) (some 67) rfl rfl (by kernel_rfl) (by kernel_rfl) (by kernel_rfl) (fun _ _ _ h => h) (Or.inl ⟨by rfl, ?h15e⟩) (by assumption) ?r15e
              case h15e => intro w hSw; (try dsimp only at hSw); go_simp; first | done | with_reducible rfl
              try simp only [Act.put, List.setIfInBounds_toArray, List.set_cons_zero, List.set_cons_succ]
              refine wpAnyH_ready (rs := [16]) (by kernel_rfl) (by simp) ?_
              refine AllReadyH.cons rfl (fun K hK => ?_) AllReadyH.nil
              simp only [List.getElem_toArray, List.getElem_cons_zero, List.getElem_cons_succ]
              go_simp
              refine (has_b _ _ a x hi _ (L1.out.at_ 0 rfl) H2.out).mono ?_
              rintro e X2 ⟨rfl, b2⟩
              have k2 := HK.out _ _ b2 k1
              have L2 := Lib.hid (L1.out.keep b2)
              have B2 := Lib.hid (B1.out.trans (b2.mono B1.out.size))
              go_wp2_with fail
              clear hHeld
              refine hK.out _ _ k2 (fun hHeld => ?_)
              clear hK K
              try simp only [Act.put, List.setIfInBounds_toArray, List.set_cons_zero, List.set_cons_succ]
              refine take1 (i := 17) (v := ?v17e) (some 69) rfl rfl (by kernel_rfl) (by kernel_rfl) (by kernel_rfl) (fun _ _ _ h => h) (Or.inl ⟨by rfl, ?h17e⟩) (by assumption) ?r17e
              case h17e => intro w hSw; (try dsimp only at hSw); go_simp; first | done | with_reducible rfl
              try simp only [Act.put, List.setIfInBounds_toArray, List.set_cons_zero, List.set_cons_succ]
              refine take1 (i := 18) (v := ?v18e) (some 70) rfl rfl (by kernel_rfl) (by kernel_rfl) (by kernel_rfl) (fun _ _ _ h => h) (Or.inl ⟨by rfl, ?h18e⟩) (by assumption) ?r18e
              case h18e => intro w hSw; (try dsimp only at hSw); go_simp; first | done | with_reducible rfl
              try simp only [Act.put, List.setIfInBounds_toArray, List.set_cons_zero, List.set_cons_succ]
              refine take1 (i := 19) (v := ?v19e) (some 71) rfl rfl (by kernel_rfl) (by kernel_rfl) (by kernel_rfl) (fun _ _ _ h => h) (Or.inl ⟨by rfl, ?h19e⟩) (by assumption) ?r19e
              case h19e => intro w hSw; (try dsimp only at hSw); go_simp; first | done | with_reducible rfl
              try simp only [Act.put, List.setIfInBounds_toArray, List.set_cons_zero, List.set_cons_succ]
              refine take1 (i := 20) (v := ?v20e) (some 72) rfl rfl (by kernel_rfl) (by kernel_rfl) (by kernel_rfl) (fun _ _ _ h => h) (Or.inl ⟨by rfl, ?h20e⟩) (by assumption) ?r20e
              case h20e => intro w hSw; (try dsimp only at hSw); go_simp; first | done | with_reducible rfl
              try simp only [Act.put, List.setIfInBounds_toArray, List.set_cons_zero, List.set_cons_succ]
              refine take1 (i := 21) (v := ?v21e) (some 73) rfl rfl (by kernel_rfl) (by kernel_rfl) (by kernel_rfl) (fun _ _ _ h => h) (Or.inl ⟨by rfl, ?h21e⟩) (by assumption) ?r21e
              case h21e => intro w hSw; (try dsimp only at hSw); go_simp; first | done | with_reducible rfl
              try simp only [Act.put, List.setIfInBounds_toArray, List.set_cons_zero, List.set_cons_succ]
              refine take1 (i := 22) (v := ?v22e) (some 74) rfl rfl (by kernel_rfl) (by kernel_rfl) (by kernel_rfl) (fun _ _ _ h => h) (Or.inl ⟨by rfl, ?h22e⟩) (by assumption) ?r22e
              case h22e => intro w hSw; (try dsimp only at hSw); go_simp; first | done | with_reducible rfl
              try simp only [Act.put, List.setIfInBounds_toArray, List.set_cons_zero, List.set_cons_succ]
              refine take1 (i := 23) (v := ?v23e) (some 75) rfl rfl (by kernel_rfl) (by kernel_rfl) (by kernel_rfl) (fun _ _ _ h => h) (Or.inl ⟨by rfl, ?h23e⟩) (by assumption) ?r23e
              case h23e => intro w hSw; (try dsimp only at hSw); go_simp; first | done | with_reducible rfl
              try simp only [Act.put, List.setIfInBounds_toArray, List.set_cons_zero, List.set_cons_succ]
              refine take1 (i := 24) (v := undef) (some 76) rfl rfl (by kernel_rfl) (by kernel_rfl) (by kernel_rfl) (fun _ _ _ h => h) (Or.inr ⟨by rfl, rfl⟩) (by assumption) ?_
              try simp only [Act.put, List.setIfInBounds_toArray, List.set_cons_zero, List.set_cons_succ]
              refine take1 (i := 25) (v := undef) (some 77) rfl rfl (by kernel_rfl) (by kernel_rfl) (by kernel_rfl) (fun _ _ _ h => h) (Or.inr ⟨by rfl, rfl⟩) (by assumption) ?_
              try simp only [Act.put, List.setIfInBounds_toArray, List.set_cons_zero, List.set_cons_succ]
              refine wpAnyH_ready (rs := [26]) (by kernel_rfl) (by simp) ?_
              refine AllReadyH.cons rfl (fun K hK => ?_) AllReadyH.nil
              simp only [List.getElem_toArray, List.getElem_cons_zero, List.getElem_cons_succ]
              go_simp
              refine hK.out _ _ hHeld (fun hHeld => ?_)
              clear hK K
              try simp only [Act.put, List.setIfInBounds_toArray, List.set_cons_zero, List.set_cons_succ]
              refine take1 (i := 27) (v := ?v27e) (some 79) rfl rfl (by kernel_rfl) (by kernel_rfl) (by kernel_rfl) (fun _ _ _ h => h) (Or.inl ⟨by rfl, ?h27e⟩) (by assumption) ?r27e
              case h27e => intro w hSw; (try dsimp only at hSw); go_simp; first | done | with_reducible rfl
              try simp only [Act.put, List.setIfInBounds_toArray, List.set_cons_zero, List.set_cons_succ]
              refine take1 (i := 28) (v := ?v28e) (some 80) rfl rfl (by kernel_rfl) (by kernel_rfl) (by kernel_rfl) (fun _ _ _ h => h) (Or.inl ⟨by rfl, ?h28e⟩) (by assumption) ?r28e
              case h28e => intro w hSw; (try dsimp only at hSw); go_simp; first | done | with_reducible rfl
              try simp only [Act.put, List.setIfInBounds_toArray, List.set_cons_zero, List.set_cons_succ]
              refine take1 (i := 29) (v := ?v29e) (some 81) rfl rfl (by kernel_rfl) (by kernel_rfl) (by kernel_rfl) (fun _ _ _ h => h) (Or.inl ⟨by rfl, ?h29e⟩) (by assumption) ?r29e
              case h29e => intro w hSw; (try dsimp only at hSw); go_simp; first | done | with_reducible rfl
              try simp only [Act.put, List.setIfInBounds_toArray, List.set_cons_zero, List.set_cons_succ]
              refine take1 (i := 30) (v := ?v30e) (some 82) rfl rfl (by kernel_rfl) (by kernel_rfl) (by kernel_rfl) (fun _ _ _ h => h) (Or.inl ⟨by rfl, ?h30e⟩) (by assumption) ?r30e
              case h30e => intro w hSw; (try dsimp only at hSw); go_simp; first | done | with_reducible rfl
              try simp only [Act.put, List.setIfInBounds_toArray, List.set_cons_zero, List.set_cons_succ]
              refine take1 (i := 31) (v := ?v31e) (some 83) rfl rfl (by kernel_rfl) (by kernel_rfl) (by kernel_rfl) (fun _ _ _ h => h) (Or.inl ⟨by rfl, ?h31e⟩) (by assumption) ?r31e
              case h31e => intro w hSw; (try dsimp only at hSw); go_simp; first | done | with_reducible rfl
              try simp only [Act.put, List.setIfInBounds_toArray, List.set_cons_zero, List.set_cons_succ]
              refine take1 (i := 32) (v := ?v32e) (some 84) rfl rfl (by kernel_rfl) (by kernel_rfl) (by kernel_rfl) (fun _ _ _ h => h) (Or.inl ⟨by rfl, ?h32e⟩) (by assumption) ?r32e
              case h32e => intro w hSw; (try dsimp only at hSw); go_simp; first | done | with_reducible rfl
              try simp only [Act.put, List.setIfInBounds_toArray, List.set_cons_zero, List.set_cons_succ]
              refine take1 (i := 33) (v := ?v33e) (some 85) rfl rfl (by kernel_rfl) (by kernel_rfl) (by kernel_rfl) (fun _ _ _ h => h) (Or.inl ⟨by rfl, ?h33e⟩) (by assumption) ?r33e
              case h33e => intro w hSw; (try dsimp only at hSw); go_simp; first | done | with_reducible rfl
              try simp only [Act.put, List.setIfInBounds_toArray, List.set_cons_zero, List.set_cons_succ]
              refine take1 (i := 34) (v := ?v34e) (some 86) rfl rfl (by kernel_rfl) (by kernel_rfl) (by kernel_rfl) (fun _ _ _ h => h) (Or.inl ⟨by rfl, ?h34e⟩) (by assumption) ?r34e
              case h34e => intro w hSw; (try dsimp only at hSw); go_simp; first | done | with_reducible rfl
              try simp only [Act.put, List.setIfInBounds_toArray, List.set_cons_zero, List.set_cons_succ]
              refine take1 (i := 35) (v := ?v35e) (some 87) rfl rfl (by kernel_rfl) (by kernel_rfl) (by kernel_rfl) (fun _ _ _ h => h) (Or.inl ⟨by rfl, ?h35e⟩) (by assumption) ?r35e
              case h35e => intro w hSw; (try dsimp only at hSw); go_simp; first | done | with_reducible rfl
              try simp only [Act.put, List.setIfInBounds_toArray, List.set_cons_zero, List.set_cons_succ]
              refine wpAnyH_ready (rs := [36]) (by kernel_rfl) (by simp) ?_
              refine AllReadyH.cons rfl (fun K hK => ?_) AllReadyH.nil
              simp only [List.getElem_toArray, List.getElem_cons_zero, List.getElem_cons_succ]
              go_simp
              refine (has_b _ _ a x ph _ (L2.out.at_ 0 rfl) H3.out).mono ?_
              rintro e X3 ⟨rfl, b3⟩
              have k3 := HK.out _ _ b3 k2
              have L3 := Lib.hid (L2.out.keep b3)
              have B3 := Lib.hid (B2.out.trans (b3.mono B2.out.size))
              go_wp2_with fail
              clear hHeld
              refine hK.out _ _ k3 (fun hHeld => ?_)
              clear hK K
              try simp only [Act.put, List.setIfInBounds_toArray, List.set_cons_zero, List.set_cons_succ]
              refine take1 (i := 37) (v := ?v37e) (some 89) rfl rfl (by kernel_rfl) (by kernel_rfl) (by kernel_rfl) (fun _ _ _ h => h) (Or.inl ⟨by rfl, ?h37e⟩) (by assumption) ?r37e
              case h37e => intro w hSw; (try dsimp only at hSw); go_simp; first | done | with_reducible rfl
              try simp only [Act.put, List.setIfInBounds_toArray, List.set_cons_zero, List.set_cons_succ]
              refine take1 (i := 38) (v := ?v38e) (some 90) rfl rfl (by kernel_rfl) (by kernel_rfl) (by kernel_rfl) (fun _ _ _ h => h) (Or.inl ⟨by rfl, ?h38e⟩) (by assumption) ?r38e
              case h38e => intro w hSw; (try dsimp only at hSw); go_simp; first | done | with_reducible rfl
              try simp only [Act.put, List.setIfInBounds_toArray, List.set_cons_zero, List.set_cons_succ]
              refine take1 (i := 39) (v := ?v39e) (some 91) rfl rfl (by kernel_rfl) (by kernel_rfl) (by kernel_rfl) (fun _ _ _ h => h) (Or.inl ⟨by rfl, ?h39e⟩) (by assumption) ?r39e
              case h39e => intro w hSw; (try dsimp only at hSw); go_simp; first | done | with_reducible rfl
              try simp only [Act.put, List.setIfInBounds_toArray, List.set_cons_zero, List.set_cons_succ]
              refine take1 (i := 40) (v := ?v40e) (some 92) rfl rfl (by kernel_rfl) (by kernel_rfl) (by kernel_rfl) (fun _ _ _ h => h) (Or.inl ⟨by rfl, ?h40e⟩) (by assumption) ?r40e
              case h40e => intro w hSw; (try dsimp only at hSw); go_simp; first | done | with_reducible rfl
              try simp only [Act.put, List.setIfInBounds_toArray, List.set_cons_zero, List.set_cons_succ]
              refine take1 (i := 41) (v := ?v41e) (some 93) rfl rfl (by kernel_rfl) (by kernel_rfl) (by kernel_rfl) (fun _ _ _ h => h) (Or.inl ⟨by rfl, ?h41e⟩) (by assumption) ?r41e
              case h41e => intro w hSw; (try dsimp only at hSw); go_simp; first | done | with_reducible rfl
              try simp only [Act.put, List.setIfInBounds_toArray, List.set_cons_zero, List.set_cons_succ]
              refine take1 (i := 42) (v := ?v42e) (some 94) rfl rfl (by kernel_rfl) (by kernel_rfl) (by kernel_rfl) (fun _ _ _ h => h) (Or.inl ⟨by rfl, ?h42e⟩) (by assumption) ?r42e
              case h42e => intro w hSw; (try dsimp only at hSw); go_simp; first | done | with_reducible rfl
              try simp only [Act.put, List.setIfInBounds_toArray, List.set_cons_zero, List.set_cons_succ]
              refine take1 (i := 43) (v := ?v43e) (some 95) rfl rfl (by kernel_rfl) (by kernel_rfl) (by kernel_rfl) (fun _ _ _ h => h) (Or.inl ⟨by rfl, ?h43e⟩) (by assumption) ?r43e
              case h43e => intro w hSw; (try dsimp only at hSw); go_simp; first | done | with_reducible rfl
              try simp only [Act.put, List.setIfInBounds_toArray, List.set_cons_zero, List.set_cons_succ]
              refine take1 (i := 44) (v := ?v44e) (some 96) rfl rfl (by kernel_rfl) (by kernel_rfl) (by kernel_rfl) (fun _ _ _ h => h) (Or.inl ⟨by rfl, ?h44e⟩) (by assumption) ?r44e
              case h44e => intro w hSw; (try dsimp only at hSw); go_simp; first | done | with_reducible rfl
              try simp only [Act.put, List.setIfInBounds_toArray, List.set_cons_zero, List.set_cons_succ]
              refine take1 (i := 45) (v := ?v45e) (some 97) rfl rfl (by kernel_rfl) (by kernel_rfl) (by kernel_rfl) (fun _ _ _ h => h) (Or.inl ⟨by rfl, ?h45e⟩) (by assumption) ?r45e
              case h45e => intro w hSw; (try dsimp only at hSw); go_simp; first | done | with_reducible rfl
              try simp only [Act.put, List.setIfInBounds_toArray, List.set_cons_zero, List.set_cons_succ]
              refine take1 (i := 46) (v := ?v46e) (some 98) rfl rfl (by kernel_rfl) (by kernel_rfl) (by kernel_rfl) (fun _ _ _ h => h) (Or.inl ⟨by rfl, ?h46e⟩) (by assumption) ?r46e
              case h46e => intro w hSw; (try dsimp only at hSw); go_simp; first | done | with_reducible rfl
              try simp only [Act.put, List.setIfInBounds_toArray, List.set_cons_zero, List.set_cons_succ]
              refine take1 (i := 47) (v := ?v47e) (some 99) rfl rfl (by kernel_rfl) (by kernel_rfl) (by kernel_rfl) (fun _ _ _ h => h) (Or.inl ⟨by rfl, ?h47e⟩) (by assumption) ?r47e
              case h47e => intro w hSw; (try dsimp only at hSw); go_simp; first | done | with_reducible rfl
              try simp only [Act.put, List.setIfInBounds_toArray, List.set_cons_zero, List.set_cons_succ]
              refine take1 (i := 48) (v := ?v48e) (some 100) rfl rfl (by kernel_rfl) (by kernel_rfl) (by kernel_rfl) (fun _ _ _ h => h) (Or.inl ⟨by rfl, ?h48e⟩) (by assumption) ?r48e
              case h48e => intro w hSw; (try dsimp only at hSw); go_simp; first | done | with_reducible rfl
              try simp only [Act.put, List.setIfInBounds_toArray, List.set_cons_zero, List.set_cons_succ]
              refine take1 (i := 49) (v := ?v49e) (some 101) rfl rfl (by kernel_rfl) (by kernel_rfl) (by kernel_rfl) (fun _ _ _ h => h) (Or.inl ⟨by rfl, ?h49e⟩) (by assumption) ?r49e
              case h49e => intro w hSw; (try dsimp only at hSw); go_simp; first | done | with_reducible rfl
              try simp only [Act.put, List.setIfInBounds_toArray, List.set_cons_zero, List.set_cons_succ]
              refine take1 (i := 50) (v := ?v50e) (some 102) rfl rfl (by kernel_rfl) (by kernel_rfl) (by kernel_rfl) (fun _ _ _ h => h) (Or.inl ⟨by rfl, ?h50e⟩) (by assumption) ?r50e
              case h50e => intro w hSw; (try dsimp only at hSw); go_simp; first | done | with_reducible rfl
              try simp only [Act.put, List.setIfInBounds_toArray, List.set_cons_zero, List.set_cons_succ]
              refine take1 (i := 51) (v := ?v51e) (some 103) rfl rfl (by kernel_rfl) (by kernel_rfl) (by kernel_rfl) (fun _ _ _ h => h) (Or.inl ⟨by rfl, ?h51e⟩) (by assumption) ?r51e
              case h51e => intro w hSw; (try dsimp only at hSw); go_simp; first | done | with_reducible rfl
              try simp only [Act.put, List.setIfInBounds_toArray, List.set_cons_zero, List.set_cons_succ]
              refine take1 (i := 52) (v := ?v52e) (some 104) rfl rfl (by kernel_rfl) (by kernel_rfl) (by kernel_rfl) (fun _ _ _ h => h) (Or.inl ⟨by rfl, ?h52e⟩) (by assumption) ?r52e
              case h52e => intro w hSw; (try dsimp only at hSw); go_simp; first | done | with_reducible rfl
              try simp only [Act.put, List.setIfInBounds_toArray, List.set_cons_zero, List.set_cons_succ]
              refine take1 (i := 53) (v := ?v53e) (some 105) rfl rfl (by kernel_rfl) (by kernel_rfl) (by kernel_rfl) (fun _ _ _ h => h) (Or.inl ⟨by rfl, ?h53e⟩) (by assumption) ?r53e
              case h53e => intro w hSw; (try dsimp only at hSw); go_simp; first | done | with_reducible rfl
              try simp only [Act.put, List.setIfInBounds_toArray, List.set_cons_zero, List.set_cons_succ]
              refine wpAnyH_done (by kernel_rfl) ?_ _
              refine NoPanic.normal ?_
              clear kA kB kC kD kE hk1 hk2 hk3 hk4 hx2le k0 HK H1 b1 H2 b2 H3 b3
              have HL := Lib.hid L3.out
              have BX := Lib.hid B3.out
              have c0 := k3.2.2.1
              have c1 := k3.1
              have c2 := k3.2.1
              have HTX := Lib.hid (HT3.out.keep BX.out)
              have RWX := Lib.hid (RW3.out.keep BX.out)
              have hbX := Lib.hid (hb3.trans (BX.out.mono hb3.size))
              clear L1 B1 k1 L2 B2 k2 L3 B3 k3
              go_wp2
              obtain ⟨mk, hmk⟩ : ∃ mk : Nat, mk = 2 ^ x := ⟨_, rfl⟩
              have hmk2 : mk < 4294967296 := by rw [hmk]; exact Nat.lt_of_lt_of_le (Nat.pow_lt_pow_right (by omega) hx16b : 2 ^ x < 2 ^ 16) (by omega)
              have hs1 : IntKind.u32.wrap ((2 : Int) ^ min x 32) = (mk : Int) := by rw [Nat.min_eq_left (by omega), show (2 : Int) ^ x = ((mk : Nat) : Int) by rw [hmk]; simp]; show (mk : Int) % 4294967296 = _; omega
              have hs2 : IntKind.u32.wrap ((2 : Int) ^ x) = (mk : Int) := by rw [show (2 : Int) ^ x = ((mk : Nat) : Int) by rw [hmk]; simp]; show (mk : Int) % 4294967296 = _; omega
              have hs3 : (2 : Int) ^ x % 4294967296 = (mk : Int) := by rw [show (2 : Int) ^ x = ((mk : Nat) : Int) by rw [hmk]; simp]; omega
              have HMK := Lib.hid hmk
              clear hmk
              have HBA : Hid (∀ d o, Below X3.heap.size X3 ((X3.drewN d).alloc o)) := fun d o => (below_drewN _ _ d).alloc (by simp) o
              have HSX : Hid (∀ d, RdS ((X3.drewN d).alloc (.cells #[.int .u32 lo, .int .u32 hi] 37)) (.slice (some ⟨X3.heap.size, 0, none⟩) 1 1) [(lo, hi)]) := fun d => rdS_at [(lo, hi)] (heap_alloc_at (X3.drewN d) _) (by intro s hs; simp at hs; subst hs; exact ⟨by omega, hhi⟩) (by simp) 1 rfl
              have HTA : Hid (∀ d o, Tab ((X3.drewN d).alloc o)) := fun d o => HTX.out.keep (HBA.out d o)
              have HRA : Hid (∀ d o, RdA ((X3.drewN d).alloc o) _ (partK cl k)) := fun d o => RWX.out.keep (HBA.out d o)
              have HPS : Hid (Sm 20 (partK cl k)) := by show Sm 20 _; rw [HCL.out]; exact partK_sm W_a.out S_a.out k
              have HPL := Lib.hid (partK_len cl k)
              have cX : ∀ W', (∃ d, W' = X3.drewN d) → W'.cell? ⟨wr.heap.size, 0, none⟩ = some (.int .i64 x) ∧ W'.cell? ⟨wr.heap.size, 1, none⟩ = some (.int .u32 lo) ∧ W'.cell? ⟨wr.heap.size, 2, none⟩ = some (.int .u32 hi) := by rintro W' ⟨d, rfl⟩; exact ⟨c0, c1, c2⟩
              have cA : ∀ W', (∃ d o, W' = (X3.drewN d).alloc o) → W'.cell? ⟨wr.heap.size, 0, none⟩ = some (.int .i64 x) ∧ W'.cell? ⟨wr.heap.size, 1, none⟩ = some (.int .u32 lo) ∧ W'.cell? ⟨wr.heap.size, 2, none⟩ = some (.int .u32 hi) := by rintro W' ⟨d, o, rfl⟩; exact ⟨keep_cell (HBA.out d o) c0, keep_cell (HBA.out d o) c1, keep_cell (HBA.out d o) c2⟩
              clear c0 c1 c2
              first
                | (go_region_held3 (fun W' => W'.cell? ⟨wr.heap.size, 0, none⟩ = some (.int .i64 x) ∧ W'.cell? ⟨wr.heap.size, 1, none⟩ = some (.int .u32 lo) ∧ W'.cell? ⟨wr.heap.size, 2, none⟩ = some (.int .u32 hi))
                    (first | with_reducible exact m2 | with_reducible exact m1 | exact cX _ (by first | exact ⟨_, rfl⟩ | exact drewN_ex _ _ _ | exact drew_ex _ _) | exact cA _ ⟨1, _, rfl⟩)
                    (first
                      | (go_at_call 12; have hS := m1; refine (area_union _ _ _ (partK cl k) (ofL 16 (bitsN mk) (nf [(lo, hi)])) 20 1 RW1.out RO.out (Nat.le_trans HPL.out (by omega)) (by rw [ofL_len]; omega) HPS.out (ofL_sm (nf_one lo hi hhi hlo)) (by omega) (by omega)).mono ?_; rintro e Y2 ⟨v_u, u, rfl, R_u, l_u, h_u, -, b2⟩; obtain ⟨A_u, c_u, rfl, -⟩ := id R_u; have LU := Lib.hid l_u; clear l_u; have m2 : Y2.cell? ⟨wr.heap.size, 0, none⟩ = some (.int .i64 x) ∧ Y2.cell? ⟨wr.heap.size, 1, none⟩ = some (.int .u32 lo) ∧ Y2.cell? ⟨wr.heap.size, 2, none⟩ = some (.int .u32 hi) := ⟨keep_cell b2 m1.1, keep_cell b2 m1.2.1, keep_cell b2 m1.2.2⟩; have BY := Lib.hid (B1.out.trans (b2.mono B1.out.size)))
                      | (go_at_call 15; refine (of_calls _ 16 mk _ [(lo, hi)] (HSX.out _) (by simp) hmk2 (HTA.out _ _)).mono ?_; rw [show (min (max (16 : Int) 0) 16).toNat = 16 by decide]; rintro e Y1 ⟨χo, rfl, O, b1⟩; have RO := O.rd (by rw [ofL_len]; omega); rw [World.size_alloc] at RO; have RO := Lib.hid RO; have m1 : Y1.cell? ⟨wr.heap.size, 0, none⟩ = some (.int .i64 x) ∧ Y1.cell? ⟨wr.heap.size, 1, none⟩ = some (.int .u32 lo) ∧ Y1.cell? ⟨wr.heap.size, 2, none⟩ = some (.int .u32 hi) := ⟨keep_cell b1 (cA _ ⟨1, _, rfl⟩).1, keep_cell b1 (cA _ ⟨1, _, rfl⟩).2.1, keep_cell b1 (cA _ ⟨1, _, rfl⟩).2.2⟩; have RW1 := Lib.hid ((HRA.out _ _).keep b1); have B1 := Lib.hid ((HBA.out _ _).trans (b1.mono (HBA.out _ _).size)))))
              have hu := step_at HCL.out W_a.out hlt HX.out HMK.out h_u LU.out ⟨by show lo < _; omega, hhi⟩
              subst hu
              have hbY := hbX.trans (BY.out.mono hbX.size)
              have RY := Lib.hid R_u
              clear h_u LU m1 m2 RO RW1 B1 R_u hs1 hs2 hs3
              go_wp2
              refine ⟨⟨k + 1, hlt, by go_num, RY, hbY⟩, by simp [intOf]; omega⟩
            · skip
              have kB : decide (0 < lo) = false := by simp; omega
              have kC : decide (0 < ph) = true := by simp; omega
              have kD : decide (0 < k) = false := by simp; omega
              obtain ⟨-, c0, c1, c2, d0, d1, e0, e1, f0, f1, g0, g1⟩ := hX
              have k0 : ∀ W', (∃ d, W' = W3.drewN d) → W'.cell? ⟨wr.heap.size, 1, none⟩ = some (.int .u32 lo) ∧ W'.cell? ⟨wr.heap.size, 2, none⟩ = some (.int .u32 hi) ∧ W'.cell? ⟨wr.heap.size, 0, none⟩ = some (.int .i64 x) ∧ W'.cell? ⟨wr.heap.size + 1, 0, none⟩ = some (.int .i64 x) ∧ W'.cell? ⟨wr.heap.size + 1, 1, none⟩ = some (.int .u32 lo) ∧ W'.cell? ⟨wr.heap.size + 1 + 1, 0, none⟩ = some (.int .i64 x) ∧ W'.cell? ⟨wr.heap.size + 1 + 1, 1, none⟩ = some (.int .u32 hi) ∧ W'.cell? ⟨g9, 0, none⟩ = some (.int .i64 x) ∧ W'.cell? ⟨g9, 1, none⟩ = some (.int .u32 pl) ∧ W'.cell? ⟨g10, 0, none⟩ = some (.int .i64 x) ∧ W'.cell? ⟨g10, 1, none⟩ = some (.int .u32 ph) := by rintro W' ⟨d, rfl⟩; exact ⟨c1, c2, c0, d0, d1, e0, e1, f0, f1, g0, g1⟩
              have HK : Hid (∀ W W' : World, Below W.heap.size W W' → (W.cell? ⟨wr.heap.size, 1, none⟩ = some (.int .u32 lo) ∧ W.cell? ⟨wr.heap.size, 2, none⟩ = some (.int .u32 hi) ∧ W.cell? ⟨wr.heap.size, 0, none⟩ = some (.int .i64 x) ∧ W.cell? ⟨wr.heap.size + 1, 0, none⟩ = some (.int .i64 x) ∧ W.cell? ⟨wr.heap.size + 1, 1, none⟩ = some (.int .u32 lo) ∧ W.cell? ⟨wr.heap.size + 1 + 1, 0, none⟩ = some (.int .i64 x) ∧ W.cell? ⟨wr.heap.size + 1 + 1, 1, none⟩ = some (.int .u32 hi) ∧ W.cell? ⟨g9, 0, none⟩ = some (.int .i64 x) ∧ W.cell? ⟨g9, 1, none⟩ = some (.int .u32 pl) ∧ W.cell? ⟨g10, 0, none⟩ = some (.int .i64 x) ∧ W.cell? ⟨g10, 1, none⟩ = some (.int .u32 ph)) → W'.cell? ⟨wr.heap.size, 1, none⟩ = some (.int .u32 lo) ∧ W'.cell? ⟨wr.heap.size, 2, none⟩ = some (.int .u32 hi) ∧ W'.cell? ⟨wr.heap.size, 0, none⟩ = some (.int .i64 x) ∧ W'.cell? ⟨wr.heap.size + 1, 0, none⟩ = some (.int .i64 x) ∧ W'.cell? ⟨wr.heap.size + 1, 1, none⟩ = some (.int .u32 lo) ∧ W'.cell? ⟨wr.heap.size + 1 + 1, 0, none⟩ = some (.int .i64 x) ∧ W'.cell? ⟨wr.heap.size + 1 + 1, 1, none⟩ = some (.int .u32 hi) ∧ W'.cell? ⟨g9, 0, none⟩ = some (.int .i64 x) ∧ W'.cell? ⟨g9, 1, none⟩ = some (.int .u32 pl) ∧ W'.cell? ⟨g10, 0, none⟩ = some (.int .i64 x) ∧ W'.cell? ⟨g10, 1, none⟩ = some (.int .u32 ph)) := fun W W' hb ⟨q0, q1, q2, q3, q4, q5, q6, q7, q8, q9, q10⟩ => ⟨keep_cell hb q0, keep_cell hb q1, keep_cell hb q2, keep_cell hb q3, keep_cell hb q4, keep_cell hb q5, keep_cell hb q6, keep_cell hb q7, keep_cell hb q8, keep_cell hb q9, keep_cell hb q10⟩
              clear c0 c1 c2 d0 d1 e0 e1 f0 f1 g0 g1
              have H1 := Lib.hid HI1.out
              have H2 := Lib.hid HI2.out
              have H3 := Lib.hid (HI4 (by omega) (hph2 (by omega)))
              clear HI3 HI4 hpl2 hph2 hph3
              have kS := k0 W3.drew ⟨1, rfl⟩
              refine wp_region_noPanic ?_
              refine wp_region_held_drew (S := fun W' => W'.cell? ⟨wr.heap.size, 1, none⟩ = some (.int .u32 lo) ∧ W'.cell? ⟨wr.heap.size, 2, none⟩ = some (.int .u32 hi) ∧ W'.cell? ⟨wr.heap.size, 0, none⟩ = some (.int .i64 x) ∧ W'.cell? ⟨wr.heap.size + 1, 0, none⟩ = some (.int .i64 x) ∧ W'.cell? ⟨wr.heap.size + 1, 1, none⟩ = some (.int .u32 lo) ∧ W'.cell? ⟨wr.heap.size + 1 + 1, 0, none⟩ = some (.int .i64 x) ∧ W'.cell? ⟨wr.heap.size + 1 + 1, 1, none⟩ = some (.int .u32 hi) ∧ W'.cell? ⟨g9, 0, none⟩ = some (.int .i64 x) ∧ W'.cell? ⟨g9, 1, none⟩ = some (.int .u32 pl) ∧ W'.cell? ⟨g10, 0, none⟩ = some (.int .i64 x) ∧ W'.cell? ⟨g10, 1, none⟩ = some (.int .u32 ph)) (by kernel_rfl) kS (fun hHeld => ?_)
              clear kS
              refine take1 (i := 0) (v := ?v0f) (some 52) rfl rfl (by kernel_rfl) (by kernel_rfl) (by kernel_rfl) (fun _ _ _ h => h) (Or.inl ⟨by rfl, ?h0f⟩) (by assumption) ?r0f
              case h0f => intro w hSw; (try dsimp only at hSw); go_simp; first | done | with_reducible rfl
              try simp only [Act.put, List.setIfInBounds_toArray, List.set_cons_zero, List.set_cons_succ]
              refine take1 (i := 1) (v := ?v1f) (some 53) rfl rfl (by kernel_rfl) (by kernel_rfl) (by kernel_rfl) (fun _ _ _ h => h) (Or.inl ⟨by rfl, ?h1f⟩) (by assumption) ?r1f
              case h1f => intro w hSw; (try dsimp only at hSw); go_simp; first | done | with_reducible rfl
              try simp only [Act.put, List.setIfInBounds_toArray, List.set_cons_zero, List.set_cons_succ]
              refine take1 (i := 2) (v := ?v2f) (some 54) rfl rfl (by kernel_rfl) (by kernel_rfl) (by kernel_rfl) (fun _ _ _ h => h) (Or.inl ⟨by rfl, ?h2f⟩) (by assumption) ?r2f
              case h2f => intro w hSw; (try dsimp only at hSw); go_simp; first | done | with_reducible rfl
              try simp only [Act.put, List.setIfInBounds_toArray, List.set_cons_zero, List.set_cons_succ]
              refine take1 (i := 3) (v := ?v3f) (some 55) rfl rfl (by kernel_rfl) (by kernel_rfl) (by kernel_rfl) (fun _ _ _ h => h) (Or.inl ⟨by rfl, ?h3f⟩) (by assumption) ?r3f
              case h3f => intro w hSw; (try dsimp only at hSw); go_simp; first | done | with_reducible rfl
              try simp only [Act.put, List.setIfInBounds_toArray, List.set_cons_zero, List.set_cons_succ]
              refine take1 (i := 4) (v := ?v4f) (some 56) rfl rfl (by kernel_rfl) (by kernel_rfl) (by kernel_rfl) (fun _ _ _ h => h) (Or.inl ⟨by rfl, ?h4f⟩) (by assumption) ?r4f
              case h4f => intro w hSw; (try dsimp only at hSw); go_simp; first | done | with_reducible rfl
              try simp only [Act.put, List.setIfInBounds_toArray, List.set_cons_zero, List.set_cons_succ]
              refine take1 (i := 5) (v := ?v5f) (some 57) rfl rfl (by kernel_rfl) (by kernel_rfl) (by kernel_rfl) (fun _ _ _ h => h) (Or.inl ⟨by rfl, ?h5f⟩) (by assumption) ?r5f
              case h5f => intro w hSw; (try dsimp only at hSw); go_simp; first | done | with_reducible rfl
              try simp only [Act.put, List.setIfInBounds_toArray, List.set_cons_zero, List.set_cons_succ]
              refine take1 (i := 6) (v := ?v6f) (some 58) rfl rfl (by kernel_rfl) (by kernel_rfl) (by kernel_rfl) (fun _ _ _ h => h) (Or.inl ⟨by rfl, ?h6f⟩) (by assumption) ?r6f
              case h6f => intro w hSw; (try dsimp only at hSw); go_simp; first | done | with_reducible rfl
              try simp only [Act.put, List.setIfInBounds_toArray, List.set_cons_zero, List.set_cons_succ]
              refine take1 (i := 7) (v := ?v7f) (some 59) rfl rfl (by kernel_rfl) (by kernel_rfl) (by kernel_rfl) (fun _ _ _ h => h) (Or.inl ⟨by rfl, ?h7f⟩) (by assumption) ?r7f
              case h7f => intro w hSw; (try dsimp only at hSw); go_simp; first | done | with_reducible rfl
              try simp only [Act.put, List.setIfInBounds_toArray, List.set_cons_zero, List.set_cons_succ]
              refine take1 (i := 8) (v := ?v8f) (some 60) rfl rfl (by kernel_rfl) (by kernel_rfl) (by kernel_rfl) (fun _ _ _ h => h) (Or.inl ⟨by rfl, ?h8f⟩) (by assumption) ?r8f
              case h8f => intro w hSw; (try dsimp only at hSw); go_simp; first | done | with_reducible rfl
              try simp only [Act.put, List.setIfInBounds_toArray, List.set_cons_zero, List.set_cons_succ]
              refine take1 (i := 9) (v := ?v9f) (some 61) rfl rfl (by kernel_rfl) (by kernel_rfl) (by kernel_rfl) (fun _ _ _ h => h) (Or.inl ⟨by rfl, ?h9f⟩) (by assumption) ?r9f
              case h9f => intro w hSw; (try dsimp only at hSw); go_simp; first | done | with_reducible rfl
              try simp only [Act.put, List.setIfInBounds_toArray, List.set_cons_zero, List.set_cons_succ]
              refine wpAnyH_ready (rs := [10]) (by kernel_rfl) (by simp) ?_
              refine AllReadyH.cons rfl (fun K hK => ?_) AllReadyH.nil
              simp only [List.getElem_toArray, List.getElem_cons_zero, List.getElem_cons_succ]
              go_simp
              refine (has_b _ _ a x lo _ ((HL3.out.keep (below_drewN _ _ _)).at_ 0 rfl) H1.out).mono ?_
              rintro e X1 ⟨rfl, b1⟩
              have k1 := HK.out _ _ b1 (k0 _ ⟨1, rfl⟩)
              have L1 := Lib.hid ((HL3.out.keep (below_drewN _ _ 1)).keep b1)
              have B1 := Lib.hid ((hself.out.trans (below_drewN _ _ 1)).trans (b1.mono (hself.out.trans (below_drewN _ _ 1)).size))
              go_wp2_with fail
              clear hHeld
              refine hK.out _ _ k1 (fun hHeld => ?_)
              clear hK K
              try simp only [Act.put, List.setIfInBounds_toArray, List.set_cons_zero, List.set_cons_succ]
              refine take1 (i := 11) (v := ?v11f) (some 63) rfl rfl (by kernel_rfl) (by kernel_rfl) (by kernel_rfl) (fun _ _ _ h => h) (Or.inl ⟨by rfl, ?h11f⟩) (by assumption) ?r11f
              case h11f => intro w hSw; (try dsimp only at hSw); go_simp; first | done | with_reducible rfl
              try simp only [Act.put, List.setIfInBounds_toArray, List.set_cons_zero, List.set_cons_succ]
              refine take1 (i := 12) (v := ?v12f) (some 64) rfl rfl (by kernel_rfl) (by kernel_rfl) (by kernel_rfl) (fun _ _ _ h => h) (Or.inl ⟨by rfl, ?h12f⟩) (by assumption) ?r12f
              case h12f => intro w hSw; (try dsimp only at hSw); go_simp; first | done | with_reducible rfl
              try simp only [Act.put, List.setIfInBounds_toArray, List.set_cons_zero, List.set_cons_succ]
              refine take1 (i := 13) (v := ?v13f) (some 65) rfl rfl (by kernel_rfl) (by kernel_rfl) (by kernel_rfl) (fun _ _ _ h => h) (Or.inl ⟨by rfl, ?h13f⟩) (by assumption) ?r13f
              case h13f => intro w hSw; (try dsimp only at hSw); go_simp; first | done | with_reducible rfl
              try simp only [Act.put, List.setIfInBounds_toArray, List.set_cons_zero, List.set_cons_succ]
              refine take1 (i := 14) (v := ?v14f) (some 66) rfl rfl (by kernel_rfl) (by kernel_rfl) (by kernel_rfl) (fun _ _ _ h => h) (Or.inl ⟨by rfl, ?h14f⟩) (by assumption) ?r14f
              case h14f => intro w hSw; (try dsimp only at hSw); go_simp; first | done | with_reducible rfl
              try simp only [Act.put, List.setIfInBounds_toArray, List.set_cons_zero, List.set_cons_succ]
              refine take1 (i := 15) (v := ?v15f) (some 67) rfl rfl (by kernel_rfl) (by kernel_rfl) (by kernel_rfl) (fun _ _ _ h => h) (Or.inl ⟨by rfl, ?h15f⟩) (by assumption) ?r15f
              case h15f => intro w hSw; (try dsimp only at hSw); go_simp; first | done | with_reducible rfl
              try simp only [Act.put, List.setIfInBounds_toArray, List.set_cons_zero, List.set_cons_succ]
              refine wpAnyH_ready (rs := [16]) (by kernel_rfl) (by simp) ?_
              refine AllReadyH.cons rfl (fun K hK => ?_) AllReadyH.nil
              simp only [List.getElem_toArray, List.getElem_cons_zero, List.getElem_cons_succ]
              go_simp
              refine (has_b _ _ a x hi _ (L1.out.at_ 0 rfl) H2.out).mono ?_
              rintro e X2 ⟨rfl, b2⟩
              have k2 := HK.out _ _ b2 k1
              have L2 := Lib.hid (L1.out.keep b2)
              have B2 := Lib.hid (B1.out.trans (b2.mono B1.out.size))
              go_wp2_with fail
              clear hHeld
              refine hK.out _ _ k2 (fun hHeld => ?_)
              clear hK K
              try simp only [Act.put, List.setIfInBounds_toArray, List.set_cons_zero, List.set_cons_succ]
              refine take1 (i := 17) (v := ?v17f) (some 69) rfl rfl (by kernel_rfl) (by kernel_rfl) (by kernel_rfl) (fun _ _ _ h => h) (Or.inl ⟨by rfl, ?h17f⟩) (by assumption) ?r17f
              case h17f => intro w hSw; (try dsimp only at hSw); go_simp; first | done | with_reducible rfl
              try simp only [Act.put, List.setIfInBounds_toArray, List.set_cons_zero, List.set_cons_succ]
              refine take1 (i := 18) (v := ?v18f) (some 70) rfl rfl (by kernel_rfl) (by kernel_rfl) (by kernel_rfl) (fun _ _ _ h => h) (Or.inl ⟨by rfl, ?h18f⟩) (by assumption) ?r18f
              case h18f => intro w hSw; (try dsimp only at hSw); go_simp; first | done | with_reducible rfl
              try simp only [Act.put, List.setIfInBounds_toArray, List.set_cons_zero, List.set_cons_succ]
              refine take1 (i := 19) (v := ?v19f) (some 71) rfl rfl (by kernel_rfl) (by kernel_rfl) (by kernel_rfl) (fun _ _ _ h => h) (Or.inl ⟨by rfl, ?h19f⟩) (by assumption) ?r19f
              case h19f => intro w hSw; (try dsimp only at hSw); go_simp; first | done | with_reducible rfl
              try simp only [Act.put, List.setIfInBounds_toArray, List.set_cons_zero, List.set_cons_succ]
              refine take1 (i := 20) (v := ?v20f) (some 72) rfl rfl (by kernel_rfl) (by kernel_rfl) (by kernel_rfl) (fun _ _ _ h => h) (Or.inl ⟨by rfl, ?h20f⟩) (by assumption) ?r20f
              case h20f => intro w hSw; (try dsimp only at hSw); go_simp; first | done | with_reducible rfl
              try simp only [Act.put, List.setIfInBounds_toArray, List.set_cons_zero, List.set_cons_succ]
              refine take1 (i := 21) (v := ?v21f) (some 73) rfl rfl (by kernel_rfl) (by kernel_rfl) (by kernel_rfl) (fun _ _ _ h => h) (Or.inl ⟨by rfl, ?h21f⟩) (by assumption) ?r21f
              case h21f => intro w hSw; (try dsimp only at hSw); go_simp; first | done | with_reducible rfl
              try simp only [Act.put, List.setIfInBounds_toArray, List.set_cons_zero, List.set_cons_succ]
              refine take1 (i := 22) (v := ?v22f) (some 74) rfl rfl (by kernel_rfl) (by kernel_rfl) (by kernel_rfl) (fun _ _ _ h => h) (Or.inl ⟨by rfl, ?h22f⟩) (by assumption) ?r22f
              case h22f => intro w hSw; (try dsimp only at hSw); go_simp; first | done | with_reducible rfl
              try simp only [Act.put, List.setIfInBounds_toArray, List.set_cons_zero, List.set_cons_succ]
              refine take1 (i := 23) (v := ?v23f) (some 75) rfl rfl (by kernel_rfl) (by kernel_rfl) (by kernel_rfl) (fun _ _ _ h => h) (Or.inl ⟨by rfl, ?h23f⟩) (by assumption) ?r23f
              case h23f => intro w hSw; (try dsimp only at hSw); go_simp; first | done | with_reducible rfl
              try simp only [Act.put, List.setIfInBounds_toArray, List.set_cons_zero, List.set_cons_succ]
              refine take1 (i := 24) (v := undef) (some 76) rfl rfl (by kernel_rfl) (by kernel_rfl) (by kernel_rfl) (fun _ _ _ h => h) (Or.inr ⟨by rfl, rfl⟩) (by assumption) ?_
              try simp only [Act.put, List.setIfInBounds_toArray, List.set_cons_zero, List.set_cons_succ]
              refine take1 (i := 25) (v := undef) (some 77) rfl rfl (by kernel_rfl) (by kernel_rfl) (by kernel_rfl) (fun _ _ _ h => h) (Or.inr ⟨by rfl, rfl⟩) (by assumption) ?_
              try simp only [Act.put, List.setIfInBounds_toArray, List.set_cons_zero, List.set_cons_succ]
              refine wpAnyH_ready (rs := [26]) (by kernel_rfl) (by simp) ?_
              refine AllReadyH.cons rfl (fun K hK => ?_) AllReadyH.nil
              simp only [List.getElem_toArray, List.getElem_cons_zero, List.getElem_cons_succ]
              go_simp
              refine hK.out _ _ hHeld (fun hHeld => ?_)
              clear hK K
              try simp only [Act.put, List.setIfInBounds_toArray, List.set_cons_zero, List.set_cons_succ]
              refine take1 (i := 27) (v := ?v27f) (some 79) rfl rfl (by kernel_rfl) (by kernel_rfl) (by kernel_rfl) (fun _ _ _ h => h) (Or.inl ⟨by rfl, ?h27f⟩) (by assumption) ?r27f
              case h27f => intro w hSw; (try dsimp only at hSw); go_simp; first | done | with_reducible rfl
              try simp only [Act.put, List.setIfInBounds_toArray, List.set_cons_zero, List.set_cons_succ]
              refine take1 (i := 28) (v := ?v28f) (some 80) rfl rfl (by kernel_rfl) (by kernel_rfl) (by kernel_rfl) (fun _ _ _ h => h) (Or.inl ⟨by rfl, ?h28f⟩) (by assumption) ?r28f
              case h28f => intro w hSw; (try dsimp only at hSw); go_simp; first | done | with_reducible rfl
              try simp only [Act.put, List.setIfInBounds_toArray, List.set_cons_zero, List.set_cons_succ]
              refine take1 (i := 29) (v := ?v29f) (some 81) rfl rfl (by kernel_rfl) (by kernel_rfl) (by kernel_rfl) (fun _ _ _ h => h) (Or.inl ⟨by rfl, ?h29f⟩) (by assumption) ?r29f
              case h29f => intro w hSw; (try dsimp only at hSw); go_simp; first | done | with_reducible rfl
              try simp only [Act.put, List.setIfInBounds_toArray, List.set_cons_zero, List.set_cons_succ]
              refine take1 (i := 30) (v := ?v30f) (some 82) rfl rfl (by kernel_rfl) (by kernel_rfl) (by kernel_rfl) (fun _ _ _ h => h) (Or.inl ⟨by rfl, ?h30f⟩) (by assumption) ?r30f
              case h30f => intro w hSw; (try dsimp only at hSw); go_simp; first | done | with_reducible rfl
              try simp only [Act.put, List.setIfInBounds_toArray, List.set_cons_zero, List.set_cons_succ]
              refine take1 (i := 31) (v := ?v31f) (some 83) rfl rfl (by kernel_rfl) (by kernel_rfl) (by kernel_rfl) (fun _ _ _ h => h) (Or.inl ⟨by rfl, ?h31f⟩) (by assumption) ?r31f
              case h31f => intro w hSw; (try dsimp only at hSw); go_simp; first | done | with_reducible rfl
              try simp only [Act.put, List.setIfInBounds_toArray, List.set_cons_zero, List.set_cons_succ]
              refine take1 (i := 32) (v := ?v32f) (some 84) rfl rfl (by kernel_rfl) (by kernel_rfl) (by kernel_rfl) (fun _ _ _ h => h) (Or.inl ⟨by rfl, ?h32f⟩) (by assumption) ?r32f
              case h32f => intro w hSw; (try dsimp only at hSw); go_simp; first | done | with_reducible rfl
              try simp only [Act.put, List.setIfInBounds_toArray, List.set_cons_zero, List.set_cons_succ]
              refine take1 (i := 33) (v := ?v33f) (some 85) rfl rfl (by kernel_rfl) (by kernel_rfl) (by kernel_rfl) (fun _ _ _ h => h) (Or.inl ⟨by rfl, ?h33f⟩) (by assumption) ?r33f
              case h33f => intro w hSw; (try dsimp only at hSw); go_simp; first | done | with_reducible rfl
              try simp only [Act.put, List.setIfInBounds_toArray, List.set_cons_zero, List.set_cons_succ]
              refine take1 (i := 34) (v := ?v34f) (some 86) rfl rfl (by kernel_rfl) (by kernel_rfl) (by kernel_rfl) (fun _ _ _ h => h) (Or.inl ⟨by rfl, ?h34f⟩) (by assumption) ?r34f
              case h34f => intro w hSw; (try dsimp only at hSw); go_simp; first | done | with_reducible rfl
              try simp only [Act.put, List.setIfInBounds_toArray, List.set_cons_zero, List.set_cons_succ]
              refine take1 (i := 35) (v := ?v35f) (some 87) rfl rfl (by kernel_rfl) (by kernel_rfl) (by kernel_rfl) (fun _ _ _ h => h) (Or.inl ⟨by rfl, ?h35f⟩) (by assumption) ?r35f
              case h35f => intro w hSw; (try dsimp only at hSw); go_simp; first | done | with_reducible rfl
              try simp only [Act.put, List.setIfInBounds_toArray, List.set_cons_zero, List.set_cons_succ]
              refine wpAnyH_ready (rs := [36]) (by kernel_rfl) (by simp) ?_
              refine AllReadyH.cons rfl (fun K hK => ?_) AllReadyH.nil
              simp only [List.getElem_toArray, List.getElem_cons_zero, List.getElem_cons_succ]
              go_simp
              refine (has_b _ _ a x ph _ (L2.out.at_ 0 rfl) H3.out).mono ?_
              rintro e X3 ⟨rfl, b3⟩
              have k3 := HK.out _ _ b3 k2
              have L3 := Lib.hid (L2.out.keep b3)
              have B3 := Lib.hid (B2.out.trans (b3.mono B2.out.size))
              go_wp2_with fail
              clear hHeld
              refine hK.out _ _ k3 (fun hHeld => ?_)
              clear hK K
              try simp only [Act.put, List.setIfInBounds_toArray, List.set_cons_zero, List.set_cons_succ]
              refine take1 (i := 37) (v := ?v37f) (some 89) rfl rfl (by kernel_rfl) (by kernel_rfl) (by kernel_rfl) (fun _ _ _ h => h) (Or.inl ⟨by rfl, ?h37f⟩) (by assumption) ?r37f
              case h37f => intro w hSw; (try dsimp only at hSw); go_simp; first | done | with_reducible rfl
              try simp only [Act.put, List.setIfInBounds_toArray, List.set_cons_zero, List.set_cons_succ]
              refine take1 (i := 38) (v := ?v38f) (some 90) rfl rfl (by kernel_rfl) (by kernel_rfl) (by kernel_rfl) (fun _ _ _ h => h) (Or.inl ⟨by rfl, ?h38f⟩) (by assumption) ?r38f
              case h38f => intro w hSw; (try dsimp only at hSw); go_simp; first | done | with_reducible rfl
              try simp only [Act.put, List.setIfInBounds_toArray, List.set_cons_zero, List.set_cons_succ]
              refine take1 (i := 39) (v := ?v39f) (some 91) rfl rfl (by kernel_rfl) (by kernel_rfl) (by kernel_rfl) (fun _ _ _ h => h) (Or.inl ⟨by rfl, ?h39f⟩) (by assumption) ?r39f
              case h39f => intro w hSw; (try dsimp only at hSw); go_simp; first | done | with_reducible rfl
              try simp only [Act.put, List.setIfInBounds_toArray, List.set_cons_zero, List.set_cons_succ]
              refine take1 (i := 40) (v := ?v40f) (some 92) rfl rfl (by kernel_rfl) (by kernel_rfl) (by kernel_rfl) (fun _ _ _ h => h) (Or.inl ⟨by rfl, ?h40f⟩) (by assumption) ?r40f
              case h40f => intro w hSw; (try dsimp only at hSw); go_simp; first | done | with_reducible rfl
              try simp only [Act.put, List.setIfInBounds_toArray, List.set_cons_zero, List.set_cons_succ]
              refine take1 (i := 41) (v := ?v41f) (some 93) rfl rfl (by kernel_rfl) (by kernel_rfl) (by kernel_rfl) (fun _ _ _ h => h) (Or.inl ⟨by rfl, ?h41f⟩) (by assumption) ?r41f
              case h41f => intro w hSw; (try dsimp only at hSw); go_simp; first | done | with_reducible rfl
              try simp only [Act.put, List.setIfInBounds_toArray, List.set_cons_zero, List.set_cons_succ]
              refine take1 (i := 42) (v := ?v42f) (some 94) rfl rfl (by kernel_rfl) (by kernel_rfl) (by kernel_rfl) (fun _ _ _ h => h) (Or.inl ⟨by rfl, ?h42f⟩) (by assumption) ?r42f
              case h42f => intro w hSw; (try dsimp only at hSw); go_simp; first | done | with_reducible rfl
              try simp only [Act.put, List.setIfInBounds_toArray, List.set_cons_zero, List.set_cons_succ]
              refine take1 (i := 43) (v := undef) (some 95) rfl rfl (by kernel_rfl) (by kernel_rfl) (by kernel_rfl) (fun _ _ _ h => h) (Or.inr ⟨by rfl, rfl⟩) (by assumption) ?_
              try simp only [Act.put, List.setIfInBounds_toArray, List.set_cons_zero, List.set_cons_succ]
              refine take1 (i := 44) (v := undef) (some 96) rfl rfl (by kernel_rfl) (by kernel_rfl) (by kernel_rfl) (fun _ _ _ h => h) (Or.inr ⟨by rfl, rfl⟩) (by assumption) ?_
              try simp only [Act.put, List.setIfInBounds_toArray, List.set_cons_zero, List.set_cons_succ]
              refine take1 (i := 45) (v := undef) (some 97) rfl rfl (by kernel_rfl) (by kernel_rfl) (by kernel_rfl) (fun _ _ _ h => h) (Or.inr ⟨by rfl, rfl⟩) (by assumption) ?_
              try simp only [Act.put, List.setIfInBounds_toArray, List.set_cons_zero, List.set_cons_succ]
              refine take1 (i := 46) (v := undef) (some 98) rfl rfl (by kernel_rfl) (by kernel_rfl) (by kernel_rfl) (fun _ _ _ h => h) (Or.inr ⟨by rfl, rfl⟩) (by assumption) ?_
              try simp only [Act.put, List.setIfInBounds_toArray, List.set_cons_zero, List.set_cons_succ]
              refine take1 (i := 47) (v := undef) (some 99) rfl rfl (by kernel_rfl) (by kernel_rfl) (by kernel_rfl) (fun _ _ _ h => h) (Or.inr ⟨by rfl, rfl⟩) (by assumption) ?_
              try simp only [Act.put, List.setIfInBounds_toArray, List.set_cons_zero, List.set_cons_succ]
              refine take1 (i := 48) (v := undef) (some 100) rfl rfl (by kernel_rfl) (by kernel_rfl) (by kernel_rfl) (fun _ _ _ h => h) (Or.inr ⟨by rfl, rfl⟩) (by assumption) ?_
              try simp only [Act.put, List.setIfInBounds_toArray, List.set_cons_zero, List.set_cons_succ]
              refine take1 (i := 49) (v := undef) (some 101) rfl rfl (by kernel_rfl) (by kernel_rfl) (by kernel_rfl) (fun _ _ _ h => h) (Or.inr ⟨by rfl, rfl⟩) (by assumption) ?_
              try simp only [Act.put, List.setIfInBounds_toArray, List.set_cons_zero, List.set_cons_succ]
              refine take1 (i := 50) (v := undef) (some 102) rfl rfl (by kernel_rfl) (by kernel_rfl) (by kernel_rfl) (fun _ _ _ h => h) (Or.inr ⟨by rfl, rfl⟩) (by assumption) ?_
              try simp only [Act.put, List.setIfInBounds_toArray, List.set_cons_zero, List.set_cons_succ]
              refine take1 (i := 51) (v := undef) (some 103) rfl rfl (by kernel_rfl) (by kernel_rfl) (by kernel_rfl) (fun _ _ _ h => h) (Or.inr ⟨by rfl, rfl⟩) (by assumption) ?_
              try simp only [Act.put, List.setIfInBounds_toArray, List.set_cons_zero, List.set_cons_succ]
              refine take1 (i := 52) (v := ?v52f) (some 104) rfl rfl (by kernel_rfl) (by kernel_rfl) (by kernel_rfl) (fun _ _ _ h => h) (Or.inl ⟨by rfl, ?h52f⟩) (by assumption) ?r52f
              case h52f => intro w hSw; (try dsimp only at hSw); go_simp; first | done | with_reducible rfl
              try simp only [Act.put, List.setIfInBounds_toArray, List.set_cons_zero, List.set_cons_succ]
              refine take1 (i := 53) (v := ?v53f) (some 105) rfl rfl (by kernel_rfl) (by kernel_rfl) (by kernel_rfl) (fun _ _ _ h => h) (Or.inl ⟨by rfl, ?h53f⟩) (by assumption) ?r53f
              case h53f => intro w hSw; (try dsimp only at hSw); go_simp; first | done | with_reducible rfl
              try simp only [Act.put, List.setIfInBounds_toArray, List.set_cons_zero, List.set_cons_succ]
              refine wpAnyH_done (by kernel_rfl) ?_ _
              refine NoPanic.normal ?_
              clear kA kB kC kD k0 HK H1 b1 H2 b2 H3 b3
              have HL := Lib.hid L3.out
              have BX := Lib.hid B3.out
              have c0 := k3.2.2.1
              have c1 := k3.1
              have c2 := k3.2.1
              have HTX := Lib.hid (HT3.out.keep BX.out)
              have RWX := Lib.hid (RW3.out.keep BX.out)
              have hbX := Lib.hid (hb3.trans (BX.out.mono hb3.size))
              clear L1 B1 k1 L2 B2 k2 L3 B3 k3
              go_wp2
              obtain ⟨mk, hmk⟩ : ∃ mk : Nat, mk = 2 ^ x := ⟨_, rfl⟩
              have hmk2 : mk < 4294967296 := by rw [hmk]; exact Nat.lt_of_lt_of_le (Nat.pow_lt_pow_right (by omega) hx16b : 2 ^ x < 2 ^ 16) (by omega)
              have hs1 : IntKind.u32.wrap ((2 : Int) ^ min x 32) = (mk : Int) := by rw [Nat.min_eq_left (by omega), show (2 : Int) ^ x = ((mk : Nat) : Int) by rw [hmk]; simp]; show (mk : Int) % 4294967296 = _; omega
              have hs2 : IntKind.u32.wrap ((2 : Int) ^ x) = (mk : Int) := by rw [show (2 : Int) ^ x = ((mk : Nat) : Int) by rw [hmk]; simp]; show (mk : Int) % 4294967296 = _; omega
              have hs3 : (2 : Int) ^ x % 4294967296 = (mk : Int) := by rw [show (2 : Int) ^ x = ((mk : Nat) : Int) by rw [hmk]; simp]; omega
              have HMK := Lib.hid hmk
              clear hmk
              have HBA : Hid (∀ d o, Below X3.heap.size X3 ((X3.drewN d).alloc o)) := fun d o => (below_drewN _ _ d).alloc (by simp) o
              have HSX : Hid (∀ d, RdS ((X3.drewN d).alloc (.cells #[.int .u32 lo, .int .u32 hi] 37)) (.slice (some ⟨X3.heap.size, 0, none⟩) 1 1) [(lo, hi)]) := fun d => rdS_at [(lo, hi)] (heap_alloc_at (X3.drewN d) _) (by intro s hs; simp at hs; subst hs; exact ⟨by omega, hhi⟩) (by simp) 1 rfl
              have HTA : Hid (∀ d o, Tab ((X3.drewN d).alloc o)) := fun d o => HTX.out.keep (HBA.out d o)
              have HRA : Hid (∀ d o, RdA ((X3.drewN d).alloc o) _ (partK cl k)) := fun d o => RWX.out.keep (HBA.out d o)
              have HPS : Hid (Sm 20 (partK cl k)) := by show Sm 20 _; rw [HCL.out]; exact partK_sm W_a.out S_a.out k
              have HPL := Lib.hid (partK_len cl k)
              have cX : ∀ W', (∃ d, W' = X3.drewN d) → W'.cell? ⟨wr.heap.size, 0, none⟩ = some (.int .i64 x) ∧ W'.cell? ⟨wr.heap.size, 1, none⟩ = some (.int .u32 lo) ∧ W'.cell? ⟨wr.heap.size, 2, none⟩ = some (.int .u32 hi) := by rintro W' ⟨d, rfl⟩; exact ⟨c0, c1, c2⟩
              have cA : ∀ W', (∃ d o, W' = (X3.drewN d).alloc o) → W'.cell? ⟨wr.heap.size, 0, none⟩ = some (.int .i64 x) ∧ W'.cell? ⟨wr.heap.size, 1, none⟩ = some (.int .u32 lo) ∧ W'.cell? ⟨wr.heap.size, 2, none⟩ = some (.int .u32 hi) := by rintro W' ⟨d, o, rfl⟩; exact ⟨keep_cell (HBA.out d o) c0, keep_cell (HBA.out d o) c1, keep_cell (HBA.out d o) c2⟩
              clear c0 c1 c2
              first
                | (go_region_held3 (fun W' => W'.cell? ⟨wr.heap.size, 0, none⟩ = some (.int .i64 x) ∧ W'.cell? ⟨wr.heap.size, 1, none⟩ = some (.int .u32 lo) ∧ W'.cell? ⟨wr.heap.size, 2, none⟩ = some (.int .u32 hi))
                    (first | with_reducible exact m2 | with_reducible exact m1 | exact cX _ (by first | exact ⟨_, rfl⟩ | exact drewN_ex _ _ _ | exact drew_ex _ _) | exact cA _ ⟨1, _, rfl⟩)
                    (first
                      | (go_at_call 12; have hS := m1; refine (area_union _ _ _ (partK cl k) (ofL 16 (bitsN mk) (nf [(lo, hi)])) 20 1 RW1.out RO.out (Nat.le_trans HPL.out (by omega)) (by rw [ofL_len]; omega) HPS.out (ofL_sm (nf_one lo hi hhi hlo)) (by omega) (by omega)).mono ?_; rintro e Y2 ⟨v_u, u, rfl, R_u, l_u, h_u, -, b2⟩; obtain ⟨A_u, c_u, rfl, -⟩ := id R_u; have LU := Lib.hid l_u; clear l_u; have m2 : Y2.cell? ⟨wr.heap.size, 0, none⟩ = some (.int .i64 x) ∧ Y2.cell? ⟨wr.heap.size, 1, none⟩ = some (.int .u32 lo) ∧ Y2.cell? ⟨wr.heap.size, 2, none⟩ = some (.int .u32 hi) := ⟨keep_cell b2 m1.1, keep_cell b2 m1.2.1, keep_cell b2 m1.2.2⟩; have BY := Lib.hid (B1.out.trans (b2.mono B1.out.size)))
                      | (go_at_call 15; refine (of_calls _ 16 mk _ [(lo, hi)] (HSX.out _) (by simp) hmk2 (HTA.out _ _)).mono ?_; rw [show (min (max (16 : Int) 0) 16).toNat = 16 by decide]; rintro e Y1 ⟨χo, rfl, O, b1⟩; have RO := O.rd (by rw [ofL_len]; omega); rw [World.size_alloc] at RO; have RO := Lib.hid RO; have m1 : Y1.cell? ⟨wr.heap.size, 0, none⟩ = some (.int .i64 x) ∧ Y1.cell? ⟨wr.heap.size, 1, none⟩ = some (.int .u32 lo) ∧ Y1.cell? ⟨wr.heap.size, 2, none⟩ = some (.int .u32 hi) := ⟨keep_cell b1 (cA _ ⟨1, _, rfl⟩).1, keep_cell b1 (cA _ ⟨1, _, rfl⟩).2.1, keep_cell b1 (cA _ ⟨1, _, rfl⟩).2.2⟩; have RW1 := Lib.hid ((HRA.out _ _).keep b1); have B1 := Lib.hid ((HBA.out _ _).trans (b1.mono (HBA.out _ _).size)))))
              have hu := step_at HCL.out W_a.out hlt HX.out HMK.out h_u LU.out ⟨by show lo < _; omega, hhi⟩
              subst hu
              have hbY := hbX.trans (BY.out.mono hbX.size)
              have RY := Lib.hid R_u
              clear h_u LU m1 m2 RO RW1 B1 R_u hs1 hs2 hs3
              go_wp2
              refine ⟨⟨k + 1, hlt, by go_num, RY, hbY⟩, by simp [intOf]; omega⟩
          · by_cases hk0 : 0 < k
            · skip
              have kB : decide (0 < lo) = false := by simp; omega
              have kC : decide (0 < ph) = false := by simp; omega
              have kD : decide (0 < k) = true := by simp; omega
              obtain ⟨gl2, ol2, hgl, l0, -, -⟩ := HRC3.out.get (k - 1) (by omega)
              cases hgl
              obtain ⟨x2, hx2⟩ : ∃ x2, x2 = (cl[k - 1]'(by omega)).1 := ⟨_, rfl⟩
              have hx2le : x2 ≤ x := by rw [hx2]; exact HMON.out (by omega)
              rw [← hx2] at l0
              have kE : decide (x < x2) = false := by simp; omega
              have hk1 : IntKind.i64.wrap ((k : Int) - 1) = ((k - 1 : Nat) : Int) := by rw [IntKind.wrap_i64]; omega
              have hk2 : k - 1 < cl.length := by omega
              have hk3 : decide ((0 : Int) ≤ ((k - 1 : Nat) : Int)) = true := by simp
              have hk4 : decide (((k - 1 : Nat) : Int) < (cl.length : Int)) = true := by simp; omega
              clear hx2
              obtain ⟨-, c0, c1, c2, d0, d1, e0, e1, f0, f1, g0, g1⟩ := hX
              have k0 : ∀ W', (∃ d, W' = W3.drewN d) → W'.cell? ⟨wr.heap.size, 1, none⟩ = some (.int .u32 lo) ∧ W'.cell? ⟨wr.heap.size, 2, none⟩ = some (.int .u32 hi) ∧ W'.cell? ⟨wr.heap.size, 0, none⟩ = some (.int .i64 x) ∧ W'.cell? ⟨wr.heap.size + 1, 0, none⟩ = some (.int .i64 x) ∧ W'.cell? ⟨wr.heap.size + 1, 1, none⟩ = some (.int .u32 lo) ∧ W'.cell? ⟨wr.heap.size + 1 + 1, 0, none⟩ = some (.int .i64 x) ∧ W'.cell? ⟨wr.heap.size + 1 + 1, 1, none⟩ = some (.int .u32 hi) ∧ W'.cell? ⟨g9, 0, none⟩ = some (.int .i64 x) ∧ W'.cell? ⟨g9, 1, none⟩ = some (.int .u32 pl) ∧ W'.cell? ⟨g10, 0, none⟩ = some (.int .i64 x) ∧ W'.cell? ⟨g10, 1, none⟩ = some (.int .u32 ph) ∧ W'.cell? ⟨gl, ol + (k - 1) * 3, none⟩ = some (.int .i64 x2) := by rintro W' ⟨d, rfl⟩; exact ⟨c1, c2, c0, d0, d1, e0, e1, f0, f1, g0, g1, l0⟩
              have HK : Hid (∀ W W' : World, Below W.heap.size W W' → (W.cell? ⟨wr.heap.size, 1, none⟩ = some (.int .u32 lo) ∧ W.cell? ⟨wr.heap.size, 2, none⟩ = some (.int .u32 hi) ∧ W.cell? ⟨wr.heap.size, 0, none⟩ = some (.int .i64 x) ∧ W.cell? ⟨wr.heap.size + 1, 0, none⟩ = some (.int .i64 x) ∧ W.cell? ⟨wr.heap.size + 1, 1, none⟩ = some (.int .u32 lo) ∧ W.cell? ⟨wr.heap.size + 1 + 1, 0, none⟩ = some (.int .i64 x) ∧ W.cell? ⟨wr.heap.size + 1 + 1, 1, none⟩ = some (.int .u32 hi) ∧ W.cell? ⟨g9, 0, none⟩ = some (.int .i64 x) ∧ W.cell? ⟨g9, 1, none⟩ = some (.int .u32 pl) ∧ W.cell? ⟨g10, 0, none⟩ = some (.int .i64 x) ∧ W.cell? ⟨g10, 1, none⟩ = some (.int .u32 ph) ∧ W.cell? ⟨gl, ol + (k - 1) * 3, none⟩ = some (.int .i64 x2)) → W'.cell? ⟨wr.heap.size, 1, none⟩ = some (.int .u32 lo) ∧ W'.cell? ⟨wr.heap.size, 2, none⟩ = some (.int .u32 hi) ∧ W'.cell? ⟨wr.heap.size, 0, none⟩ = some (.int .i64 x) ∧ W'.cell? ⟨wr.heap.size + 1, 0, none⟩ = some (.int .i64 x) ∧ W'.cell? ⟨wr.heap.size + 1, 1, none⟩ = some (.int .u32 lo) ∧ W'.cell? ⟨wr.heap.size + 1 + 1, 0, none⟩ = some (.int .i64 x) ∧ W'.cell? ⟨wr.heap.size + 1 + 1, 1, none⟩ = some (.int .u32 hi) ∧ W'.cell? ⟨g9, 0, none⟩ = some (.int .i64 x) ∧ W'.cell? ⟨g9, 1, none⟩ = some (.int .u32 pl) ∧ W'.cell? ⟨g10, 0, none⟩ = some (.int .i64 x) ∧ W'.cell? ⟨g10, 1, none⟩ = some (.int .u32 ph) ∧ W'.cell? ⟨gl, ol + (k - 1) * 3, none⟩ = some (.int .i64 x2)) := fun W W' hb ⟨q0, q1, q2, q3, q4, q5, q6, q7, q8, q9, q10, q11⟩ => ⟨keep_cell hb q0, keep_cell hb q1, keep_cell hb q2, keep_cell hb q3, keep_cell hb q4, keep_cell hb q5, keep_cell hb q6, keep_cell hb q7, keep_cell hb q8, keep_cell hb q9, keep_cell hb q10, keep_cell hb q11⟩
              clear c0 c1 c2 d0 d1 e0 e1 f0 f1 g0 g1 l0
              have H1 := Lib.hid HI1.out
              have H2 := Lib.hid HI2.out
              clear HI3 HI4 hpl2 hph2 hph3
              have kS := k0 W3.drew ⟨1, rfl⟩
              refine wp_region_noPanic ?_
              refine wp_region_held_drew (S := fun W' => W'.cell? ⟨wr.heap.size, 1, none⟩ = some (.int .u32 lo) ∧ W'.cell? ⟨wr.heap.size, 2, none⟩ = some (.int .u32 hi) ∧ W'.cell? ⟨wr.heap.size, 0, none⟩ = some (.int .i64 x) ∧ W'.cell? ⟨wr.heap.size + 1, 0, none⟩ = some (.int .i64 x) ∧ W'.cell? ⟨wr.heap.size + 1, 1, none⟩ = some (.int .u32 lo) ∧ W'.cell? ⟨wr.heap.size + 1 + 1, 0, none⟩ = some (.int .i64 x) ∧ W'.cell? ⟨wr.heap.size + 1 + 1, 1, none⟩ = some (.int .u32 hi) ∧ W'.cell? ⟨g9, 0, none⟩ = some (.int .i64 x) ∧ W'.cell? ⟨g9, 1, none⟩ = some (.int .u32 pl) ∧ W'.cell? ⟨g10, 0, none⟩ = some (.int .i64 x) ∧ W'.cell? ⟨g10, 1, none⟩ = some (.int .u32 ph) ∧ W'.cell? ⟨gl, ol + (k - 1) * 3, none⟩ = some (.int .i64 x2)) (by kernel_rfl) kS (fun hHeld => ?_)
              clear kS
              refine take1 (i := 0) (v := ?v0g) (some 52) rfl rfl (by kernel_rfl) (by kernel_rfl) (by kernel_rfl) (fun _ _ _ h => h) (Or.inl ⟨by rfl, ?h0g⟩) (by assumption) ?r0g
              case h0g => intro w hSw; (try dsimp only at hSw); go_simp; first | done | with_reducible rfl
              try simp only [Act.put, List.setIfInBounds_toArray, List.set_cons_zero, List.set_cons_succ]
              refine take1 (i := 1) (v := ?v1g) (some 53) rfl rfl (by kernel_rfl) (by kernel_rfl) (by kernel_rfl) (fun _ _ _ h => h) (Or.inl ⟨by rfl, ?h1g⟩) (by assumption) ?r1g
              case h1g => intro w hSw; (try dsimp only at hSw); go_simp; first | done | with_reducible rfl
              try simp only [Act.put, List.setIfInBounds_toArray, List.set_cons_zero, List.set_cons_succ]
              refine take1 (i := 2) (v := ?v2g) (some 54) rfl rfl (by kernel_rfl) (by kernel_rfl) (by kernel_rfl) (fun _ _ _ h => h) (Or.inl ⟨by rfl, ?h2g⟩) (by assumption) ?r2g
              case h2g => intro w hSw; (try dsimp only at hSw); go_simp; first | done | with_reducible rfl
              try simp only [Act.put, List.setIfInBounds_toArray, List.set_cons_zero, List.set_cons_succ]
              refine take1 (i := 3) (v := ?v3g) (some 55) rfl rfl (by kernel_rfl) (by kernel_rfl) (by kernel_rfl) (fun _ _ _ h => h) (Or.inl ⟨by rfl, ?h3g⟩) (by assumption) ?r3g
              case h3g => intro w hSw; (try dsimp only at hSw); go_simp; first | done | with_reducible rfl
              try simp only [Act.put, List.setIfInBounds_toArray, List.set_cons_zero, List.set_cons_succ]
              refine take1 (i := 4) (v := ?v4g) (some 56) rfl rfl (by kernel_rfl) (by kernel_rfl) (by kernel_rfl) (fun _ _ _ h => h) (Or.inl ⟨by rfl, ?h4g⟩) (by assumption) ?r4g
              case h4g => intro w hSw; (try dsimp only at hSw); go_simp; first | done | with_reducible rfl
              try simp only [Act.put, List.setIfInBounds_toArray, List.set_cons_zero, List.set_cons_succ]
              refine take1 (i := 5) (v := ?v5g) (some 57) rfl rfl (by kernel_rfl) (by kernel_rfl) (by kernel_rfl) (fun _ _ _ h => h) (Or.inl ⟨by rfl, ?h5g⟩) (by assumption) ?r5g
              case h5g => intro w hSw; (try dsimp only at hSw); go_simp; first | done | with_reducible rfl
              try simp only [Act.put, List.setIfInBounds_toArray, List.set_cons_zero, List.set_cons_succ]
              refine take1 (i := 6) (v := ?v6g) (some 58) rfl rfl (by kernel_rfl) (by kernel_rfl) (by kernel_rfl) (fun _ _ _ h => h) (Or.inl ⟨by rfl, ?h6g⟩) (by assumption) ?r6g
              case h6g => intro w hSw; (try dsimp only at hSw); go_simp; first | done | with_reducible rfl
              try simp only [Act.put, List.setIfInBounds_toArray, List.set_cons_zero, List.set_cons_succ]
              refine take1 (i := 7) (v := ?v7g) (some 59) rfl rfl (by kernel_rfl) (by kernel_rfl) (by kernel_rfl) (fun _ _ _ h => h) (Or.inl ⟨by rfl, ?h7g⟩) (by assumption) ?r7g
              case h7g => intro w hSw; (try dsimp only at hSw); go_simp; first | done | with_reducible rfl
              try simp only [Act.put, List.setIfInBounds_toArray, List.set_cons_zero, List.set_cons_succ]
              refine take1 (i := 8) (v := ?v8g) (some 60) rfl rfl (by kernel_rfl) (by kernel_rfl) (by kernel_rfl) (fun _ _ _ h => h) (Or.inl ⟨by rfl, ?h8g⟩) (by assumption) ?r8g
              case h8g => intro w hSw; (try dsimp only at hSw); go_simp; first | done | with_reducible rfl
              try simp only [Act.put, List.setIfInBounds_toArray, List.set_cons_zero, List.set_cons_succ]
              refine take1 (i := 9) (v := ?v9g) (some 61) rfl rfl (by kernel_rfl) (by kernel_rfl) (by kernel_rfl) (fun _ _ _ h => h) (Or.inl ⟨by rfl, ?h9g⟩) (by assumption) ?r9g
              case h9g => intro w hSw; (try dsimp only at hSw); go_simp; first | done | with_reducible rfl
              try simp only [Act.put, List.setIfInBounds_toArray, List.set_cons_zero, List.set_cons_succ]
              refine wpAnyH_ready (rs := [10]) (by kernel_rfl) (by simp) ?_
              refine AllReadyH.cons rfl (fun K hK => ?_) AllReadyH.nil
              simp only [List.getElem_toArray, List.getElem_cons_zero, List.getElem_cons_succ]
              go_simp
              refine (has_b _ _ a x lo _ ((HL3.out.keep (below_drewN _ _ _)).at_ 0 rfl) H1.out).mono ?_
              rintro e X1 ⟨rfl, b1⟩
              have k1 := HK.out _ _ b1 (k0 _ ⟨1, rfl⟩)
              have L1 := Lib.hid ((HL3.out.keep (below_drewN _ _ 1)).keep b1)
              have B1 := Lib.hid ((hself.out.trans (below_drewN _ _ 1)).trans (b1.mono (hself.out.trans (below_drewN _ _ 1)).size))
              go_wp2_with fail
              clear hHeld
              refine hK.out _ _ k1 (fun hHeld => ?_)
              clear hK K
              try simp only [Act.put, List.setIfInBounds_toArray, List.set_cons_zero, List.set_cons_succ]
              refine take1 (i := 11) (v := ?v11g) (some 63) rfl rfl (by kernel_rfl) (by kernel_rfl) (by kernel_rfl) (fun _ _ _ h => h) (Or.inl ⟨by rfl, ?h11g⟩) (by assumption) ?r11g
              case h11g => intro w hSw; (try dsimp only at hSw); go_simp; first | done | with_reducible rfl
              try simp only [Act.put, List.setIfInBounds_toArray, List.set_cons_zero, List.set_cons_succ]
              refine take1 (i := 12) (v := ?v12g) (some 64) rfl rfl (by kernel_rfl) (by kernel_rfl) (by kernel_rfl) (fun _ _ _ h => h) (Or.inl ⟨by rfl, ?h12g⟩) (by assumption) ?r12g
              case h12g => intro w hSw; (try dsimp only at hSw); go_simp; first | done | with_reducible rfl
              try simp only [Act.put, List.setIfInBounds_toArray, List.set_cons_zero, List.set_cons_succ]
              refine take1 (i := 13) (v := ?v13g) (some 65) rfl rfl (by kernel_rfl) (by kernel_rfl) (by kernel_rfl) (fun _ _ _ h => h) (Or.inl ⟨by rfl, ?h13g⟩) (by assumption) ?r13g
              case h13g => intro w hSw; (try dsimp only at hSw); go_simp; first | done | with_reducible rfl
              try simp only [Act.put, List.setIfInBounds_toArray, List.set_cons_zero, List.set_cons_succ]
              refine take1 (i := 14) (v := ?v14g) (some 66) rfl rfl (by kernel_rfl) (by kernel_rfl) (by kernel_rfl) (fun _ _ _ h => h) (Or.inl ⟨by rfl, ?h14g⟩) (by assumption) ?r14g
              case h14g => intro w hSw; (try dsimp only at hSw); go_simp; first | done | with_reducible rfl
              try simp only [Act.put, List.setIfInBounds_toArray, List.set_cons_zero, List.set_cons_succ]
              refine take1 (i := 15) (v := ?v15g) (some 67) rfl rfl (by kernel_rfl) (by kernel_rfl) (by kernel_rfl) (fun _ _ _ h => h) (Or.inl ⟨by rfl, ?h15g⟩) (by assumption) ?r15g
              case h15g => intro w hSw; (try dsimp only at hSw); go_simp; first | done | with_reducible rfl
              try simp only [Act.put, List.setIfInBounds_toArray, List.set_cons_zero, List.set_cons_succ]
              refine wpAnyH_ready (rs := [16]) (by kernel_rfl) (by simp) ?_
              refine AllReadyH.cons rfl (fun K hK => ?_) AllReadyH.nil
              simp only [List.getElem_toArray, List.getElem_cons_zero, List.getElem_cons_succ]
              go_simp
              refine (has_b _ _ a x hi _ (L1.out.at_ 0 rfl) H2.out).mono ?_
              rintro e X2 ⟨rfl, b2⟩
              have k2 := HK.out _ _ b2 k1
              have L2 := Lib.hid (L1.out.keep b2)
              have B2 := Lib.hid (B1.out.trans (b2.mono B1.out.size))
              go_wp2_with fail
              clear hHeld
              refine hK.out _ _ k2 (fun hHeld => ?_)
              clear hK K
              try simp only [Act.put, List.setIfInBounds_toArray, List.set_cons_zero, List.set_cons_succ]
              refine take1 (i := 17) (v := ?v17g) (some 69) rfl rfl (by kernel_rfl) (by kernel_rfl) (by kernel_rfl) (fun _ _ _ h => h) (Or.inl ⟨by rfl, ?h17g⟩) (by assumption) ?r17g
              case h17g => intro w hSw; (try dsimp only at hSw); go_simp; first | done | with_reducible rfl
              try simp only [Act.put, List.setIfInBounds_toArray, List.set_cons_zero, List.set_cons_succ]
              refine take1 (i := 18) (v := ?v18g) (some 70) rfl rfl (by kernel_rfl) (by kernel_rfl) (by kernel_rfl) (fun _ _ _ h => h) (Or.inl ⟨by rfl, ?h18g⟩) (by assumption) ?r18g
              case h18g => intro w hSw; (try dsimp only at hSw); go_simp; first | done | with_reducible rfl
              try simp only [Act.put, List.setIfInBounds_toArray, List.set_cons_zero, List.set_cons_succ]
              refine take1 (i := 19) (v := ?v19g) (some 71) rfl rfl (by kernel_rfl) (by kernel_rfl) (by kernel_rfl) (fun _ _ _ h => h) (Or.inl ⟨by rfl, ?h19g⟩) (by assumption) ?r19g
              case h19g => intro w hSw; (try dsimp only at hSw); go_simp; first | done | with_reducible rfl
              try simp only [Act.put, List.setIfInBounds_toArray, List.set_cons_zero, List.set_cons_succ]
              refine take1 (i := 20) (v := ?v20g) (some 72) rfl rfl (by kernel_rfl) (by kernel_rfl) (by kernel_rfl) (fun _ _ _ h => h) (Or.inl ⟨by rfl, ?h20g⟩) (by assumption) ?r20g
              case h20g => intro w hSw; (try dsimp only at hSw); go_simp; first | done | with_reducible rfl
              try simp only [Act.put, List.setIfInBounds_toArray, List.set_cons_zero, List.set_cons_succ]
              refine take1 (i := 21) (v := ?v21g) (some 73) rfl rfl (by kernel_rfl) (by kernel_rfl) (by kernel_rfl) (fun _ _ _ h => h) (Or.inl ⟨by rfl, ?h21g⟩) (by assumption) ?r21g
              case h21g => intro w hSw; (try dsimp only at hSw); go_simp; first | done | with_reducible rfl
              try simp only [Act.put, List.setIfInBounds_toArray, List.set_cons_zero, List.set_cons_succ]
              refine take1 (i := 22) (v := ?v22g) (some 74) rfl rfl (by kernel_rfl) (by kernel_rfl) (by kernel_rfl) (fun _ _ _ h => h) (Or.inl ⟨by rfl, ?h22g⟩) (by assumption) ?r22g
              case h22g => intro w hSw; (try dsimp only at hSw); go_simp; first | done | with_reducible rfl
              try simp only [Act.put, List.setIfInBounds_toArray, List.set_cons_zero, List.set_cons_succ]
              refine take1 (i := 23) (v := ?v23g) (some 75) rfl rfl (by kernel_rfl) (by kernel_rfl) (by kernel_rfl) (fun _ _ _ h => h) (Or.inl ⟨by rfl, ?h23g⟩) (by assumption) ?r23g
              case h23g => intro w hSw; (try dsimp only at hSw); go_simp; first | done | with_reducible rfl
              try simp only [Act.put, List.setIfInBounds_toArray, List.set_cons_zero, List.set_cons_succ]
              refine take1 (i := 24) (v := undef) (some 76) rfl rfl (by kernel_rfl) (by kernel_rfl) (by kernel_rfl) (fun _ _ _ h => h) (Or.inr ⟨by rfl, rfl⟩) (by assumption) ?_
              try simp only [Act.put, List.setIfInBounds_toArray, List.set_cons_zero, List.set_cons_succ]
              refine take1 (i := 25) (v := undef) (some 77) rfl rfl (by kernel_rfl) (by kernel_rfl) (by kernel_rfl) (fun _ _ _ h => h) (Or.inr ⟨by rfl, rfl⟩) (by assumption) ?_
              try simp only [Act.put, List.setIfInBounds_toArray, List.set_cons_zero, List.set_cons_succ]
              refine wpAnyH_ready (rs := [26]) (by kernel_rfl) (by simp) ?_
              refine AllReadyH.cons rfl (fun K hK => ?_) AllReadyH.nil
              simp only [List.getElem_toArray, List.getElem_cons_zero, List.getElem_cons_succ]
              go_simp
              refine hK.out _ _ hHeld (fun hHeld => ?_)
              clear hK K
              try simp only [Act.put, List.setIfInBounds_toArray, List.set_cons_zero, List.set_cons_succ]
              refine take1 (i := 27) (v := ?v27g) (some 79) rfl rfl (by kernel_rfl) (by kernel_rfl) (by kernel_rfl) (fun _ _ _ h => h) (Or.inl ⟨by rfl, ?h27g⟩) (by assumption) ?r27g
              case h27g => intro w hSw; (try dsimp only at hSw); go_simp; first | done | with_reducible rfl
              try simp only [Act.put, List.setIfInBounds_toArray, List.set_cons_zero, List.set_cons_succ]
              refine take1 (i := 28) (v := ?v28g) (some 80) rfl rfl (by kernel_rfl) (by kernel_rfl) (by kernel_rfl) (fun _ _ _ h => h) (Or.inl ⟨by rfl, ?h28g⟩) (by assumption) ?r28g
              case h28g => intro w hSw; (try dsimp only at hSw); go_simp; first | done | with_reducible rfl
              try simp only [Act.put, List.setIfInBounds_toArray, List.set_cons_zero, List.set_cons_succ]
              refine take1 (i := 29) (v := ?v29g) (some 81) rfl rfl (by kernel_rfl) (by kernel_rfl) (by kernel_rfl) (fun _ _ _ h => h) (Or.inl ⟨by rfl, ?h29g⟩) (by assumption) ?r29g
              case h29g => intro w hSw; (try dsimp only at hSw); go_simp; first | done | with_reducible rfl
              try simp only [Act.put, List.setIfInBounds_toArray, List.set_cons_zero, List.set_cons_succ]
              refine take1 (i := 30) (v := ?v30g) (some 82) rfl rfl (by kernel_rfl) (by kernel_rfl) (by kernel_rfl) (fun _ _ _ h => h) (Or.inl ⟨by rfl, ?h30g⟩) (by assumption) ?r30g
              case h30g => intro w hSw; (try dsimp only at hSw); go_simp; first | done | with_reducible rfl
              try simp only [Act.put, List.setIfInBounds_toArray, List.set_cons_zero, List.set_cons_succ]
              refine take1 (i := 31) (v := ?v31g) (some 83) rfl rfl (by kernel_rfl) (by kernel_rfl) (by kernel_rfl) (fun _ _ _ h => h) (Or.inl ⟨by rfl, ?h31g⟩) (by assumption) ?r31g
              case h31g => intro w hSw; (try dsimp only at hSw); go_simp; first | done | with_reducible rfl
              try simp only [Act.put, List.setIfInBounds_toArray, List.set_cons_zero, List.set_cons_succ]
              refine take1 (i := 32) (v := ?v32g) (some 84) rfl rfl (by kernel_rfl) (by kernel_rfl) (by kernel_rfl) (fun _ _ _ h => h) (Or.inl ⟨by rfl, ?h32g⟩) (by assumption) ?r32g
              case h32g => intro w hSw; (try dsimp only at hSw); go_simp; first | done | with_reducible rfl
              try simp only [Act.put, List.setIfInBounds_toArray, List.set_cons_zero, List.set_cons_succ]
              refine take1 (i := 33) (v := ?v33g) (some 85) rfl rfl (by kernel_rfl) (by kernel_rfl) (by kernel_rfl) (fun _ _ _ h => h) (Or.inl ⟨by rfl, ?h33g⟩) (by assumption) ?r33g
              case h33g => intro w hSw; (try dsimp only at hSw); go_simp; first | done | with_reducible rfl
              try simp only [Act.put, List.setIfInBounds_toArray, List.set_cons_zero, List.set_cons_succ]
              refine take1 (i := 34) (v := undef) (some 86) rfl rfl (by kernel_rfl) (by kernel_rfl) (by kernel_rfl) (fun _ _ _ h => h) (Or.inr ⟨by rfl, rfl⟩) (by assumption) ?_
              try simp only [Act.put, List.setIfInBounds_toArray, List.set_cons_zero, List.set_cons_succ]
              refine take1 (i := 35) (v := undef) (some 87) rfl rfl (by kernel_rfl) (by kernel_rfl) (by kernel_rfl) (fun _ _ _ h => h) (Or.inr ⟨by rfl, rfl⟩) (by assumption) ?_
              try simp only [Act.put, List.setIfInBounds_toArray, List.set_cons_zero, List.set_cons_succ]
              refine wpAnyH_ready (rs := [36]) (by kernel_rfl) (by simp) ?_
              refine AllReadyH.cons rfl (fun K hK => ?_) AllReadyH.nil
              simp only [List.getElem_toArray, List.getElem_cons_zero, List.getElem_cons_succ]
              go_simp
              refine hK.out _ _ hHeld (fun hHeld => ?_)
              clear hK K
              try simp only [Act.put, List.setIfInBounds_toArray, List.set_cons_zero, List.set_cons_succ]
              refine take1 (i := 37) (v := ?v37g) (some 89) rfl rfl (by kernel_rfl) (by kernel_rfl) (by kernel_rfl) (fun _ _ _ h => h) (Or.inl ⟨by rfl, ?h37g⟩) (by assumption) ?r37g
              case h37g => intro w hSw; (try dsimp only at hSw); go_simp; first | done | with_reducible rfl
              try simp only [Act.put, List.setIfInBounds_toArray, List.set_cons_zero, List.set_cons_succ]
              refine take1 (i := 38) (v := ?v38g) (some 90) rfl rfl (by kernel_rfl) (by kernel_rfl) (by kernel_rfl) (fun _ _ _ h => h) (Or.inl ⟨by rfl, ?h38g⟩) (by assumption) ?r38g
              case h38g => intro w hSw; (try dsimp only at hSw); go_simp; first | done | with_reducible rfl
              try simp only [Act.put, List.setIfInBounds_toArray, List.set_cons_zero, List.set_cons_succ]
              refine take1 (i := 39) (v := ?v39g) (some 91) rfl rfl (by kernel_rfl) (by kernel_rfl) (by kernel_rfl) (fun _ _ _ h => h) (Or.inl ⟨by rfl, ?h39g⟩) (by assumption) ?r39g
              case h39g => intro w hSw; (try dsimp only at hSw); go_simp; first | done | with_reducible rfl
              try simp only [Act.put, List.setIfInBounds_toArray, List.set_cons_zero, List.set_cons_succ]
              refine take1 (i := 40) (v := ?v40g) (some 92) rfl rfl (by kernel_rfl) (by kernel_rfl) (by kernel_rfl) (fun _ _ _ h => h) (Or.inl ⟨by rfl, ?h40g⟩) (by assumption) ?r40g
              case h40g => intro w hSw; (try dsimp only at hSw); go_simp; first | done | with_reducible rfl
              try simp only [Act.put, List.setIfInBounds_toArray, List.set_cons_zero, List.set_cons_succ]
              refine take1 (i := 41) (v := ?v41g) (some 93) rfl rfl (by kernel_rfl) (by kernel_rfl) (by kernel_rfl) (fun _ _ _ h => h) (Or.inl ⟨by rfl, ?h41g⟩) (by assumption) ?r41g
              case h41g => intro w hSw; (try dsimp only at hSw); go_simp; first | done | with_reducible rfl
              try simp only [Act.put, List.setIfInBounds_toArray, List.set_cons_zero, List.set_cons_succ]
              refine take1 (i := 42) (v := ?v42g) (some 94) rfl rfl (by kernel_rfl) (by kernel_rfl) (by kernel_rfl) (fun _ _ _ h => h) (Or.inl ⟨by rfl, ?h42g⟩) (by assumption) ?r42g
              case h42g => intro w hSw; (try dsimp only at hSw); go_simp; first | done | with_reducible rfl
              try simp only [Act.put, List.setIfInBounds_toArray, List.set_cons_zero, List.set_cons_succ]
              refine take1 (i := 43) (v := ?v43g) (some 95) rfl rfl (by kernel_rfl) (by kernel_rfl) (by kernel_rfl) (fun _ _ _ h => h) (Or.inl ⟨by rfl, ?h43g⟩) (by assumption) ?r43g
              case h43g => intro w hSw; (try dsimp only at hSw); go_simp; first | done | with_reducible rfl
              try simp only [Act.put, List.setIfInBounds_toArray, List.set_cons_zero, List.set_cons_succ]
              refine take1 (i := 44) (v := ?v44g) (some 96) rfl rfl (by kernel_rfl) (by kernel_rfl) (by kernel_rfl) (fun _ _ _ h => h) (Or.inl ⟨by rfl, ?h44g⟩) (by assumption) ?r44g
              case h44g => intro w hSw; (try dsimp only at hSw); go_simp; first | done | with_reducible rfl
              try simp only [Act.put, List.setIfInBounds_toArray, List.set_cons_zero, List.set_cons_succ]
              refine take1 (i := 45) (v := ?v45g) (some 97) rfl rfl (by kernel_rfl) (by kernel_rfl) (by kernel_rfl) (fun _ _ _ h => h) (Or.inl ⟨by rfl, ?h45g⟩) (by assumption) ?r45g
              case h45g => intro w hSw; (try dsimp only at hSw); go_simp; first | done | with_reducible rfl
              try simp only [Act.put, List.setIfInBounds_toArray, List.set_cons_zero, List.set_cons_succ]
              refine take1 (i := 46) (v := ?v46g) (some 98) rfl rfl (by kernel_rfl) (by kernel_rfl) (by kernel_rfl) (fun _ _ _ h => h) (Or.inl ⟨by rfl, ?h46g⟩) (by assumption) ?r46g
              case h46g => intro w hSw; (try dsimp only at hSw); go_simp; first | done | with_reducible rfl
              try simp only [Act.put, List.setIfInBounds_toArray, List.set_cons_zero, List.set_cons_succ]
              refine take1 (i := 47) (v := ?v47g) (some 99) rfl rfl (by kernel_rfl) (by kernel_rfl) (by kernel_rfl) (fun _ _ _ h => h) (Or.inl ⟨by rfl, ?h47g⟩) (by assumption) ?r47g
              case h47g => intro w hSw; (try dsimp only at hSw); go_simp; first | done | with_reducible rfl
              try simp only [Act.put, List.setIfInBounds_toArray, List.set_cons_zero, List.set_cons_succ]
              refine take1 (i := 48) (v := ?v48g) (some 100) rfl rfl (by kernel_rfl) (by kernel_rfl) (by kernel_rfl) (fun _ _ _ h => h) (Or.inl ⟨by rfl, ?h48g⟩) (by assumption) ?r48g
              case h48g => intro w hSw; (try dsimp only at hSw); go_simp; first | done | with_reducible rfl
              try simp only [Act.put, List.setIfInBounds_toArray, List.set_cons_zero, List.set_cons_succ]
              refine take1 (i := 49) (v := ?v49g) (some 101) rfl rfl (by kernel_rfl) (by kernel_rfl) (by kernel_rfl) (fun _ _ _ h => h) (Or.inl ⟨by rfl, ?h49g⟩) (by assumption) ?r49g
              case h49g => intro w hSw; (try dsimp only at hSw); go_simp; first | done | with_reducible rfl
              try simp only [Act.put, List.setIfInBounds_toArray, List.set_cons_zero, List.set_cons_succ]
              refine take1 (i := 50) (v := ?v50g) (some 102) rfl rfl (by kernel_rfl) (by kernel_rfl) (by kernel_rfl) (fun _ _ _ h => h) (Or.inl ⟨by rfl, ?h50g⟩) (by assumption) ?r50g
              case h50g => intro w hSw; (try dsimp only at hSw); go_simp; first | done | with_reducible rfl
              try simp only [Act.put, List.setIfInBounds_toArray, List.set_cons_zero, List.set_cons_succ]
              refine take1 (i := 51) (v := ?v51g) (some 103) rfl rfl (by kernel_rfl) (by kernel_rfl) (by kernel_rfl) (fun _ _ _ h => h) (Or.inl ⟨by rfl, ?h51g⟩) (by assumption) ?r51g
              case h51g => intro w hSw; (try dsimp only at hSw); go_simp; first | done | with_reducible rfl
              try simp only [Act.put, List.setIfInBounds_toArray, List.set_cons_zero, List.set_cons_succ]
              refine take1 (i := 52) (v := ?v52g) (some 104) rfl rfl (by kernel_rfl) (by kernel_rfl) (by kernel_rfl) (fun _ _ _ h => h) (Or.inl ⟨by rfl, ?h52g⟩) (by assumption) ?r52g
              case h52g => intro w hSw; (try dsimp only at hSw); go_simp; first | done | with_reducible rfl
              try simp only [Act.put, List.setIfInBounds_toArray, List.set_cons_zero, List.set_cons_succ]
              refine take1 (i := 53) (v := ?v53g) (some 105) rfl rfl (by kernel_rfl) (by kernel_rfl) (by kernel_rfl) (fun _ _ _ h => h) (Or.inl ⟨by rfl, ?h53g⟩) (by assumption) ?r53g
              case h53g => intro w hSw; (try dsimp only at hSw); go_simp; first | done | with_reducible rfl
              try simp only [Act.put, List.setIfInBounds_toArray, List.set_cons_zero, List.set_cons_succ]
              refine wpAnyH_done (by kernel_rfl) ?_ _
              refine NoPanic.normal ?_
              clear kA kB kC kD kE hk1 hk2 hk3 hk4 hx2le k0 HK H1 b1 H2 b2
              have HL := Lib.hid L2.out
              have BX := Lib.hid B2.out
              have c0 := k2.2.2.1
              have c1 := k2.1
              have c2 := k2.2.1
              have HTX := Lib.hid (HT3.out.keep BX.out)
              have RWX := Lib.hid (RW3.out.keep BX.out)
              have hbX := Lib.hid (hb3.trans (BX.out.mono hb3.size))
              clear L1 B1 k1 L2 B2 k2
              go_wp2
              obtain ⟨mk, hmk⟩ : ∃ mk : Nat, mk = 2 ^ x := ⟨_, rfl⟩
              have hmk2 : mk < 4294967296 := by rw [hmk]; exact Nat.lt_of_lt_of_le (Nat.pow_lt_pow_right (by omega) hx16b : 2 ^ x < 2 ^ 16) (by omega)
              have hs1 : IntKind.u32.wrap ((2 : Int) ^ min x 32) = (mk : Int) := by rw [Nat.min_eq_left (by omega), show (2 : Int) ^ x = ((mk : Nat) : Int) by rw [hmk]; simp]; show (mk : Int) % 4294967296 = _; omega
              have hs2 : IntKind.u32.wrap ((2 : Int) ^ x) = (mk : Int) := by rw [show (2 : Int) ^ x = ((mk : Nat) : Int) by rw [hmk]; simp]; show (mk : Int) % 4294967296 = _; omega
              have hs3 : (2 : Int) ^ x % 4294967296 = (mk : Int) := by rw [show (2 : Int) ^ x = ((mk : Nat) : Int) by rw [hmk]; simp]; omega
              have HMK := Lib.hid hmk
              clear hmk
              have HBA : Hid (∀ d o, Below X2.heap.size X2 ((X2.drewN d).alloc o)) := fun d o => (below_drewN _ _ d).alloc (by simp) o
              have HSX : Hid (∀ d, RdS ((X2.drewN d).alloc (.cells #[.int .u32 lo, .int .u32 hi] 37)) (.slice (some ⟨X2.heap.size, 0, none⟩) 1 1) [(lo, hi)]) := fun d => rdS_at [(lo, hi)] (heap_alloc_at (X2.drewN d) _) (by intro s hs; simp at hs; subst hs; exact ⟨by omega, hhi⟩) (by simp) 1 rfl
              have HTA : Hid (∀ d o, Tab ((X2.drewN d).alloc o)) := fun d o => HTX.out.keep (HBA.out d o)
              have HRA : Hid (∀ d o, RdA ((X2.drewN d).alloc o) _ (partK cl k)) := fun d o => RWX.out.keep (HBA.out d o)
              have HPS : Hid (Sm 20 (partK cl k)) := by show Sm 20 _; rw [HCL.out]; exact partK_sm W_a.out S_a.out k
              have HPL := Lib.hid (partK_len cl k)
              have cX : ∀ W', (∃ d, W' = X2.drewN d) → W'.cell? ⟨wr.heap.size, 0, none⟩ = some (.int .i64 x) ∧ W'.cell? ⟨wr.heap.size, 1, none⟩ = some (.int .u32 lo) ∧ W'.cell? ⟨wr.heap.size, 2, none⟩ = some (.int .u32 hi) := by rintro W' ⟨d, rfl⟩; exact ⟨c0, c1, c2⟩
              have cA : ∀ W', (∃ d o, W' = (X2.drewN d).alloc o) → W'.cell? ⟨wr.heap.size, 0, none⟩ = some (.int .i64 x) ∧ W'.cell? ⟨wr.heap.size, 1, none⟩ = some (.int .u32 lo) ∧ W'.cell? ⟨wr.heap.size, 2, none⟩ = some (.int .u32 hi) := by rintro W' ⟨d, o, rfl⟩; exact ⟨keep_cell (HBA.out d o) c0, keep_cell (HBA.out d o) c1, keep_cell (HBA.out d o) c2⟩
              clear c0 c1 c2
              first
                | (go_region_held3 (fun W' => W'.cell? ⟨wr.heap.size, 0, none⟩ = some (.int .i64 x) ∧ W'.cell? ⟨wr.heap.size, 1, none⟩ = some (.int .u32 lo) ∧ W'.cell? ⟨wr.heap.size, 2, none⟩ = some (.int .u32 hi))
                    (first | with_reducible exact m2 | with_reducible exact m1 | exact cX _ (by first | exact ⟨_, rfl⟩ | exact drewN_ex _ _ _ | exact drew_ex _ _) | exact cA _ ⟨1, _, rfl⟩)
                    (first
                      | (go_at_call 12; have hS := m1; refine (area_union _ _ _ (partK cl k) (ofL 16 (bitsN mk) (nf [(lo, hi)])) 20 1 RW1.out RO.out (Nat.le_trans HPL.out (by omega)) (by rw [ofL_len]; omega) HPS.out (ofL_sm (nf_one lo hi hhi hlo)) (by omega) (by omega)).mono ?_; rintro e Y2 ⟨v_u, u, rfl, R_u, l_u, h_u, -, b2⟩; obtain ⟨A_u, c_u, rfl, -⟩ := id R_u; have LU := Lib.hid l_u; clear l_u; have m2 : Y2.cell? ⟨wr.heap.size, 0, none⟩ = some (.int .i64 x) ∧ Y2.cell? ⟨wr.heap.size, 1, none⟩ = some (.int .u32 lo) ∧ Y2.cell? ⟨wr.heap.size, 2, none⟩ = some (.int .u32 hi) := ⟨keep_cell b2 m1.1, keep_cell b2 m1.2.1, keep_cell b2 m1.2.2⟩; have BY := Lib.hid (B1.out.trans (b2.mono B1.out.size)))
                      | (go_at_call 15; refine (of_calls _ 16 mk _ [(lo, hi)] (HSX.out _) (by simp) hmk2 (HTA.out _ _)).mono ?_; rw [show (min (max (16 : Int) 0) 16).toNat = 16 by decide]; rintro e Y1 ⟨χo, rfl, O, b1⟩; have RO := O.rd (by rw [ofL_len]; omega); rw [World.size_alloc] at RO; have RO := Lib.hid RO; have m1 : Y1.cell? ⟨wr.heap.size, 0, none⟩ = some (.int .i64 x) ∧ Y1.cell? ⟨wr.heap.size, 1, none⟩ = some (.int .u32 lo) ∧ Y1.cell? ⟨wr.heap.size, 2, none⟩ = some (.int .u32 hi) := ⟨keep_cell b1 (cA _ ⟨1, _, rfl⟩).1, keep_cell b1 (cA _ ⟨1, _, rfl⟩).2.1, keep_cell b1 (cA _ ⟨1, _, rfl⟩).2.2⟩; have RW1 := Lib.hid ((HRA.out _ _).keep b1); have B1 := Lib.hid ((HBA.out _ _).trans (b1.mono (HBA.out _ _).size)))))
              have hu := step_at HCL.out W_a.out hlt HX.out HMK.out h_u LU.out ⟨by show lo < _; omega, hhi⟩
              subst hu
              have hbY := hbX.trans (BY.out.mono hbX.size)
              have RY := Lib.hid R_u
              clear h_u LU m1 m2 RO RW1 B1 R_u hs1 hs2 hs3
              go_wp2
              refine ⟨⟨k + 1, hlt, by go_num, RY, hbY⟩, by simp [intOf]; omega⟩
            · skip
              have kB : decide (0 < lo) = false := by simp; omega
              have kC : decide (0 < ph) = false := by simp; omega
              have kD : decide (0 < k) = false := by simp; omega
              obtain ⟨-, c0, c1, c2, d0, d1, e0, e1, f0, f1, g0, g1⟩ := hX
              have k0 : ∀ W', (∃ d, W' = W3.drewN d) → W'.cell? ⟨wr.heap.size, 1, none⟩ = some (.int .u32 lo) ∧ W'.cell? ⟨wr.heap.size, 2, none⟩ = some (.int .u32 hi) ∧ W'.cell? ⟨wr.heap.size, 0, none⟩ = some (.int .i64 x) ∧ W'.cell? ⟨wr.heap.size + 1, 0, none⟩ = some (.int .i64 x) ∧ W'.cell? ⟨wr.heap.size + 1, 1, none⟩ = some (.int .u32 lo) ∧ W'.cell? ⟨wr.heap.size + 1 + 1, 0, none⟩ = some (.int .i64 x) ∧ W'.cell? ⟨wr.heap.size + 1 + 1, 1, none⟩ = some (.int .u32 hi) ∧ W'.cell? ⟨g9, 0, none⟩ = some (.int .i64 x) ∧ W'.cell? ⟨g9, 1, none⟩ = some (.int .u32 pl) ∧ W'.cell? ⟨g10, 0, none⟩ = some (.int .i64 x) ∧ W'.cell? ⟨g10, 1, none⟩ = some (.int .u32 ph) := by rintro W' ⟨d, rfl⟩; exact ⟨c1, c2, c0, d0, d1, e0, e1, f0, f1, g0, g1⟩
              have HK : Hid (∀ W W' : World, Below W.heap.size W W' → (W.cell? ⟨wr.heap.size, 1, none⟩ = some (.int .u32 lo) ∧ W.cell? ⟨wr.heap.size, 2, none⟩ = some (.int .u32 hi) ∧ W.cell? ⟨wr.heap.size, 0, none⟩ = some (.int .i64 x) ∧ W.cell? ⟨wr.heap.size + 1, 0, none⟩ = some (.int .i64 x) ∧ W.cell? ⟨wr.heap.size + 1, 1, none⟩ = some (.int .u32 lo) ∧ W.cell? ⟨wr.heap.size + 1 + 1, 0, none⟩ = some (.int .i64 x) ∧ W.cell? ⟨wr.heap.size + 1 + 1, 1, none⟩ = some (.int .u32 hi) ∧ W.cell? ⟨g9, 0, none⟩ = some (.int .i64 x) ∧ W.cell? ⟨g9, 1, none⟩ = some (.int .u32 pl) ∧ W.cell? ⟨g10, 0, none⟩ = some (.int .i64 x) ∧ W.cell? ⟨g10, 1, none⟩ = some (.int .u32 ph)) → W'.cell? ⟨wr.heap.size, 1, none⟩ = some (.int .u32 lo) ∧ W'.cell? ⟨wr.heap.size, 2, none⟩ = some (.int .u32 hi) ∧ W'.cell? ⟨wr.heap.size, 0, none⟩ = some (.int .i64 x) ∧ W'.cell? ⟨wr.heap.size + 1, 0, none⟩ = some (.int .i64 x) ∧ W'.cell? ⟨wr.heap.size + 1, 1, none⟩ = some (.int .u32 lo) ∧ W'.cell? ⟨wr.heap.size + 1 + 1, 0, none⟩ = some (.int .i64 x) ∧ W'.cell? ⟨wr.heap.size + 1 + 1, 1, none⟩ = some (.int .u32 hi) ∧ W'.cell? ⟨g9, 0, none⟩ = some (.int .i64 x) ∧ W'.cell? ⟨g9, 1, none⟩ = some (.int .u32 pl) ∧ W'.cell? ⟨g10, 0, none⟩ = some (.int .i64 x) ∧ W'.cell? ⟨g10, 1, none⟩ = some (.int .u32 ph)) := fun W W' hb ⟨q0, q1, q2, q3, q4, q5, q6, q7, q8, q9, q10⟩ => ⟨keep_cell hb q0, keep_cell hb q1, keep_cell hb q2, keep_cell hb q3, keep_cell hb q4, keep_cell hb q5, keep_cell hb q6, keep_cell hb q7, keep_cell hb q8, keep_cell hb q9, keep_cell hb q10⟩
              clear c0 c1 c2 d0 d1 e0 e1 f0 f1 g0 g1
              have H1 := Lib.hid HI1.out
              have H2 := Lib.hid HI2.out
              clear HI3 HI4 hpl2 hph2 hph3
              have kS := k0 W3.drew ⟨1, rfl⟩
              refine wp_region_noPanic ?_
              refine wp_region_held_drew (S := fun W' => W'.cell? ⟨wr.heap.size, 1, none⟩ = some (.int .u32 lo) ∧ W'.cell? ⟨wr.heap.size, 2, none⟩ = some (.int .u32 hi) ∧ W'.cell? ⟨wr.heap.size, 0, none⟩ = some (.int .i64 x) ∧ W'.cell? ⟨wr.heap.size + 1, 0, none⟩ = some (.int .i64 x) ∧ W'.cell? ⟨wr.heap.size + 1, 1, none⟩ = some (.int .u32 lo) ∧ W'.cell? ⟨wr.heap.size + 1 + 1, 0, none⟩ = some (.int .i64 x) ∧ W'.cell? ⟨wr.heap.size + 1 + 1, 1, none⟩ = some (.int .u32 hi) ∧ W'.cell? ⟨g9, 0, none⟩ = some (.int .i64 x) ∧ W'.cell? ⟨g9, 1, none⟩ = some (.int .u32 pl) ∧ W'.cell? ⟨g10, 0, none⟩ = some (.int .i64 x) ∧ W'.cell? ⟨g10, 1, none⟩ = some (.int .u32 ph)) (by kernel_rfl) kS (fun hHeld => ?_)
              clear kS
              refine take1 (i := 0) (v := ?v0h) (some 52) rfl rfl (by kernel_rfl) (by kernel_rfl) (by kernel_rfl) (fun _ _ _ h => h) (Or.inl ⟨by rfl, ?h0h⟩) (by assumption) ?r0h
              case h0h => intro w hSw; (try dsimp only at hSw); go_simp; first | done | with_reducible rfl
              try simp only [Act.put, List.setIfInBounds_toArray, List.set_cons_zero, List.set_cons_succ]
              refine take1 (i := 1) (v := ?v1h) (some 53) rfl rfl (by kernel_rfl) (by kernel_rfl) (by kernel_rfl) (fun _ _ _ h => h) (Or.inl ⟨by rfl, ?h1h⟩) (by assumption) ?r1h
              case h1h => intro w hSw; (try dsimp only at hSw); go_simp; first | done | with_reducible rfl
              try simp only [Act.put, List.setIfInBounds_toArray, List.set_cons_zero, List.set_cons_succ]
              refine take1 (i := 2) (v := ?v2h) (some 54) rfl rfl (by kernel_rfl) (by kernel_rfl) (by kernel_rfl) (fun _ _ _ h => h) (Or.inl ⟨by rfl, ?h2h⟩) (by assumption) ?r2h
              case h2h => intro w hSw; (try dsimp only at hSw); go_simp; first | done | with_reducible rfl
              try simp only [Act.put, List.setIfInBounds_toArray, List.set_cons_zero, List.set_cons_succ]
              refine take1 (i := 3) (v := ?v3h) (some 55) rfl rfl (by kernel_rfl) (by kernel_rfl) (by kernel_rfl) (fun _ _ _ h => h) (Or.inl ⟨by rfl, ?h3h⟩) (by assumption) ?r3h
              case h3h => intro w hSw; (try dsimp only at hSw); go_simp; first | done | with_reducible rfl
              try simp only [Act.put, List.setIfInBounds_toArray, List.set_cons_zero, List.set_cons_succ]
              refine take1 (i := 4) (v := ?v4h) (some 56) rfl rfl (by kernel_rfl) (by kernel_rfl) (by kernel_rfl) (fun _ _ _ h => h) (Or.inl ⟨by rfl, ?h4h⟩) (by assumption) ?r4h
              case h4h => intro w hSw; (try dsimp only at hSw); go_simp; first | done | with_reducible rfl
              try simp only [Act.put, List.setIfInBounds_toArray, List.set_cons_zero, List.set_cons_succ]
              refine take1 (i := 5) (v := ?v5h) (some 57) rfl rfl (by kernel_rfl) (by kernel_rfl) (by kernel_rfl) (fun _ _ _ h => h) (Or.inl ⟨by rfl, ?h5h⟩) (by assumption) ?r5h
              case h5h => intro w hSw; (try dsimp only at hSw); go_simp; first | done | with_reducible rfl
              try simp only [Act.put, List.setIfInBounds_toArray, List.set_cons_zero, List.set_cons_succ]
              refine take1 (i := 6) (v := ?v6h) (some 58) rfl rfl (by kernel_rfl) (by kernel_rfl) (by kernel_rfl) (fun _ _ _ h => h) (Or.inl ⟨by rfl, ?h6h⟩) (by assumption) ?r6h
              case h6h => intro w hSw; (try dsimp only at hSw); go_simp; first | done | with_reducible rfl
              try simp only [Act.put, List.setIfInBounds_toArray, List.set_cons_zero, List.set_cons_succ]
              refine take1 (i := 7) (v := ?v7h) (some 59) rfl rfl (by kernel_rfl) (by kernel_rfl) (by kernel_rfl) (fun _ _ _ h => h) (Or.inl ⟨by rfl, ?h7h⟩) (by assumption) ?r7h
              case h7h => intro w hSw; (try dsimp only at hSw); go_simp; first | done | with_reducible rfl
              try simp only [Act.put, List.setIfInBounds_toArray, List.set_cons_zero, List.set_cons_succ]
              refine take1 (i := 8) (v := ?v8h) (some 60) rfl rfl (by kernel_rfl) (by kernel_rfl) (by kernel_rfl) (fun _ _ _ h => h) (Or.inl ⟨by rfl, ?h8h⟩) (by assumption) ?r8h
              case h8h => intro w hSw; (try dsimp only at hSw); go_simp; first | done | with_reducible rfl
              try simp only [Act.put, List.setIfInBounds_toArray, List.set_cons_zero, List.set_cons_succ]
              refine take1 (i := 9) (v := ?v9h) (some 61) rfl rfl (by kernel_rfl) (by kernel_rfl) (by kernel_rfl) (fun _ _ _ h => h) (Or.inl ⟨by rfl, ?h9h⟩) (by assumption) ?r9h
              case h9h => intro w hSw; (try dsimp only at hSw); go_simp; first | done | with_reducible rfl
              try simp only [Act.put, List.setIfInBounds_toArray, List.set_cons_zero, List.set_cons_succ]
              refine wpAnyH_ready (rs := [10]) (by kernel_rfl) (by simp) ?_
              refine AllReadyH.cons rfl (fun K hK => ?_) AllReadyH.nil
              simp only [List.getElem_toArray, List.getElem_cons_zero, List.getElem_cons_succ]
              go_simp
              refine (has_b _ _ a x lo _ ((HL3.out.keep (below_drewN _ _ _)).at_ 0 rfl) H1.out).mono ?_
              rintro e X1 ⟨rfl, b1⟩
              have k1 := HK.out _ _ b1 (k0 _ ⟨1, rfl⟩)
              have L1 := Lib.hid ((HL3.out.keep (below_drewN _ _ 1)).keep b1)
              have B1 := Lib.hid ((hself.out.trans (below_drewN _ _ 1)).trans (b1.mono (hself.out.trans (below_drewN _ _ 1)).size))
              go_wp2_with fail
              clear hHeld
              refine hK.out _ _ k1 (fun hHeld => ?_)
              clear hK K
              try simp only [Act.put, List.setIfInBounds_toArray, List.set_cons_zero, List.set_cons_succ]
              refine take1 (i := 11) (v := ?v11h) (some 63) rfl rfl (by kernel_rfl) (by kernel_rfl) (by kernel_rfl) (fun _ _ _ h => h) (Or.inl ⟨by rfl, ?h11h⟩) (by assumption) ?r11h
              case h11h => intro w hSw; (try dsimp only at hSw); go_simp; first | done | with_reducible rfl
              try simp only [Act.put, List.setIfInBounds_toArray, List.set_cons_zero, List.set_cons_succ]
              refine take1 (i := 12) (v := ?v12h) (some 64) rfl rfl (by kernel_rfl) (by kernel_rfl) (by kernel_rfl) (fun _ _ _ h => h) (Or.inl ⟨by rfl, ?h12h⟩) (by assumption) ?r12h
              case h12h => intro w hSw; (try dsimp only at hSw); go_simp; first | done | with_reducible rfl
              try simp only [Act.put, List.setIfInBounds_toArray, List.set_cons_zero, List.set_cons_succ]
              refine take1 (i := 13) (v := ?v13h) (some 65) rfl rfl (by kernel_rfl) (by kernel_rfl) (by kernel_rfl) (fun _ _ _ h => h) (Or.inl ⟨by rfl, ?h13h⟩) (by assumption) ?r13h
              case h13h => intro w hSw; (try dsimp only at hSw); go_simp; first | done | with_reducible rfl
              try simp only [Act.put, List.setIfInBounds_toArray, List.set_cons_zero, List.set_cons_succ]
              refine take1 (i := 14) (v := ?v14h) (some 66) rfl rfl (by kernel_rfl) (by kernel_rfl) (by kernel_rfl) (fun _ _ _ h => h) (Or.inl ⟨by rfl, ?h14h⟩) (by assumption) ?r14h
              case h14h => intro w hSw; (try dsimp only at hSw); go_simp; first | done | with_reducible rfl
              try simp only [Act.put, List.setIfInBounds_toArray, List.set_cons_zero, List.set_cons_succ]
              refine take1 (i := 15) (v := ?v15h) (some 67) rfl rfl (by kernel_rfl) (by kernel_rfl) (by kernel_rfl) (fun _ _ _ h => h) (Or.inl ⟨by rfl, ?h15h⟩) (by assumption) ?r15h
              case h15h => intro w hSw; (try dsimp only at hSw); go_simp; first | done | with_reducible rfl
              try simp only [Act.put, List.setIfInBounds_toArray, List.set_cons_zero, List.set_cons_succ]
              refine wpAnyH_ready (rs := [16]) (by kernel_rfl) (by simp) ?_
              refine AllReadyH.cons rfl (fun K hK => ?_) AllReadyH.nil
              simp only [List.getElem_toArray, List.getElem_cons_zero, List.getElem_cons_succ]
              go_simp
              refine (has_b _ _ a x hi _ (L1.out.at_ 0 rfl) H2.out).mono ?_
              rintro e X2 ⟨rfl, b2⟩
              have k2 := HK.out _ _ b2 k1
              have L2 := Lib.hid (L1.out.keep b2)
              have B2 := Lib.hid (B1.out.trans (b2.mono B1.out.size))
              go_wp2_with fail
              clear hHeld
              refine hK.out _ _ k2 (fun hHeld => ?_)
              clear hK K
              try simp only [Act.put, List.setIfInBounds_toArray, List.set_cons_zero, List.set_cons_succ]
              refine take1 (i := 17) (v := ?v17h) (some 69) rfl rfl (by kernel_rfl) (by kernel_rfl) (by kernel_rfl) (fun _ _ _ h => h) (Or.inl ⟨by rfl, ?h17h⟩) (by assumption) ?r17h
              case h17h => intro w hSw; (try dsimp only at hSw); go_simp; first | done | with_reducible rfl
              try simp only [Act.put, List.setIfInBounds_toArray, List.set_cons_zero, List.set_cons_succ]
              refine take1 (i := 18) (v := ?v18h) (some 70) rfl rfl (by kernel_rfl) (by kernel_rfl) (by kernel_rfl) (fun _ _ _ h => h) (Or.inl ⟨by rfl, ?h18h⟩) (by assumption) ?r18h
              case h18h => intro w hSw; (try dsimp only at hSw); go_simp; first | done | with_reducible rfl
              try simp only [Act.put, List.setIfInBounds_toArray, List.set_cons_zero, List.set_cons_succ]
              refine take1 (i := 19) (v := ?v19h) (some 71) rfl rfl (by kernel_rfl) (by kernel_rfl) (by kernel_rfl) (fun _ _ _ h => h) (Or.inl ⟨by rfl, ?h19h⟩) (by assumption) ?r19h
              case h19h => intro w hSw; (try dsimp only at hSw); go_simp; first | done | with_reducible rfl
              try simp only [Act.put, List.setIfInBounds_toArray, List.set_cons_zero, List.set_cons_succ]
              refine take1 (i := 20) (v := ?v20h) (some 72) rfl rfl (by kernel_rfl) (by kernel_rfl) (by kernel_rfl) (fun _ _ _ h => h) (Or.inl ⟨by rfl, ?h20h⟩) (by assumption) ?r20h
              case h20h => intro w hSw; (try dsimp only at hSw); go_simp; first | done | with_reducible rfl
              try simp only [Act.put, List.setIfInBounds_toArray, List.set_cons_zero, List.set_cons_succ]
              refine take1 (i := 21) (v := ?v21h) (some 73) rfl rfl (by kernel_rfl) (by kernel_rfl) (by kernel_rfl) (fun _ _ _ h => h) (Or.inl ⟨by rfl, ?h21h⟩) (by assumption) ?r21h
              case h21h => intro w hSw; (try dsimp only at hSw); go_simp; first | done | with_reducible rfl
              try simp only [Act.put, List.setIfInBounds_toArray, List.set_cons_zero, List.set_cons_succ]
              refine take1 (i := 22) (v := ?v22h) (some 74) rfl rfl (by kernel_rfl) (by kernel_rfl) (by kernel_rfl) (fun _ _ _ h => h) (Or.inl ⟨by rfl, ?h22h⟩) (by assumption) ?r22h
              case h22h => intro w hSw; (try dsimp only at hSw); go_simp; first | done | with_reducible rfl
              try simp only [Act.put, List.setIfInBounds_toArray, List.set_cons_zero, List.set_cons_succ]
              refine take1 (i := 23) (v := ?v23h) (some 75) rfl rfl (by kernel_rfl) (by kernel_rfl) (by kernel_rfl) (fun _ _ _ h => h) (Or.inl ⟨by rfl, ?h23h⟩) (by assumption) ?r23h
              case h23h => intro w hSw; (try dsimp only at hSw); go_simp; first | done | with_reducible rfl
              try simp only [Act.put, List.setIfInBounds_toArray, List.set_cons_zero, List.set_cons_succ]
              refine take1 (i := 24) (v := undef) (some 76) rfl rfl (by kernel_rfl) (by kernel_rfl) (by kernel_rfl) (fun _ _ _ h => h) (Or.inr ⟨by rfl, rfl⟩) (by assumption) ?_
              try simp only [Act.put, List.setIfInBounds_toArray, List.set_cons_zero, List.set_cons_succ]
              refine take1 (i := 25) (v := undef) (some 77) rfl rfl (by kernel_rfl) (by kernel_rfl) (by kernel_rfl) (fun _ _ _ h => h) (Or.inr ⟨by rfl, rfl⟩) (by assumption) ?_
              try simp only [Act.put, List.setIfInBounds_toArray, List.set_cons_zero, List.set_cons_succ]
              refine wpAnyH_ready (rs := [26]) (by kernel_rfl) (by simp) ?_
              refine AllReadyH.cons rfl (fun K hK => ?_) AllReadyH.nil
              simp only [List.getElem_toArray, List.getElem_cons_zero, List.getElem_cons_succ]
              go_simp
              refine hK.out _ _ hHeld (fun hHeld => ?_)
              clear hK K
              try simp only [Act.put, List.setIfInBounds_toArray, List.set_cons_zero, List.set_cons_succ]
              refine take1 (i := 27) (v := ?v27h) (some 79) rfl rfl (by kernel_rfl) (by kernel_rfl) (by kernel_rfl) (fun _ _ _ h => h) (Or.inl ⟨by rfl, ?h27h⟩) (by assumption) ?r27h
              case h27h => intro w hSw; (try dsimp only at hSw); go_simp; first | done | with_reducible rfl
              try simp only [Act.put, List.setIfInBounds_toArray, List.set_cons_zero, List.set_cons_succ]
              refine take1 (i := 28) (v := ?v28h) (some 80) rfl rfl (by kernel_rfl) (by kernel_rfl) (by kernel_rfl) (fun _ _ _ h => h) (Or.inl ⟨by rfl, ?h28h⟩) (by assumption) ?r28h
              case h28h => intro w hSw; (try dsimp only at hSw); go_simp; first | done | with_reducible rfl
              try simp only [Act.put, List.setIfInBounds_toArray, List.set_cons_zero, List.set_cons_succ]
              refine take1 (i := 29) (v := ?v29h) (some 81) rfl rfl (by kernel_rfl) (by kernel_rfl) (by kernel_rfl) (fun _ _ _ h => h) (Or.inl ⟨by rfl, ?h29h⟩) (by assumption) ?r29h
              case h29h => intro w hSw; (try dsimp only at hSw); go_simp; first | done | with_reducible rfl
              try simp only [Act.put, List.setIfInBounds_toArray, List.set_cons_zero, List.set_cons_succ]
              refine take1 (i := 30) (v := ?v30h) (some 82) rfl rfl (by kernel_rfl) (by kernel_rfl) (by kernel_rfl) (fun _ _ _ h => h) (Or.inl ⟨by rfl, ?h30h⟩) (by assumption) ?r30h
              case h30h => intro w hSw; (try dsimp only at hSw); go_simp; first | done | with_reducible rfl
              try simp only [Act.put, List.setIfInBounds_toArray, List.set_cons_zero, List.set_cons_succ]
              refine take1 (i := 31) (v := ?v31h) (some 83) rfl rfl (by kernel_rfl) (by kernel_rfl) (by kernel_rfl) (fun _ _ _ h => h) (Or.inl ⟨by rfl, ?h31h⟩) (by assumption) ?r31h
              case h31h => intro w hSw; (try dsimp only at hSw); go_simp; first | done | with_reducible rfl
              try simp only [Act.put, List.setIfInBounds_toArray, List.set_cons_zero, List.set_cons_succ]
              refine take1 (i := 32) (v := ?v32h) (some 84) rfl rfl (by kernel_rfl) (by kernel_rfl) (by kernel_rfl) (fun _ _ _ h => h) (Or.inl ⟨by rfl, ?h32h⟩) (by assumption) ?r32h
              case h32h => intro w hSw; (try dsimp only at hSw); go_simp; first | done | with_reducible rfl
              try simp only [Act.put, List.setIfInBounds_toArray, List.set_cons_zero, List.set_cons_succ]
              refine take1 (i := 33) (v := ?v33h) (some 85) rfl rfl (by kernel_rfl) (by kernel_rfl) (by kernel_rfl) (fun _ _ _ h => h) (Or.inl ⟨by rfl, ?h33h⟩) (by assumption) ?r33h
              case h33h => intro w hSw; (try dsimp only at hSw); go_simp; first | done | with_reducible rfl
              try simp only [Act.put, List.setIfInBounds_toArray, List.set_cons_zero, List.set_cons_succ]
              refine take1 (i := 34) (v := undef) (some 86) rfl rfl (by kernel_rfl) (by kernel_rfl) (by kernel_rfl) (fun _ _ _ h => h) (Or.inr ⟨by rfl, rfl⟩) (by assumption) ?_
              try simp only [Act.put, List.setIfInBounds_toArray, List.set_cons_zero, List.set_cons_succ]
              refine take1 (i := 35) (v := undef) (some 87) rfl rfl (by kernel_rfl) (by kernel_rfl) (by kernel_rfl) (fun _ _ _ h => h) (Or.inr ⟨by rfl, rfl⟩) (by assumption) ?_
              try simp only [Act.put, List.setIfInBounds_toArray, List.set_cons_zero, List.set_cons_succ]
              refine wpAnyH_ready (rs := [36]) (by kernel_rfl) (by simp) ?_
              refine AllReadyH.cons rfl (fun K hK => ?_) AllReadyH.nil
              simp only [List.getElem_toArray, List.getElem_cons_zero, List.getElem_cons_succ]
              go_simp
              refine hK.out _ _ hHeld (fun hHeld => ?_)
              clear hK K
              try simp only [Act.put, List.setIfInBounds_toArray, List.set_cons_zero, List.set_cons_succ]
              refine take1 (i := 37) (v := ?v37h) (some 89) rfl rfl (by kernel_rfl) (by kernel_rfl) (by kernel_rfl) (fun _ _ _ h => h) (Or.inl ⟨by rfl, ?h37h⟩) (by assumption) ?r37h
              case h37h => intro w hSw; (try dsimp only at hSw); go_simp; first | done | with_reducible rfl
              try simp only [Act.put, List.setIfInBounds_toArray, List.set_cons_zero, List.set_cons_succ]
              refine take1 (i := 38) (v := ?v38h) (some 90) rfl rfl (by kernel_rfl) (by kernel_rfl) (by kernel_rfl) (fun _ _ _ h => h) (Or.inl ⟨by rfl, ?h38h⟩) (by assumption) ?r38h
              case h38h => intro w hSw; (try dsimp only at hSw); go_simp; first | done | with_reducible rfl
              try simp only [Act.put, List.setIfInBounds_toArray, List.set_cons_zero, List.set_cons_succ]
              refine take1 (i := 39) (v := ?v39h) (some 91) rfl rfl (by kernel_rfl) (by kernel_rfl) (by kernel_rfl) (fun _ _ _ h => h) (Or.inl ⟨by rfl, ?h39h⟩) (by assumption) ?r39h
              case h39h => intro w hSw; (try dsimp only at hSw); go_simp; first | done | with_reducible rfl
              try simp only [Act.put, List.setIfInBounds_toArray, List.set_cons_zero, List.set_cons_succ]
              refine take1 (i := 40) (v := ?v40h) (some 92) rfl rfl (by kernel_rfl) (by kernel_rfl) (by kernel_rfl) (fun _ _ _ h => h) (Or.inl ⟨by rfl, ?h40h⟩) (by assumption) ?r40h
              case h40h => intro w hSw; (try dsimp only at hSw); go_simp; first | done | with_reducible rfl
              try simp only [Act.put, List.setIfInBounds_toArray, List.set_cons_zero, List.set_cons_succ]
              refine take1 (i := 41) (v := ?v41h) (some 93) rfl rfl (by kernel_rfl) (by kernel_rfl) (by kernel_rfl) (fun _ _ _ h => h) (Or.inl ⟨by rfl, ?h41h⟩) (by assumption) ?r41h
              case h41h => intro w hSw; (try dsimp only at hSw); go_simp; first | done | with_reducible rfl
              try simp only [Act.put, List.setIfInBounds_toArray, List.set_cons_zero, List.set_cons_succ]
              refine take1 (i := 42) (v := ?v42h) (some 94) rfl rfl (by kernel_rfl) (by kernel_rfl) (by kernel_rfl) (fun _ _ _ h => h) (Or.inl ⟨by rfl, ?h42h⟩) (by assumption) ?r42h
              case h42h => intro w hSw; (try dsimp only at hSw); go_simp; first | done | with_reducible rfl
              try simp only [Act.put, List.setIfInBounds_toArray, List.set_cons_zero, List.set_cons_succ]
              refine take1 (i := 43) (v := undef) (some 95) rfl rfl (by kernel_rfl) (by kernel_rfl) (by kernel_rfl) (fun _ _ _ h => h) (Or.inr ⟨by rfl, rfl⟩) (by assumption) ?_
              try simp only [Act.put, List.setIfInBounds_toArray, List.set_cons_zero, List.set_cons_succ]
              refine take1 (i := 44) (v := undef) (some 96) rfl rfl (by kernel_rfl) (by kernel_rfl) (by kernel_rfl) (fun _ _ _ h => h) (Or.inr ⟨by rfl, rfl⟩) (by assumption) ?_
              try simp only [Act.put, List.setIfInBounds_toArray, List.set_cons_zero, List.set_cons_succ]
              refine take1 (i := 45) (v := undef) (some 97) rfl rfl (by kernel_rfl) (by kernel_rfl) (by kernel_rfl) (fun _ _ _ h => h) (Or.inr ⟨by rfl, rfl⟩) (by assumption) ?_
              try simp only [Act.put, List.setIfInBounds_toArray, List.set_cons_zero, List.set_cons_succ]
              refine take1 (i := 46) (v := undef) (some 98) rfl rfl (by kernel_rfl) (by kernel_rfl) (by kernel_rfl) (fun _ _ _ h => h) (Or.inr ⟨by rfl, rfl⟩) (by assumption) ?_
              try simp only [Act.put, List.setIfInBounds_toArray, List.set_cons_zero, List.set_cons_succ]
              refine take1 (i := 47) (v := undef) (some 99) rfl rfl (by kernel_rfl) (by kernel_rfl) (by kernel_rfl) (fun _ _ _ h => h) (Or.inr ⟨by rfl, rfl⟩) (by assumption) ?_
              try simp only [Act.put, List.setIfInBounds_toArray, List.set_cons_zero, List.set_cons_succ]
              refine take1 (i := 48) (v := undef) (some 100) rfl rfl (by kernel_rfl) (by kernel_rfl) (by kernel_rfl) (fun _ _ _ h => h) (Or.inr ⟨by rfl, rfl⟩) (by assumption) ?_
              try simp only [Act.put, List.setIfInBounds_toArray, List.set_cons_zero, List.set_cons_succ]
              refine take1 (i := 49) (v := undef) (some 101) rfl rfl (by kernel_rfl) (by kernel_rfl) (by kernel_rfl) (fun _ _ _ h => h) (Or.inr ⟨by rfl, rfl⟩) (by assumption) ?_
              try simp only [Act.put, List.setIfInBounds_toArray, List.set_cons_zero, List.set_cons_succ]
              refine take1 (i := 50) (v := undef) (some 102) rfl rfl (by kernel_rfl) (by kernel_rfl) (by kernel_rfl) (fun _ _ _ h => h) (Or.inr ⟨by rfl, rfl⟩) (by assumption) ?_
              try simp only [Act.put, List.setIfInBounds_toArray, List.set_cons_zero, List.set_cons_succ]
              refine take1 (i := 51) (v := undef) (some 103) rfl rfl (by kernel_rfl) (by kernel_rfl) (by kernel_rfl) (fun _ _ _ h => h) (Or.inr ⟨by rfl, rfl⟩) (by assumption) ?_
              try simp only [Act.put, List.setIfInBounds_toArray, List.set_cons_zero, List.set_cons_succ]
              refine take1 (i := 52) (v := ?v52h) (some 104) rfl rfl (by kernel_rfl) (by kernel_rfl) (by kernel_rfl) (fun _ _ _ h => h) (Or.inl ⟨by rfl, ?h52h⟩) (by assumption) ?r52h
              case h52h => intro w hSw; (try dsimp only at hSw); go_simp; first | done | with_reducible rfl
              try simp only [Act.put, List.setIfInBounds_toArray, List.set_cons_zero, List.set_cons_succ]
              refine take1 (i := 53) (v := ?v53h) (some 105) rfl rfl (by kernel_rfl) (by kernel_rfl) (by kernel_rfl) (fun _ _ _ h => h) (Or.inl ⟨by rfl, ?h53h⟩) (by assumption) ?r53h
              case h53h => intro w hSw; (try dsimp only at hSw); go_simp; first | done | with_reducible rfl
              try simp only [Act.put, List.setIfInBounds_toArray, List.set_cons_zero, List.set_cons_succ]
              refine wpAnyH_done (by kernel_rfl) ?_ _
              refine NoPanic.normal ?_
              clear kA kB kC kD k0 HK H1 b1 H2 b2
              have HL := Lib.hid L2.out
              have BX := Lib.hid B2.out
              have c0 := k2.2.2.1
              have c1 := k2.1
              have c2 := k2.2.1
              have HTX := Lib.hid (HT3.out.keep BX.out)
              have RWX := Lib.hid (RW3.out.keep BX.out)
              have hbX := Lib.hid (hb3.trans (BX.out.mono hb3.size))
              clear L1 B1 k1 L2 B2 k2
              go_wp2
              obtain ⟨mk, hmk⟩ : ∃ mk : Nat, mk = 2 ^ x := ⟨_, rfl⟩
              have hmk2 : mk < 4294967296 := by rw [hmk]; exact Nat.lt_of_lt_of_le (Nat.pow_lt_pow_right (by omega) hx16b : 2 ^ x < 2 ^ 16) (by omega)
              have hs1 : IntKind.u32.wrap ((2 : Int) ^ min x 32) = (mk : Int) := by rw [Nat.min_eq_left (by omega), show (2 : Int) ^ x = ((mk : Nat) : Int) by rw [hmk]; simp]; show (mk : Int) % 4294967296 = _; omega
              have hs2 : IntKind.u32.wrap ((2 : Int) ^ x) = (mk : Int) := by rw [show (2 : Int) ^ x = ((mk : Nat) : Int) by rw [hmk]; simp]; show (mk : Int) % 4294967296 = _; omega
              have hs3 : (2 : Int) ^ x % 4294967296 = (mk : Int) := by rw [show (2 : Int) ^ x = ((mk : Nat) : Int) by rw [hmk]; simp]; omega
              have HMK := Lib.hid hmk
              clear hmk
              have HBA : Hid (∀ d o, Below X2.heap.size X2 ((X2.drewN d).alloc o)) := fun d o => (below_drewN _ _ d).alloc (by simp) o
              have HSX : Hid (∀ d, RdS ((X2.drewN d).alloc (.cells #[.int .u32 lo, .int .u32 hi] 37)) (.slice (some ⟨X2.heap.size, 0, none⟩) 1 1) [(lo, hi)]) := fun d => rdS_at [(lo, hi)] (heap_alloc_at (X2.drewN d) _) (by intro s hs; simp at hs; subst hs; exact ⟨by omega, hhi⟩) (by simp) 1 rfl
              have HTA : Hid (∀ d o, Tab ((X2.drewN d).alloc o)) := fun d o => HTX.out.keep (HBA.out d o)
              have HRA : Hid (∀ d o, RdA ((X2.drewN d).alloc o) _ (partK cl k)) := fun d o => RWX.out.keep (HBA.out d o)
              have HPS : Hid (Sm 20 (partK cl k)) := by show Sm 20 _; rw [HCL.out]; exact partK_sm W_a.out S_a.out k
              have HPL := Lib.hid (partK_len cl k)
              have cX : ∀ W', (∃ d, W' = X2.drewN d) → W'.cell? ⟨wr.heap.size, 0, none⟩ = some (.int .i64 x) ∧ W'.cell? ⟨wr.heap.size, 1, none⟩ = some (.int .u32 lo) ∧ W'.cell? ⟨wr.heap.size, 2, none⟩ = some (.int .u32 hi) := by rintro W' ⟨d, rfl⟩; exact ⟨c0, c1, c2⟩
              have cA : ∀ W', (∃ d o, W' = (X2.drewN d).alloc o) → W'.cell? ⟨wr.heap.size, 0, none⟩ = some (.int .i64 x) ∧ W'.cell? ⟨wr.heap.size, 1, none⟩ = some (.int .u32 lo) ∧ W'.cell? ⟨wr.heap.size, 2, none⟩ = some (.int .u32 hi) := by rintro W' ⟨d, o, rfl⟩; exact ⟨keep_cell (HBA.out d o) c0, keep_cell (HBA.out d o) c1, keep_cell (HBA.out d o) c2⟩
              clear c0 c1 c2
              first
                | (go_region_held3 (fun W' => W'.cell? ⟨wr.heap.size, 0, none⟩ = some (.int .i64 x) ∧ W'.cell? ⟨wr.heap.size, 1, none⟩ = some (.int .u32 lo) ∧ W'.cell? ⟨wr.heap.size, 2, none⟩ = some (.int .u32 hi))
                    (first | with_reducible exact m2 | with_reducible exact m1 | exact cX _ (by first | exact ⟨_, rfl⟩ | exact drewN_ex _ _ _ | exact drew_ex _ _) | exact cA _ ⟨1, _, rfl⟩)
                    (first
                      | (go_at_call 12; have hS := m1; refine (area_union _ _ _ (partK cl k) (ofL 16 (bitsN mk) (nf [(lo, hi)])) 20 1 RW1.out RO.out (Nat.le_trans HPL.out (by omega)) (by rw [ofL_len]; omega) HPS.out (ofL_sm (nf_one lo hi hhi hlo)) (by omega) (by omega)).mono ?_; rintro e Y2 ⟨v_u, u, rfl, R_u, l_u, h_u, -, b2⟩; obtain ⟨A_u, c_u, rfl, -⟩ := id R_u; have LU := Lib.hid l_u; clear l_u; have m2 : Y2.cell? ⟨wr.heap.size, 0, none⟩ = some (.int .i64 x) ∧ Y2.cell? ⟨wr.heap.size, 1, none⟩ = some (.int .u32 lo) ∧ Y2.cell? ⟨wr.heap.size, 2, none⟩ = some (.int .u32 hi) := ⟨keep_cell b2 m1.1, keep_cell b2 m1.2.1, keep_cell b2 m1.2.2⟩; have BY := Lib.hid (B1.out.trans (b2.mono B1.out.size)))
                      | (go_at_call 15; refine (of_calls _ 16 mk _ [(lo, hi)] (HSX.out _) (by simp) hmk2 (HTA.out _ _)).mono ?_; rw [show (min (max (16 : Int) 0) 16).toNat = 16 by decide]; rintro e Y1 ⟨χo, rfl, O, b1⟩; have RO := O.rd (by rw [ofL_len]; omega); rw [World.size_alloc] at RO; have RO := Lib.hid RO; have m1 : Y1.cell? ⟨wr.heap.size, 0, none⟩ = some (.int .i64 x) ∧ Y1.cell? ⟨wr.heap.size, 1, none⟩ = some (.int .u32 lo) ∧ Y1.cell? ⟨wr.heap.size, 2, none⟩ = some (.int .u32 hi) := ⟨keep_cell b1 (cA _ ⟨1, _, rfl⟩).1, keep_cell b1 (cA _ ⟨1, _, rfl⟩).2.1, keep_cell b1 (cA _ ⟨1, _, rfl⟩).2.2⟩; have RW1 := Lib.hid ((HRA.out _ _).keep b1); have B1 := Lib.hid ((HBA.out _ _).trans (b1.mono (HBA.out _ _).size)))))
              have hu := step_at HCL.out W_a.out hlt HX.out HMK.out h_u LU.out ⟨by show lo < _; omega, hhi⟩
              subst hu
              have hbY := hbX.trans (BY.out.mono hbX.size)
              have RY := Lib.hid R_u
              clear h_u LU m1 m2 RO RW1 B1 R_u hs1 hs2 hs3
              go_wp2
              refine ⟨⟨k + 1, hlt, by go_num, RY, hbY⟩, by simp [intOf]; omega⟩
    · have hke : k = cl.length := by omega
      subst hke
      have HS := Lib.hid (show (subB (partK cl cl.length) a && subB a (partK cl cl.length)) = true by rw [HCL.out]; exact part_all W_a.out (by omega))
      have HE : Hid (emptyB a = decide (cl.length = 0)) := by show _ = _; rw [HCL.out]; exact cells_none W_a.out
      have hPS : Hid (Sm 20 (partK cl cl.length)) := by show Sm 20 _; rw [HCL.out]; exact partK_sm W_a.out S_a.out _
      have HPL := Lib.hid (partK_len cl cl.length)
      have HL := Lib.hid ((HL.out.keep hbr).cons RW.out)
      have hbw := hbw.trans (hbr.mono hbw.size)
      clear RW
      go_wp2_with fail
      refine (same_b _ _ _ (partK cl cl.length) a (HL.out.at_ 0 rfl) (HL.out.at_ 1 rfl) (Nat.le_trans HPL.out (by omega)) (by omega) (hPS.out.mono (by omega)) (S_a.out.mono (by omega))).mono ?_
      rw [HS.out]
      rintro e W5 ⟨rfl, hb⟩
      have HL := Lib.hid (HL.out.keep hb)
      have hbw := hbw.trans (hb.mono hbw.size)
      clear hb
      go_wp2_with fail
      refine (emptyb_calls _ _ a _ (HL.out.at_ 1 rfl) (S_a.out.mono (by omega)) HE.out).mono ?_
      rintro e W6 ⟨rfl, hb⟩
      have hbw := hbw.trans (hb.mono hbw.size)
      clear hb
      by_cases h0 : cl.length = 0
      · have d1 : decide (cl.length = 0) = true := by simp [h0]
        go_wp2
        go_ret
        exact ⟨ret_bool (by first | rfl | simp [h0]), hbw⟩
      · have d1 : decide (cl.length = 0) = false := by simp [h0]
        go_wp2
        go_ret
        exact ⟨ret_bool (by first | rfl | simp [h0]), hbw⟩
end Go.Proofs.YtjlkkbjolfhobaaDoor
