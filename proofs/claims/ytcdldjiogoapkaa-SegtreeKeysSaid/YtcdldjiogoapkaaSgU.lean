import Derived.Test.YtcdldjiogoapkaaSgT
namespace Go.Proofs.Ytcdldjiogoapkaa
open Go.RowKit
attribute [local go_sem] World.cell?_alloc_some frozen_alloc_some Oper.semAt_some

theorem infoPair : (Try.prog.info? 61).map (fun i => (i.zero, i.size, i.bytes)) = some (some (.agg #[.int .u32 0, .int .i64 0]), 2, 16) := by kernel_rfl

/-- Where a tree's walk has left it, and what has turned. -/
def PairsTo (cT cO : Nat) (χ : Col) (w : World) (pt : Nat) (root lim : Int) (m : Int) (R : List (Nat × Int) × List Nd) (e : Ending) (w' : World) : Prop :=
  ∃ v χ', e = .returned v ∧ (∀ b, b < w.heap.size → χ' b = χ b) ∧ Chg χ (fun x => cT ≤ x ∧ x ≤ cT + 2) w w' ∧ IsP cO χ' w' v (R.1.take m.toNat) ∧ ((R.1.length : Int) < m → TrAt cT χ' w' pt R.2 root lim)

theorem Chg.hiSet {χ : Col} {C : Nat → Prop} {w W : World} (h : Chg χ C w W) (a : Addr) (v : Value) (ha : w.heap.size ≤ a.block) : Chg χ C w (W.setCell a v) :=
  ⟨h.os, h.tape, h.output, by simp [World.setCell]; exact h.size, fun b hb hn => (Below.heap_setCell _ _ _ _ (by omega)).trans (h.blk b hb hn)⟩
theorem Chg.hiPut {χ : Col} {C : Nat → Prop} {w W : World} (h : Chg χ C w W) (l : Nat) (o : Obj) (ha : w.heap.size ≤ l) : Chg χ C w (W.putObj l o) :=
  ⟨h.os, h.tape, h.output, by simp; exact h.size, fun b hb hn => (World.putObj_heap_other (by omega)).trans (h.blk b hb hn)⟩
theorem pairs_chg {χ χ1 : Col} {cO : Nat} {T : Nat → Prop} {w W0 W : World} (hb0 : Below w.heap.size w W0) (hc : Chg χ1 (fun x => x = cO ∨ T x) W0 W) (hχ : ∀ b, b < w.heap.size → χ1 b = χ b) (hwO : ∀ b, b < w.heap.size → χ b ≠ cO) : Chg χ T w W :=
  ⟨hc.os.trans hb0.os, hc.tape.trans hb0.tape, hc.output.trans hb0.output, Nat.le_trans hb0.size hc.size, fun b hb hn => (hc.blk b (Nat.lt_of_lt_of_le hb hb0.size) (by
    rw [hχ b hb]; rintro (h | h)
    · exact hwO b hb h
    · exact hn h)).trans (hb0.block b hb)⟩
theorem IsP.hiPut {c : Nat} {χ : Col} {W : World} {v : Value} {xs : List (Nat × Int)} (h : IsP c χ W v xs) (D cR : Nat) (o : Obj) (hD : χ D = cR) (hRO : cR ≠ c) : IsP c χ (W.putObj D o) v xs :=
  ⟨owns_same h.1 fun b e => World.putObj_heap_other (fun k => hRO (by rw [← hD, ← k, h.2 b e])), h.2⟩

theorem pi_start (w : World) (pt : Nat) (m : Int) (cO : Nat) (χ : Col) :
    ∃ W0, W0 = (((((w.alloc (.cells #[.int .i64 m] 3)).alloc (.cells #[.slice none 0 0] 28)).alloc (.cells #[] 61)).alloc (.cells #[.slice (some ⟨w.heap.size + 1 + 1, 0, none⟩) 0 0] 28)).alloc (.cells #[.pointer (some ⟨pt, 0, none⟩)] 24)) ∧
      Below w.heap.size w W0 ∧ W0.heap.size = w.heap.size + 5 ∧ PI w.heap.size m cO [] (paint χ w.heap.size cO) W0 ∧ W0.cell? ⟨w.heap.size + 1 + 1 + 1 + 1, 0, none⟩ = some (.pointer (some ⟨pt, 0, none⟩)) := by
  have v0 := Var.new w (.int .i64 m) 3
  have v1 := Var.new (w.alloc (.cells #[.int .i64 m] 3)) (.slice none 0 0) 28
  have v3 := Var.new (((w.alloc (.cells #[.int .i64 m] 3)).alloc (.cells #[.slice none 0 0] 28)).alloc (.cells #[] 61)) (.slice (some ⟨w.heap.size + 1 + 1, 0, none⟩) 0 0) 28
  have v4 := Var.new ((((w.alloc (.cells #[.int .i64 m] 3)).alloc (.cells #[.slice none 0 0] 28)).alloc (.cells #[] 61)).alloc (.cells #[.slice (some ⟨w.heap.size + 1 + 1, 0, none⟩) 0 0] 28)) (.pointer (some ⟨pt, 0, none⟩)) 24
  have o2 := World.ownsRow_made (base := 0) (e := 61) (size := 2) ((w.alloc (.cells #[.int .i64 m] 3)).alloc (.cells #[.slice none 0 0] 28)) #[] 0 (Nat.zero_le _) (Nat.zero_le _) rfl
  simp only [World.size_alloc] at v1 v3 v4 o2
  refine ⟨_, rfl, ?_, by simp, ⟨⟨paint_high (Nat.le_refl _), ((((v0.alloc _).alloc _).alloc _).alloc _).1⟩, ⟨paint_high (by omega), ((v1.alloc _).alloc _).alloc _⟩, _, ⟨paint_high (by omega), v3.alloc _⟩, ⟨(o2.alloc _).alloc _, fun b e => ?_⟩, fun b e => ?_⟩, v4.1⟩
  · exact ((((((Below.refl w.heap.size w).alloc (Nat.le_refl _) _).alloc (by simp only [World.size_alloc]; omega) _).alloc (by simp only [World.size_alloc]; omega) _).alloc (by simp only [World.size_alloc]; omega) _).alloc (by simp only [World.size_alloc]; omega) _)
  · cases e; exact paint_high (by show w.heap.size ≤ w.heap.size + 1 + 1; omega)
  · cases e; exact ⟨Nat.le_refl _, by show w.heap.size + 1 + 1 ≠ w.heap.size + 3; omega⟩

theorem PI.fin {s : Nat} {m : Int} {c : Nat} {pre : List (Nat × Int)} {χ : Col} {W : World} (h : PI s m c pre χ W) :
    ∃ A cap, W.cell? ⟨s + 3, 0, none⟩ = some (.slice A pre.length cap) ∧ W.cell? ⟨s + 1, 0, none⟩ = some (.slice none 0 0) ∧ W.frozen? ⟨s + 1, 0, none⟩ = false ∧ χ (s + 1) = c ∧
      Hid ((W.setCell ⟨s + 1, 0, none⟩ (.slice A pre.length cap)).cell? ⟨s + 1, 0, none⟩ = some (.slice A pre.length cap) ∧ IsP c χ (W.setCell ⟨s + 1, 0, none⟩ (.slice A pre.length cap)) (.slice A pre.length cap) pre) := by
  obtain ⟨⟨h1, h2⟩, ⟨h3, h4⟩, v, ⟨h5, h6⟩, h7, h8⟩ := h
  obtain ⟨A, cap, rfl⟩ := owns_form h7.1
  exact ⟨A, cap, h6.1, h4.1, h4.2, h3, (h4.set _).1, owns_same h7.1 fun b e => Below.heap_setCell _ _ _ _ (by have := (h8 b e).1; show b ≠ s + 1; omega), h7.2⟩

/-- The loop's frame. -/
def pact (w : World) (pt : Nat) (m : Int) (x : Nat × Int) : Act :=
  { tmps := #[.pointer (some ⟨pt, 0, none⟩), .int .i64 m, undef, .pointer (some ⟨w.heap.size, 0, none⟩), .pointer (some ⟨w.heap.size + 1, 0, none⟩), .pointer (some ⟨w.heap.size + 1 + 1 + 1, 0, none⟩), .int .u32 x.1, .int .i64 x.2, .slice (some ⟨w.heap.size + 1 + 1, 0, none⟩) 0 0, .int .i64 m, .bool false, undef, .pointer (some ⟨pt, 0, none⟩), .func (.func 56) #[] #[.pointer (some ⟨w.heap.size + 1 + 1 + 1 + 1, 0, none⟩)], .int .u32 x.1, .int .i64 x.2, undef, undef, undef, undef, undef, undef, undef, undef, undef, undef, undef, undef], defers := [] }

set_option maxRecDepth 100000 in
set_option maxHeartbeats 8000000 in
theorem pairs_calls (w : World) (pt : Nat) (m : Int) {cT cO cR : Nat} {χ : Col} {ns : List Nd} {root lim : Int} (hT : TrAt cT χ w pt ns root lim) (hok : OkN ns) (i0 : 0 ≤ root) (i1 : root ≤ ns.length) (hO : cO < cT ∨ cT + 3 < cO) (hR : cR < cT ∨ cT + 3 < cR) (hRO : cR ≠ cO)
    (hwO : ∀ b, b < w.heap.size → χ b ≠ cO) (hwR : ∀ b, b < w.heap.size → χ b ≠ cR) (hlen : (walkT 32 ns root 0).1.length ≤ 1000000) :
    Calls Try.prog 23 #[.pointer (some ⟨pt, 0, none⟩), .int .i64 m] w (PairsTo cT cO χ w pt root lim m (walkT 32 ns root 0)) := by
  obtain ⟨j0, hj, hz0, hz1, hz2⟩ := info_parts infoPair
  obtain ⟨R, hRw0⟩ : ∃ R, R = walkT 32 ns root 0 := ⟨_, rfl⟩
  rw [← hRw0] at hlen ⊢
  have hRw := Lib.hid hRw0
  clear hRw0
  refine callsIn_wide (n := 99) |>.1 ?_
  refine callsIn_of_wp_marks Try.func23 rfl trivial ?_ rfl
  simp only [Try.ntmps23, List.size_toArray, List.length_cons, List.length_nil, Nat.reduceAdd, Nat.reduceSub, Array.replicate_succ, Array.replicate_zero, List.push_toArray, List.append_toArray, List.nil_append, List.cons_append]
  by_cases hm : m ≤ 0
  · have hm0 : m.toNat = 0 := by omega
    gi_wp2
    have o2 := World.ownsRow_made (base := 0) (e := 61) (size := 2) ((w.alloc (.cells #[.int .i64 m] 3)).alloc (.cells #[.slice (some ⟨w.heap.size + 1 + 1, 0, none⟩) 0 0] 28)) #[] 0 (Nat.zero_le _) (Nat.zero_le _) rfl
    have hb := (((((Below.refl w.heap.size w).alloc (Nat.le_refl _) (.cells #[.int .i64 m] 3)).alloc (by simp only [World.size_alloc]; omega) (.cells #[.slice (some ⟨w.heap.size + 1 + 1, 0, none⟩) 0 0] 28)).alloc (by simp only [World.size_alloc]; omega) (.cells #[] 61)).alloc (by simp only [World.size_alloc]; omega) (.cells #[.slice (some ⟨w.heap.size + 1 + 1, 0, none⟩) 0 0] 28))
    simp only [World.size_alloc] at o2
    refine ⟨.slice (some ⟨w.heap.size + 1 + 1, 0, none⟩) 0 0, by simp [results, Try.results23, go_sem], _, fun b => if b < w.heap.size then χ b else cO, rfl, fun b hb => if_pos hb, Chg.of_below hb, ?_, fun h => by omega⟩
    rw [hm0]
    refine ⟨o2.alloc _, fun b e => ?_⟩
    cases e
    exact if_neg (by simp; omega)
  · gi_wp2_with (refine ⟨trivial, ?_⟩; gi_at_call 39; refine (callsIn_wide.2 (tall_calls _ _)).mono ?_; rintro e w' ⟨rfl, rfl⟩)
    have hit0 : ∀ (W : World) (χ' : Col), TrAt cT χ' W pt ns root lim → W.cell? ⟨w.heap.size + 1 + 1 + 1 + 1, 0, none⟩ = some (.pointer (some ⟨pt, 0, none⟩)) →
        IterC Try.prog 56 #[.pointer (some ⟨w.heap.size + 1 + 1 + 1 + 1, 0, none⟩)] YPair (fun x => x = cO ∨ x = cR) (fun x => cT ≤ x ∧ x ≤ cT + 2) (fun χ2 W2 => TrAt cT χ2 W2 pt R.2 root lim) R.1 χ' W := fun W χ' hT' hbx => by
      rw [hRw.out]; exact tall_iter W pt _ hT' hok i0 i1 (fun x h1 h2 => by rintro (h | h) <;> omega) hbx
    have HIT := Lib.hid hit0
    clear hit0 hok i0 i1
    obtain ⟨W0, hW0, hb0, hsz, H0, hbx⟩ := pi_start w pt m cO χ
    have hT0 : TrAt cT (paint χ w.heap.size cO) W0 pt ns root lim := hT.keep (Same.below cO hb0)
    rw [← hW0]
    clear hW0 hT
    refine wp_rangeC (gf := 56) (lb := #[.pointer (some ⟨w.heap.size + 1 + 1 + 1 + 1, 0, none⟩)]) (Y := YPair) (xs := R.1) (Co := (· = cO)) (T := fun x => cT ≤ x ∧ x ≤ cT + 2) (cR := cR) (χ := paint χ w.heap.size cO) (Zt := fun χ2 W2 => TrAt cT χ2 W2 pt R.2 root lim)
      rfl (enters_of Try.func56 (by kernel_rfl) rfl) hRO (by omega)
      (fun W hb => HIT.out W _ (hT0.keep (Same.below cR hb)) (below_cell hb hbx))
      (fun pre χ1 W => PI w.heap.size m cO pre χ1 W ∧ (pre.length : Int) < m)
      (fun c pre χ1 W => c = .ret ∧ ∃ v, (pre.length : Int) = m ∧ (χ1 (w.heap.size + 1) = cO ∧ W.cell? ⟨w.heap.size + 1, 0, none⟩ = some v) ∧ IsP cO χ1 W v pre)
      (fun pre x a₁ χ1 W => PI w.heap.size m cO pre χ1 W ∧ (pre.length : Int) < m ∧ a₁ = pact w pt m x)
      ?hI ?hIx ?hZ ⟨H0, by simp; omega⟩ ?assign ?body ?done ?zt ?stop ?cw
    case hI => exact fun pre χ1 χ2 W W' h hs => ⟨h.1.keep hs, h.2⟩
    case hIx =>
      rintro c pre χ1 χ2 W W' ⟨rfl, v, h1, ⟨h2, h3⟩, h4⟩ hs
      have k := hs _ (World.block_lt_of_cell? W _ h3) h2
      exact ⟨rfl, v, h1, ⟨k.1.trans h2, (World.cell?_of_block k.2).trans h3⟩, h4.keep hs⟩
    case hZ =>
      rintro pre x a₁ χ1 χ2 W W' ⟨h1, h2, h3⟩ hs
      exact ⟨h1.keep hs, h2, h3⟩
    case assign =>
      rintro m' l pre x rest vs χ1 W hx ⟨hi, hlt⟩ rfl
      refine ⟨rfl, ?_⟩
      gi_wp2
      exact ⟨χ1, fun _ _ => rfl, Chg.of_below (Below.refl _ _), hi, hlt, rfl⟩
    case body =>
      rintro m' l pre x rest a₁ χ1 W hx ⟨hPI, hlt, rfl⟩
      obtain ⟨⟨k1, k2⟩, ⟨k3, k4⟩, v, ⟨k5, k6⟩, k7, k8⟩ := hPI
      have hpl : pre.length + 1 ≤ 1000000 := by have := congrArg List.length hx; simp at this; omega
      obtain ⟨A, cap, rfl⟩ := owns_form k7.1
      have k7o := k7.1
      have k4c := k4.1; have k4f := k4.2; have k6c := k6.1; have k6f := k6.2
      have K8 := Lib.hid k8; have K7 := Lib.hid k7; have K6 := Lib.hid k6; have K4 := Lib.hid k4; have K1 := Lib.hid k1; have K3 := Lib.hid k3; have K5 := Lib.hid k5
      clear k8 k7 k6 k4 k1 k3 k5
      unfold pact
      by_cases hm1 : (pre.length : Int) + 1 < m
      · gi_wp2_with (gi_at_builtin; refine wpListIn_append_own_at _ rfl _ _ 28 rfl 0 61 j0 _ 2 16 Try.underlying28 hj hz0 hz1 hz2 rfl (by decide) _ _ _ rfl (k7o.alloc _) ⟨W.heap.size, 0, none⟩ 1 1 [.int .u32 x.1, .int .i64 x.2] rfl rfl (World.news_of_block (heap_alloc_new W _)) (by simp [Value.oneCell']) (by unfold maxLen; omega) (by omega) (Nat.zero_le _) ?_; intro v' w1 hown' hgrow _ hat; obtain ⟨g', cap', rfl⟩ := ownsRow_succ hown'; have q3 := keep_grown (a := ⟨w.heap.size + 1 + 1 + 1, 0, none⟩) hgrow (fun e => (K8.out _ e.symm).2 rfl) (keep_alloc (a := ⟨w.heap.size + 1 + 1 + 1, 0, none⟩) _ k6c k6f).1 (keep_alloc (a := ⟨w.heap.size + 1 + 1 + 1, 0, none⟩) _ k6c k6f).2; obtain ⟨q3c, q3f⟩ := q3; have q1 := keep_grown (a := ⟨w.heap.size + 1, 0, none⟩) hgrow (fun e => by have := (K8.out _ e.symm).1; simp at this) (keep_alloc (a := ⟨w.heap.size + 1, 0, none⟩) _ k4c k4f).1 (keep_alloc (a := ⟨w.heap.size + 1, 0, none⟩) _ k4c k4f).2; obtain ⟨q1c, q1f⟩ := q1; have q0 : w1.cell? ⟨w.heap.size, 0, none⟩ = some (.int .i64 m) := (World.cell?_of_block ((hgrow.block w.heap.size (by have := World.block_lt_of_cell? W _ k2; simp at this ⊢; omega) (fun e => by have := (K8.out _ e.symm).1; omega)).trans (Below.heap_alloc _ _ _ (World.block_lt_of_cell? W _ k2)))).trans k2)
        have K4' : Var W (w.heap.size + 1) (.slice none 0 0) := ⟨k4c, k4f⟩
        obtain ⟨χ2, z1, z2, z3⟩ := PI.push (x := x) ⟨K1.out, k2⟩ ⟨K3.out, K4'⟩ ⟨K5.out, K6.out⟩ K7.out K8.out hown' hgrow hat
        exact ⟨χ2, z1, z2, z3, by simp; omega⟩
      · have hm2 : m = (pre.length : Int) + 1 := by omega
        gi_wp2_with (gi_at_builtin; refine wpListIn_append_own_at _ rfl _ _ 28 rfl 0 61 j0 _ 2 16 Try.underlying28 hj hz0 hz1 hz2 rfl (by decide) _ _ _ rfl (k7o.alloc _) ⟨W.heap.size, 0, none⟩ 1 1 [.int .u32 x.1, .int .i64 x.2] rfl rfl (World.news_of_block (heap_alloc_new W _)) (by simp [Value.oneCell']) (by unfold maxLen; omega) (by omega) (Nat.zero_le _) ?_; intro v' w1 hown' hgrow _ hat; obtain ⟨g', cap', rfl⟩ := ownsRow_succ hown'; have q3 := keep_grown (a := ⟨w.heap.size + 1 + 1 + 1, 0, none⟩) hgrow (fun e => (K8.out _ e.symm).2 rfl) (keep_alloc (a := ⟨w.heap.size + 1 + 1 + 1, 0, none⟩) _ k6c k6f).1 (keep_alloc (a := ⟨w.heap.size + 1 + 1 + 1, 0, none⟩) _ k6c k6f).2; obtain ⟨q3c, q3f⟩ := q3; have q1 := keep_grown (a := ⟨w.heap.size + 1, 0, none⟩) hgrow (fun e => by have := (K8.out _ e.symm).1; simp at this) (keep_alloc (a := ⟨w.heap.size + 1, 0, none⟩) _ k4c k4f).1 (keep_alloc (a := ⟨w.heap.size + 1, 0, none⟩) _ k4c k4f).2; obtain ⟨q1c, q1f⟩ := q1; have q0 : w1.cell? ⟨w.heap.size, 0, none⟩ = some (.int .i64 m) := (World.cell?_of_block ((hgrow.block w.heap.size (by have := World.block_lt_of_cell? W _ k2; simp at this ⊢; omega) (fun e => by have := (K8.out _ e.symm).1; omega)).trans (Below.heap_alloc _ _ _ (World.block_lt_of_cell? W _ k2)))).trans k2)
        have K4' : Var W (w.heap.size + 1) (.slice none 0 0) := ⟨k4c, k4f⟩
        obtain ⟨χ2, z1, z2, z3⟩ := PI.push (x := x) ⟨K1.out, k2⟩ ⟨K3.out, K4'⟩ ⟨K5.out, K6.out⟩ K7.out K8.out hown' hgrow hat
        obtain ⟨A2, cap2, y1, y2, y3, y4, y5⟩ := z3.fin
        have e1 := (Var.set ⟨q3c, q3f⟩ (.slice (some ⟨g', 0, none⟩) (pre.length + 1) cap')).1.symm.trans y1
        simp only [List.length_append, List.length_cons, List.length_nil, Nat.zero_add] at e1 y5
        rw [← Option.some.inj e1] at y5
        exact ⟨χ2, z1, z2.step (Chg.setCell _ ⟨w.heap.size + 1, 0, none⟩ _ (show χ1 (w.heap.size + 1) = cO from K3.out)), rfl, by simp, _, ⟨y4, y5.out.1⟩, y5.out.2⟩
    case done =>
      rintro D χ2 W hD cD ag hc hzt ⟨hi, hlt⟩ hK
      obtain ⟨A, cap, y1, y2, y3, y4, y5⟩ := hi.fin
      gi_wp2
      have hDn : D ≠ w.heap.size + 1 := fun e => by rw [e] at cD; exact hRO (cD.symm.trans y4)
      have hK2 : (W.setCell ⟨w.heap.size + 1, 0, none⟩ (.slice A R.1.length cap)).heap[D]? = some (.deferred (some [])) := (Below.heap_setCell _ _ _ _ hDn).trans hK
      refine ⟨by simp, .inl ⟨_, _, rfl, run_takeDeferred hK2, ?_⟩⟩
      have cD2 : ((W.setCell ⟨w.heap.size + 1, 0, none⟩ (.slice A R.1.length cap)).putObj D (.deferred none)).cell? ⟨w.heap.size + 1, 0, none⟩ = some (.slice A R.1.length cap) :=
        (World.cell?_of_block (World.putObj_heap_other (fun e => hDn e.symm))).trans y5.out.1
      have ag2 : ∀ b, b < w.heap.size → χ2 b = χ b := fun b hb => (ag b (by omega)).trans (paint_low hb)
      refine ⟨.slice A R.1.length cap, by simp [results, Try.results23, go_sem, cD2], _, χ2, rfl, ag2, ?_, ?_, fun _ => ?_⟩
      · exact ((pairs_chg hb0 hc (fun b hb => paint_low hb) hwO).hiSet _ _ (by show w.heap.size ≤ w.heap.size + 1; omega)).hiPut _ _ (by omega)
      · rw [List.take_of_length_le (by omega)]
        exact y5.out.2.hiPut D cR _ cD hRO
      · exact (hzt.keep (Same.chg' (C := (· = cO)) (Chg.setCell _ ⟨w.heap.size + 1, 0, none⟩ _ (show χ2 (w.heap.size + 1) = cO from y4)) (fun _ _ => rfl) (fun x hx e => by omega))).keep (Same.chg' (C := (· = cR)) (Chg.putObj _ _ _ cD) (fun _ _ => rfl) (fun x hx e => by omega))
    case zt => exact fun χ1 χ2 W W' h hs => h.keep hs
    case stop =>
      rintro D χ2 c pre W hD cD ag hc hp ⟨rfl, v, h1, ⟨h2, h3⟩, h4⟩ hK
      gi_wp2
      refine ⟨by simp, .inl ⟨_, _, rfl, run_takeDeferred hK, ?_⟩⟩
      have hDn : D ≠ w.heap.size + 1 := fun e => by rw [e] at cD; exact hRO (cD.symm.trans h2)
      have cD2 : (W.putObj D (.deferred none)).cell? ⟨w.heap.size + 1, 0, none⟩ = some v :=
        (World.cell?_of_block (World.putObj_heap_other (fun e => hDn e.symm))).trans h3
      refine ⟨v, by simp [results, Try.results23, go_sem, cD2], _, χ2, rfl, fun b hb => (ag b (by omega)).trans (paint_low hb), ?_, ?_, fun h => ?_⟩
      · exact (pairs_chg hb0 hc (fun b hb => paint_low hb) hwO).hiPut _ _ (by omega)
      · rw [show R.1.take m.toNat = pre by rw [show m.toNat = pre.length by omega]; exact (List.prefix_iff_eq_take.1 hp).symm]
        exact h4.hiPut D cR _ cD hRO
      · have := hp.length_le; omega
    case cw =>
      intro b hb
      by_cases h : b < w.heap.size
      · rw [paint_low h]; exact hwR b h
      · rw [paint_high (by omega)]; exact fun e => hRO e.symm
end Go.Proofs.Ytcdldjiogoapkaa
