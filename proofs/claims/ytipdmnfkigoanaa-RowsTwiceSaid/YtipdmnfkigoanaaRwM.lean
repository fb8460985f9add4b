import Derived.Test.YtipdmnfkigoanaaRwL
namespace Go.Proofs.Ytipdmnfkigoanaa
open Go.RowKit Go.Maps
attribute [local go_sem] World.cell?_alloc_some frozen_alloc_some Oper.semAt_some

/-- The loop's frame. -/
def dact (w : World) (tb : Nat) (m : Int) (x : Cl × Int) (pb : Nat) : Act :=
  { tmps := #[.pointer (some ⟨tb, 0, none⟩), .int .i64 m, undef, .pointer (some ⟨w.heap.size, 0, none⟩), .pointer (some ⟨w.heap.size + 1, 0, none⟩), .pointer (some ⟨w.heap.size + 1 + 1, 0, none⟩), .pointer (some ⟨w.heap.size + 1 + 1 + 1 + 1 + 1, 0, none⟩), .pointer (some ⟨w.heap.size + 1 + 1 + 1 + 1 + 1 + 1, 0, none⟩),
      .pointer (some ⟨pb, 0, none⟩), .int .i64 x.2, .slice (some ⟨w.heap.size + 1 + 1 + 1, 0, none⟩) 0 0, .slice (some ⟨w.heap.size + 1 + 1 + 1 + 1, 0, none⟩) 0 0, .int .i64 m, .bool false, undef, undef, .pointer (some ⟨tb, 0, none⟩),
      .func (.func 33) #[] #[.pointer (some ⟨w.heap.size + 1 + 1 + 1 + 1 + 1 + 1 + 1, 0, none⟩)], .agg #[.int .i64 x.1.lab, .int .u32 x.1.key], .int .i64 x.2,
      undef, undef, undef, undef, undef, undef, undef, undef, undef, undef, undef, undef, undef, undef, undef, undef], defers := [] }
def FrX (n : Nat) (v : Value) : Prop := ∀ b, v.ownBlock = some b → n ≤ b
def dcol (s : Nat) : Col := paint (paint (fun _ => 0) s 1) (s + 7) 4
theorem dcol_low {s b : Nat} (h : b < s) : dcol s b = 0 := (paint_low (by omega)).trans (paint_low h)
theorem dcol_mid {s b : Nat} (h : s ≤ b) (h2 : b < s + 7) : dcol s b = 1 := (paint_low h2).trans (paint_high h)
theorem dcol_high {s b : Nat} (h : s + 7 ≤ b) : dcol s b = 4 := paint_high h
set_option maxHeartbeats 1000000 in
theorem d_start (w : World) (tb : Nat) (m : Int) :
    ∃ W0, W0 = ((((((((w.alloc (.cells #[.int .i64 m] 3)).alloc (.cells #[.slice none 0 0] 30)).alloc (.cells #[.slice none 0 0] 48)).alloc (.cells #[] 36)).alloc (.cells #[] 3)).alloc (.cells #[.slice (some ⟨w.heap.size + 1 + 1 + 1, 0, none⟩) 0 0] 30)).alloc (.cells #[.slice (some ⟨w.heap.size + 1 + 1 + 1 + 1, 0, none⟩) 0 0] 48)).alloc
        (.cells #[.pointer (some ⟨tb, 0, none⟩)] 51)) ∧
      Below w.heap.size w W0 ∧ W0.heap.size = w.heap.size + 8 ∧ (∃ vx vy, DIx w.heap.size m 1 [] (dcol w.heap.size) W0 vx vy) ∧ W0.cell? ⟨w.heap.size + 1 + 1 + 1 + 1 + 1 + 1 + 1, 0, none⟩ = some (.pointer (some ⟨tb, 0, none⟩)) := by
  have u0 := Var.new w (.int .i64 m) 3
  have u1 := Var.new (w.alloc (.cells #[.int .i64 m] 3)) (.slice none 0 0) 30
  have u2 := Var.new ((w.alloc (.cells #[.int .i64 m] 3)).alloc (.cells #[.slice none 0 0] 30)) (.slice none 0 0) 48
  have o3 := World.ownsRow_made (base := 0) (e := 36) (size := 2) (((w.alloc (.cells #[.int .i64 m] 3)).alloc (.cells #[.slice none 0 0] 30)).alloc (.cells #[.slice none 0 0] 48)) #[] 0 (Nat.zero_le _) (Nat.zero_le _) rfl
  have o4 := World.ownsRow_made (base := 0) (e := 3) (size := 1) ((((w.alloc (.cells #[.int .i64 m] 3)).alloc (.cells #[.slice none 0 0] 30)).alloc (.cells #[.slice none 0 0] 48)).alloc (.cells #[] 36)) #[] 0 (Nat.zero_le _) (Nat.zero_le _) rfl
  have u5 := Var.new (((((w.alloc (.cells #[.int .i64 m] 3)).alloc (.cells #[.slice none 0 0] 30)).alloc (.cells #[.slice none 0 0] 48)).alloc (.cells #[] 36)).alloc (.cells #[] 3)) (.slice (some ⟨w.heap.size + 1 + 1 + 1, 0, none⟩) 0 0) 30
  have u6 := Var.new ((((((w.alloc (.cells #[.int .i64 m] 3)).alloc (.cells #[.slice none 0 0] 30)).alloc (.cells #[.slice none 0 0] 48)).alloc (.cells #[] 36)).alloc (.cells #[] 3)).alloc (.cells #[.slice (some ⟨w.heap.size + 1 + 1 + 1, 0, none⟩) 0 0] 30)) (.slice (some ⟨w.heap.size + 1 + 1 + 1 + 1, 0, none⟩) 0 0) 48
  have u7 := Var.new (((((((w.alloc (.cells #[.int .i64 m] 3)).alloc (.cells #[.slice none 0 0] 30)).alloc (.cells #[.slice none 0 0] 48)).alloc (.cells #[] 36)).alloc (.cells #[] 3)).alloc (.cells #[.slice (some ⟨w.heap.size + 1 + 1 + 1, 0, none⟩) 0 0] 30)).alloc (.cells #[.slice (some ⟨w.heap.size + 1 + 1 + 1 + 1, 0, none⟩) 0 0] 48)) (.pointer (some ⟨tb, 0, none⟩)) 51
  simp only [World.size_alloc] at u1 u2 o3 o4 u5 u6 u7
  refine ⟨_, rfl, ?_, by simp, ⟨.slice (some ⟨w.heap.size + 1 + 1 + 1, 0, none⟩) 0 0, .slice (some ⟨w.heap.size + 1 + 1 + 1 + 1, 0, none⟩) 0 0, dcol_mid (Nat.le_refl _) (by omega), (((((((u0.alloc _).alloc _).alloc _).alloc _).alloc _).alloc _).alloc _).1, dcol_mid (by omega) (by omega), ((((((u1.alloc _).alloc _).alloc _).alloc _).alloc _).alloc _), dcol_mid (by omega) (by omega), (((((u2.alloc _).alloc _).alloc _).alloc _).alloc _), dcol_mid (by omega) (by omega), ((u5.alloc _).alloc _), dcol_mid (by omega) (by omega), (u6.alloc _),
    ⟨(((((o3.alloc _).alloc _).alloc _).alloc _)), fun b e => ?_⟩, ⟨(((o4.alloc _).alloc _).alloc _), fun b e => ?_⟩, fun b e => ?_, fun b e => ?_, fun b e => ?_⟩, u7.1⟩
  · exact (((((((((Below.refl w.heap.size w).alloc (Nat.le_refl _) _).alloc (by simp only [World.size_alloc]; omega) _).alloc (by simp only [World.size_alloc]; omega) _).alloc (by simp only [World.size_alloc]; omega) _).alloc (by simp only [World.size_alloc]; omega) _).alloc (by simp only [World.size_alloc]; omega) _).alloc (by simp only [World.size_alloc]; omega) _).alloc (by simp only [World.size_alloc]; omega) _)
  · obtain rfl : w.heap.size + 1 + 1 + 1 = b := Option.some.inj e; exact dcol_mid (by omega) (by omega)
  · obtain rfl : w.heap.size + 1 + 1 + 1 + 1 = b := Option.some.inj e; exact dcol_mid (by omega) (by omega)
  · obtain rfl : w.heap.size + 1 + 1 + 1 = b := Option.some.inj e; omega
  · obtain rfl : w.heap.size + 1 + 1 + 1 + 1 = b := Option.some.inj e; omega
  · obtain rfl : w.heap.size + 1 + 1 + 1 = b := Option.some.inj e
    intro e2
    have : w.heap.size + 1 + 1 + 1 + 1 = w.heap.size + 1 + 1 + 1 := Option.some.inj e2
    omega
set_option maxRecDepth 100000 in
set_option maxHeartbeats 8000000 in
theorem rcells_calls (w : World) (m : Int) {c : Nat} {χ0 : Col} {rb : Nat} {t : TypeId} {rest : List Value} {L : RL} {ev : List Cl} {last : Nat} {vm em : Value} {n1 n2 : Nat} (h : RwIn c χ0 w rb t rest L ev last vm em n1 n2) (hll : last ≤ 1000) (hpos : 0 < m) :
    Calls Try.prog 19 #[.pointer (some ⟨rb, 0, none⟩), .int .i64 m] w fun e w' => ∃ vx vy, e = .returned (.tuple #[vx, vy]) ∧ IsX 36 2 clc 0 (fun _ => 0) w' vx ((L.take m.toNat).map (·.1)) ∧ IsX 3 1 inc 0 (fun _ => 0) w' vy ((L.take m.toNat).map (·.2)) ∧ FrX w.heap.size vx ∧ FrX w.heap.size vy ∧ Below w.heap.size w w' := by
  have HR := Lib.hid h
  have hlen : L.length ≤ 1000 := Nat.le_trans h.len hll
  clear h
  obtain ⟨i0, hi, hy0, hy1, hy2⟩ := info_parts infoCl
  obtain ⟨j0, hj, hz0, hz1, hz2⟩ := info_parts infoIn
  refine callsIn_wide (n := 99) |>.1 ?_
  refine callsIn_of_wp_marks Try.func19 rfl trivial ?_ rfl
  simp only [Try.ntmps19, List.size_toArray, List.length_cons, List.length_nil, Nat.reduceAdd, Nat.reduceSub, Array.replicate_succ, Array.replicate_zero, List.push_toArray, List.append_toArray, List.nil_append, List.cons_append]
  by_cases hm : m ≤ 0
  · omega
  · gi_wp2_with (refine ⟨trivial, ?_⟩; gi_at_call 27; refine (callsIn_wide.2 (rall0_calls _ _)).mono ?_; rintro e w' ⟨rfl, rfl⟩)
    obtain ⟨W0, hW0, hb0, hsz, H0, hbl⟩ := d_start w rb m
    rw [← hW0]
    clear hW0
    refine wp_rangeC (gf := 33) (lb := #[.pointer (some ⟨w.heap.size + 1 + 1 + 1 + 1 + 1 + 1 + 1, 0, none⟩)]) (Y := YPairC) (xs := L) (Co := (· = 1)) (T := fun x => x = 3) (cR := 2) (χ := dcol w.heap.size) (Zt := fun _ _ => True)
      rfl (enters_of Try.func33 (by kernel_rfl) rfl) (by decide) (by decide)
      (fun W hb => rall1_iter w W (w.heap.size + 1 + 1 + 1 + 1 + 1 + 1 + 1) HR.out (by omega) (hb0.trans (hb.mono hb0.size)) (fun b hb => by rw [paint_low (by omega), dcol_low hb]; omega) (by omega) ((World.cell?_of_block (hb.block (w.heap.size + 1 + 1 + 1 + 1 + 1 + 1 + 1) (by omega))).trans hbl)
        (by rw [paint_low (by omega), dcol_high (by omega)]; omega))
      (fun pre χ1 W => (∃ vx vy, DIx w.heap.size m 1 pre χ1 W vx vy) ∧ (pre.length : Int) < m)
      (fun c pre χ1 W => c = .ret ∧ ∃ vx vy, (pre.length : Int) = m ∧ (χ1 (w.heap.size + 1) = 1 ∧ W.cell? ⟨w.heap.size + 1, 0, none⟩ = some vx) ∧ (χ1 (w.heap.size + 1 + 1) = 1 ∧ W.cell? ⟨w.heap.size + 1 + 1, 0, none⟩ = some vy) ∧ IsX 36 2 clc 1 χ1 W vx (pre.map (·.1)) ∧ IsX 3 1 inc 1 χ1 W vy (pre.map (·.2)) ∧ FrX w.heap.size vx ∧ FrX w.heap.size vy)
      (fun pre x a₁ χ1 W => ∃ vx vy pb, DIx w.heap.size m 1 pre χ1 W vx vy ∧ (pre.length : Int) < m ∧ a₁ = dact w rb m x pb ∧ χ1 pb = 1 ∧ W.heap[pb]? = some (.cells #[.int .i64 x.1.lab, .int .u32 x.1.key] 36) ∧ vx.ownBlock ≠ some pb ∧ vy.ownBlock ≠ some pb)
      ?hI ?hIx ?hZ ⟨H0, by simp; omega⟩ ?assign ?body ?done ?zt ?stop ?cw
    case zt => exact fun _ _ _ _ _ _ => trivial
    case cw =>
      intro b hb h
      rcases Nat.lt_or_ge b w.heap.size with k | k
      · rw [dcol_low k] at h; omega
      · rcases Nat.lt_or_ge b (w.heap.size + 7) with k2 | k2
        · rw [dcol_mid k k2] at h; omega
        · rw [dcol_high k2] at h; omega
    case hI => exact fun pre χ1 χ2 W W' ⟨⟨vx, vy, h⟩, h2⟩ hs => ⟨⟨vx, vy, h.keep hs⟩, h2⟩
    case hIx =>
      rintro c pre χ1 χ2 W W' ⟨rfl, vx, vy, h1, ⟨h2, h3⟩, ⟨h4, h5⟩, h6, h7, h8⟩ hs
      have k := hs _ (World.block_lt_of_cell? W _ h3) h2
      have k2 := hs _ (World.block_lt_of_cell? W _ h5) h4
      exact ⟨rfl, vx, vy, h1, ⟨k.1.trans h2, (World.cell?_of_block k.2).trans h3⟩, ⟨k2.1.trans h4, (World.cell?_of_block k2.2).trans h5⟩, h6.keep hs, h7.keep hs, h8⟩
    case hZ =>
      rintro pre x a₁ χ1 χ2 W W' ⟨vx, vy, pb, h, h2, h3, h4, h5, h6⟩ hs
      have k := hs pb (Array.getElem?_eq_some_iff.1 h5).1 h4
      exact ⟨vx, vy, pb, h.keep hs, h2, h3, k.1.trans h4, k.2.trans h5, h6⟩
    case assign =>
      rintro m' l' pre x rest vs χ1 W hx ⟨hi, hlt⟩ rfl
      refine ⟨rfl, ?_⟩
      gi_wp2
      obtain ⟨vx, vy, hi⟩ := hi
      have hbw := (Below.refl W.heap.size W).alloc (Nat.le_refl _) (.cells #[.int .i64 x.1.lab, .int .u32 x.1.key] 36)
      exact ⟨paint χ1 W.heap.size 1, fun b hb => paint_low hb, Chg.of_below hbw, vx, vy, W.heap.size, hi.keep (Same.below 1 hbw), hlt, rfl, paint_high (Nat.le_refl _), heap_alloc_at _ _, fun e => by have := (hi.x.1.lt _ e).2; simp at this, fun e => by have := (hi.y.1.lt _ e).2; simp at this⟩
    case body =>
      rintro m' l' pre x rest a₁ χ1 W hx ⟨vx, vy, pb, hD, hlt, rfl, hpc, hpb, hpx, hpy⟩
      have hpl : pre.length + 1 ≤ 1000000 := by have := congrArg List.length hx; simp at this; omega
      obtain ⟨Ax, capx, hvx⟩ := hD.x.form
      obtain ⟨Ay, capy, hvy⟩ := hD.y.form
      rw [List.length_map] at hvx hvy
      subst hvx hvy
      have HD := Lib.hid hD
      have V5 : Hid (Var W (w.heap.size + 1 + 1 + 1 + 1 + 1) (.slice Ax pre.length capx)) := hD.v5
      have V6 : Hid (Var W (w.heap.size + 1 + 1 + 1 + 1 + 1 + 1) (.slice Ay pre.length capy)) := hD.v6
      have N5 : Hid ((Value.slice Ax pre.length capx).ownBlock ≠ some (w.heap.size + 1 + 1 + 1 + 1 + 1) ∧ (Value.slice Ay pre.length capy).ownBlock ≠ some (w.heap.size + 1 + 1 + 1 + 1 + 1)) := ⟨fun e => (hD.ax _ e).2.1 rfl, fun e => (hD.ay _ e).2.1 rfl⟩
      have N6 : Hid ((Value.slice Ax pre.length capx).ownBlock ≠ some (w.heap.size + 1 + 1 + 1 + 1 + 1 + 1) ∧ (Value.slice Ay pre.length capy).ownBlock ≠ some (w.heap.size + 1 + 1 + 1 + 1 + 1 + 1)) := ⟨fun e => (hD.ax _ e).2.2 rfl, fun e => (hD.ay _ e).2.2 rfl⟩
      have Rr0 := Lib.hid ((R2.start hD.x.1 hD.y.1 hD.xy).add (pb, 36, [.int .i64 x.1.lab, .int .u32 x.1.key]) hpb hpx hpy)
      have HPB := Lib.hid hpb
      clear hD
      unfold dact
      gi_wp2
      refine cut4 (fun V => ∃ χ2, (∀ b, b < W.heap.size → χ2 b = χ1 b) ∧ Chg χ1 (· = 1) W V ∧ ∃ vx vy, DIx w.heap.size m 1 (pre ++ [x]) χ2 V vx vy) ?QQ ?pf ?main
      case main =>
        intro key
        have hS : W.drew.cell? ⟨w.heap.size + 1 + 1 + 1 + 1 + 1, 0, none⟩ = some (.slice Ax pre.length capx) ∧ W.drew.cell? ⟨w.heap.size + 1 + 1 + 1 + 1 + 1 + 1, 0, none⟩ = some (.slice Ay pre.length capy) ∧ W.drew.cell? ⟨pb, 0, none⟩ = some (.int .i64 x.1.lab) ∧ W.drew.cell? ⟨pb, 1, none⟩ = some (.int .u32 x.1.key) := ⟨V5.out.1, V6.out.1, (cells2 HPB.out).1⟩
        refine wpIn_region_any (by kernel_rfl) (any_in (by kernel_rfl) (by rintro ⟨a, w, h⟩; exact h) _ _ _ _ (any_of_B (S := fun W' => W'.cell? ⟨w.heap.size + 1 + 1 + 1 + 1 + 1, 0, none⟩ = some (.slice Ax pre.length capx) ∧ W'.cell? ⟨w.heap.size + 1 + 1 + 1 + 1 + 1 + 1, 0, none⟩ = some (.slice Ay pre.length capy) ∧ W'.cell? ⟨pb, 0, none⟩ = some (.int .i64 x.1.lab) ∧ W'.cell? ⟨pb, 1, none⟩ = some (.int .u32 x.1.key)) (B := lastB 8) _ _ _ _ ?_))
        show anyB _ _ _ _ _ _ 10 #[false, false, false, false, false, false, false, false, false, false] _ W.drew
        refine takeB (i := 0) (v := ?va) (some 20) rfl rfl (by kernel_rfl) (by kernel_rfl) (by kernel_rfl) (by kernel_rfl) (by kernel_rfl) (fun _ _ _ h => h) (Or.inl ⟨by rfl, ?ha⟩) (by assumption) ?ra
        case ha => intro w hSw; (try dsimp only at hSw); go_simp; first | done | with_reducible rfl
        try simp only [Act.put, List.setIfInBounds_toArray, List.set_cons_zero, List.set_cons_succ]
        refine takeB (i := 1) (v := ?vb) (some 21) rfl rfl (by kernel_rfl) (by kernel_rfl) (by kernel_rfl) (by kernel_rfl) (by kernel_rfl) (fun _ _ _ h => h) (Or.inl ⟨by rfl, ?hb⟩) (by assumption) ?rb
        case hb => intro w hSw; (try dsimp only at hSw); go_simp; first | done | with_reducible rfl
        try simp only [Act.put, List.setIfInBounds_toArray, List.set_cons_zero, List.set_cons_succ]
        refine takeB (i := 4) (v := ?vc) (some 24) rfl rfl (by kernel_rfl) (by kernel_rfl) (by kernel_rfl) (by kernel_rfl) (by kernel_rfl) (fun _ _ _ h => h) (Or.inl ⟨by rfl, ?hc⟩) (by assumption) ?rc
        case hc => intro w hSw; (try dsimp only at hSw); go_simp; first | done | with_reducible rfl
        try simp only [Act.put, List.setIfInBounds_toArray, List.set_cons_zero, List.set_cons_succ]
        refine takeB (i := 5) (v := ?vd) (some 25) rfl rfl (by kernel_rfl) (by kernel_rfl) (by kernel_rfl) (by kernel_rfl) (by kernel_rfl) (fun _ _ _ h => h) (Or.inl ⟨by rfl, ?hd⟩) (by assumption) ?rd
        case hd => intro w hSw; (try dsimp only at hSw); go_simp; first | done | with_reducible rfl
        try simp only [Act.put, List.setIfInBounds_toArray, List.set_cons_zero, List.set_cons_succ]
        refine readyB2 (i := 2) (k := 6) (by kernel_rfl) ?_ ?_
        · skip
          refine opB rfl (by rfl) (fun K hK => ?_)
          go_simp
          have Rr2 := Lib.hid (Rr0.out.alloc 36 [.int .i64 x.1.lab, .int .u32 x.1.key] (W.heap.size) (by simp))
          have kk5 := (Rr2.out.var V5.out N5.out.1 N5.out.2).1
          have kk6 := (Rr2.out.var V6.out N6.out.1 N6.out.2).1
          have kk7 := (cells2 (Rr2.out.el (pb, 36, [.int .i64 x.1.lab, .int .u32 x.1.key]) (by simp)).1).1
          refine hK _ _ ⟨fun _ => ⟨kk5, kk6, kk7⟩, ?_⟩
          clear hK K hS
          have hS := And.intro kk5 (And.intro kk6 kk7)
          clear kk5 kk6 kk7
          try simp only [List.setIfInBounds_toArray, List.set_cons_zero, List.set_cons_succ]
          refine readyB2 (i := 3) (k := 6) (by kernel_rfl) ?_ ?_
          · skip
            refine opB rfl (by rfl) (fun K hK => ?_)
            refine wp_append_lies _ _ _ _ (by rfl) 0 36 i0 _ 2 16 Try.underlying30 hi hy0 hy1 hy2 rfl (by omega) (.slice Ax pre.length capx) pre.length ((pre.map (·.1)).flatMap clc) (by rfl) (by have := Rr2.out.ox; rwa [List.length_map] at this) ⟨W.heap.size, 0, none⟩ 1 1 [.int .i64 x.1.lab, .int .u32 x.1.key] (by rfl) (by rfl) (World.news_of_block (cs := #[.int .i64 x.1.lab, .int .u32 x.1.key]) (t := 36) (fr := (0, 0)) (Rr2.out.el (W.heap.size, 36, [.int .i64 x.1.lab, .int .u32 x.1.key]) (by simp)).1) (by simp [Value.oneCell']) (by omega) (by unfold maxLen; omega) (by omega) (Nat.zero_le _) _ rfl ?_
            intro gx capx' U3 hownx hgrowx hatx hltx
            have Rr3 := Lib.hid (Rr2.out.pushx (i := x.1) (g := gx) (cap := capx') (by rw [List.length_map]; exact hownx) hgrowx hatx)
            have kk5 := (Rr3.out.var V5.out N5.out.1 N5.out.2).1
            have kk6 := (Rr3.out.var V6.out N6.out.1 N6.out.2).1
            have kk7 := (cells2 (Rr3.out.el (pb, 36, [.int .i64 x.1.lab, .int .u32 x.1.key]) (by simp)).1).1
            refine hK _ _ ⟨fun _ => ⟨kk5, kk6, kk7⟩, ?_⟩
            clear hK K hS
            have hS := And.intro kk5 (And.intro kk6 kk7)
            clear kk5 kk6 kk7
            try simp only [List.setIfInBounds_toArray, List.set_cons_zero, List.set_cons_succ]
            refine readyB1 (i := 6) (by kernel_rfl) ?_
            refine opB rfl (by rfl) (fun K hK => ?_)
            go_simp
            have Rr6 := Lib.hid (Rr3.out.alloc 3 [.int .i64 x.2] (U3.heap.size) (by simp))
            have kk5 := (Rr6.out.var V5.out N5.out.1 N5.out.2).1
            have kk6 := (Rr6.out.var V6.out N6.out.1 N6.out.2).1
            have kk7 := (cells2 (Rr6.out.el (pb, 36, [.int .i64 x.1.lab, .int .u32 x.1.key]) (by simp)).1).1
            refine hK _ _ ⟨fun _ => ⟨kk5, kk6, kk7⟩, ?_⟩
            clear hK K hS
            have hS := And.intro kk5 (And.intro kk6 kk7)
            clear kk5 kk6 kk7
            try simp only [List.setIfInBounds_toArray, List.set_cons_zero, List.set_cons_succ]
            refine readyB1 (i := 7) (by kernel_rfl) ?_
            refine opB rfl (by rfl) (fun K hK => ?_)
            refine wp_append_lies _ _ _ _ (by rfl) 0 3 j0 _ 1 8 Try.underlying48 hj hz0 hz1 hz2 rfl (by omega) (.slice Ay pre.length capy) pre.length ((pre.map (·.2)).flatMap inc) (by rfl) (by have := Rr6.out.oy; rwa [List.length_map] at this) ⟨U3.heap.size, 0, none⟩ 1 1 [.int .i64 x.2] (by rfl) (by rfl) (World.news_of_block (cs := #[.int .i64 x.2]) (t := 3) (fr := (0, 0)) (Rr6.out.el (U3.heap.size, 3, [.int .i64 x.2]) (by simp)).1) (by simp [Value.oneCell']) (by omega) (by unfold maxLen; omega) (by omega) (Nat.zero_le _) _ rfl ?_
            intro gy capy' U7 howny hgrowy haty hlty
            have Rr7 := Lib.hid (Rr6.out.pushy (i := x.2) (g := gy) (cap := capy') (by rw [List.length_map]; exact howny) hgrowy haty)
            have kk5 := (Rr7.out.var V5.out N5.out.1 N5.out.2).1
            have kk6 := (Rr7.out.var V6.out N6.out.1 N6.out.2).1
            have kk7 := (cells2 (Rr7.out.el (pb, 36, [.int .i64 x.1.lab, .int .u32 x.1.key]) (by simp)).1).1
            refine hK _ _ ⟨fun _ => ⟨kk5, kk6, kk7⟩, ?_⟩
            clear hK K hS
            have hS := And.intro kk5 (And.intro kk6 kk7)
            clear kk5 kk6 kk7
            try simp only [List.setIfInBounds_toArray, List.set_cons_zero, List.set_cons_succ]
            have T5 := Rr7.out.var V5.out N5.out.1 N5.out.2
            have T6 := Rr7.out.var V6.out N6.out.1 N6.out.2
            have t5 := T5.1
            have t5f := T5.2
            have t6 := T6.1
            have t6f := T6.2
            clear hS
            have HT := Lib.hid (And.intro T5 T6)
            clear T5 T6
            refine readyB1 (i := 8) (by kernel_rfl) ?_
            refine opB rfl (by rfl) (fun K hK => ?_)
            go_simp
            refine hK _ _ ⟨fun h => by simp [lastB] at h, ?_⟩
            clear hK K
            try simp only [List.setIfInBounds_toArray, List.set_cons_zero, List.set_cons_succ]
            refine readyB1 (i := 9) (by kernel_rfl) ?_
            refine opB rfl (by rfl) (fun K hK => ?_)
            go_simp
            refine hK _ _ ⟨fun h => by simp [lastB] at h, ?_⟩
            clear hK K
            try simp only [List.setIfInBounds_toArray, List.set_cons_zero, List.set_cons_succ]
            refine doneB (by kernel_rfl) ?_ _
            obtain ⟨V, hV⟩ : ∃ V, V = (U7.setCell ⟨w.heap.size + 1 + 1 + 1 + 1 + 1, 0, none⟩ (Value.slice (some ⟨gx, 0, none⟩) (pre.length + 1) capx')).setCell ⟨w.heap.size + 1 + 1 + 1 + 1 + 1 + 1, 0, none⟩ (Value.slice (some ⟨gy, 0, none⟩) (pre.length + 1) capy') := ⟨_, rfl⟩
            have hfin : ∃ χ2, (∀ b, b < W.heap.size → χ2 b = χ1 b) ∧ Chg χ1 (· = 1) W V ∧ ∃ vx vy, DIx w.heap.size m 1 (pre ++ [x]) χ2 V vx vy := by
              rw [hV]
              have R := Rr7.out
              simp only [List.length_map] at R
              exact R2.fin2 (x := x) HD.out R HT.out.1 HT.out.2
            rw [← hV]
            obtain ⟨z26, e26⟩ : ∃ z, z = (Value.slice (some ⟨gx, 0, none⟩) (pre.length + 1) capx') := ⟨_, rfl⟩
            rw [← e26]
            obtain ⟨z30, e30⟩ : ∃ z, z = (Value.slice (some ⟨gy, 0, none⟩) (pre.length + 1) capy') := ⟨_, rfl⟩
            rw [← e30]
            obtain ⟨z25, e25⟩ : ∃ z, z = (Value.slice (some ⟨W.heap.size, 0, none⟩) 1 1) := ⟨_, rfl⟩
            rw [← e25]
            obtain ⟨z29, e29⟩ : ∃ z, z = (Value.slice (some ⟨U3.heap.size, 0, none⟩) 1 1) := ⟨_, rfl⟩
            rw [← e29]
            exact key z25 z26 z29 z30 V hfin
          · skip
            refine opB rfl (by rfl) (fun K hK => ?_)
            go_simp
            have Rr6 := Lib.hid (Rr2.out.alloc 3 [.int .i64 x.2] (W.heap.size + 1) (by simp))
            have kk5 := (Rr6.out.var V5.out N5.out.1 N5.out.2).1
            have kk6 := (Rr6.out.var V6.out N6.out.1 N6.out.2).1
            have kk7 := (cells2 (Rr6.out.el (pb, 36, [.int .i64 x.1.lab, .int .u32 x.1.key]) (by simp)).1).1
            refine hK _ _ ⟨fun _ => ⟨kk5, kk6, kk7⟩, ?_⟩
            clear hK K hS
            have hS := And.intro kk5 (And.intro kk6 kk7)
            clear kk5 kk6 kk7
            try simp only [List.setIfInBounds_toArray, List.set_cons_zero, List.set_cons_succ]
            refine readyB1 (i := 3) (by kernel_rfl) ?_
            refine opB rfl (by rfl) (fun K hK => ?_)
            refine wp_append_lies _ _ _ _ (by rfl) 0 36 i0 _ 2 16 Try.underlying30 hi hy0 hy1 hy2 rfl (by omega) (.slice Ax pre.length capx) pre.length ((pre.map (·.1)).flatMap clc) (by rfl) (by have := Rr6.out.ox; rwa [List.length_map] at this) ⟨W.heap.size, 0, none⟩ 1 1 [.int .i64 x.1.lab, .int .u32 x.1.key] (by rfl) (by rfl) (World.news_of_block (cs := #[.int .i64 x.1.lab, .int .u32 x.1.key]) (t := 36) (fr := (0, 0)) (Rr6.out.el (W.heap.size, 36, [.int .i64 x.1.lab, .int .u32 x.1.key]) (by simp)).1) (by simp [Value.oneCell']) (by omega) (by unfold maxLen; omega) (by omega) (Nat.zero_le _) _ rfl ?_
            intro gx capx' U3 hownx hgrowx hatx hltx
            have Rr3 := Lib.hid (Rr6.out.pushx (i := x.1) (g := gx) (cap := capx') (by rw [List.length_map]; exact hownx) hgrowx hatx)
            have kk5 := (Rr3.out.var V5.out N5.out.1 N5.out.2).1
            have kk6 := (Rr3.out.var V6.out N6.out.1 N6.out.2).1
            have kk7 := (cells2 (Rr3.out.el (pb, 36, [.int .i64 x.1.lab, .int .u32 x.1.key]) (by simp)).1).1
            refine hK _ _ ⟨fun _ => ⟨kk5, kk6, kk7⟩, ?_⟩
            clear hK K hS
            have hS := And.intro kk5 (And.intro kk6 kk7)
            clear kk5 kk6 kk7
            try simp only [List.setIfInBounds_toArray, List.set_cons_zero, List.set_cons_succ]
            refine readyB1 (i := 7) (by kernel_rfl) ?_
            refine opB rfl (by rfl) (fun K hK => ?_)
            refine wp_append_lies _ _ _ _ (by rfl) 0 3 j0 _ 1 8 Try.underlying48 hj hz0 hz1 hz2 rfl (by omega) (.slice Ay pre.length capy) pre.length ((pre.map (·.2)).flatMap inc) (by rfl) (by have := Rr3.out.oy; rwa [List.length_map] at this) ⟨W.heap.size + 1, 0, none⟩ 1 1 [.int .i64 x.2] (by rfl) (by rfl) (World.news_of_block (cs := #[.int .i64 x.2]) (t := 3) (fr := (0, 0)) (Rr3.out.el (W.heap.size + 1, 3, [.int .i64 x.2]) (by simp)).1) (by simp [Value.oneCell']) (by omega) (by unfold maxLen; omega) (by omega) (Nat.zero_le _) _ rfl ?_
            intro gy capy' U7 howny hgrowy haty hlty
            have Rr7 := Lib.hid (Rr3.out.pushy (i := x.2) (g := gy) (cap := capy') (by rw [List.length_map]; exact howny) hgrowy haty)
            have kk5 := (Rr7.out.var V5.out N5.out.1 N5.out.2).1
            have kk6 := (Rr7.out.var V6.out N6.out.1 N6.out.2).1
            have kk7 := (cells2 (Rr7.out.el (pb, 36, [.int .i64 x.1.lab, .int .u32 x.1.key]) (by simp)).1).1
            refine hK _ _ ⟨fun _ => ⟨kk5, kk6, kk7⟩, ?_⟩
            clear hK K hS
            have hS := And.intro kk5 (And.intro kk6 kk7)
            clear kk5 kk6 kk7
            try simp only [List.setIfInBounds_toArray, List.set_cons_zero, List.set_cons_succ]
            have T5 := Rr7.out.var V5.out N5.out.1 N5.out.2
            have T6 := Rr7.out.var V6.out N6.out.1 N6.out.2
            have t5 := T5.1
            have t5f := T5.2
            have t6 := T6.1
            have t6f := T6.2
            clear hS
            have HT := Lib.hid (And.intro T5 T6)
            clear T5 T6
            refine readyB1 (i := 8) (by kernel_rfl) ?_
            refine opB rfl (by rfl) (fun K hK => ?_)
            go_simp
            refine hK _ _ ⟨fun h => by simp [lastB] at h, ?_⟩
            clear hK K
            try simp only [List.setIfInBounds_toArray, List.set_cons_zero, List.set_cons_succ]
            refine readyB1 (i := 9) (by kernel_rfl) ?_
            refine opB rfl (by rfl) (fun K hK => ?_)
            go_simp
            refine hK _ _ ⟨fun h => by simp [lastB] at h, ?_⟩
            clear hK K
            try simp only [List.setIfInBounds_toArray, List.set_cons_zero, List.set_cons_succ]
            refine doneB (by kernel_rfl) ?_ _
            obtain ⟨V, hV⟩ : ∃ V, V = (U7.setCell ⟨w.heap.size + 1 + 1 + 1 + 1 + 1, 0, none⟩ (Value.slice (some ⟨gx, 0, none⟩) (pre.length + 1) capx')).setCell ⟨w.heap.size + 1 + 1 + 1 + 1 + 1 + 1, 0, none⟩ (Value.slice (some ⟨gy, 0, none⟩) (pre.length + 1) capy') := ⟨_, rfl⟩
            have hfin : ∃ χ2, (∀ b, b < W.heap.size → χ2 b = χ1 b) ∧ Chg χ1 (· = 1) W V ∧ ∃ vx vy, DIx w.heap.size m 1 (pre ++ [x]) χ2 V vx vy := by
              rw [hV]
              have R := Rr7.out
              simp only [List.length_map] at R
              exact R2.fin2 (x := x) HD.out R HT.out.1 HT.out.2
            rw [← hV]
            obtain ⟨z26, e26⟩ : ∃ z, z = (Value.slice (some ⟨gx, 0, none⟩) (pre.length + 1) capx') := ⟨_, rfl⟩
            rw [← e26]
            obtain ⟨z30, e30⟩ : ∃ z, z = (Value.slice (some ⟨gy, 0, none⟩) (pre.length + 1) capy') := ⟨_, rfl⟩
            rw [← e30]
            obtain ⟨z25, e25⟩ : ∃ z, z = (Value.slice (some ⟨W.heap.size, 0, none⟩) 1 1) := ⟨_, rfl⟩
            rw [← e25]
            obtain ⟨z29, e29⟩ : ∃ z, z = (Value.slice (some ⟨W.heap.size + 1, 0, none⟩) 1 1) := ⟨_, rfl⟩
            rw [← e29]
            exact key z25 z26 z29 z30 V hfin
        · skip
          refine opB rfl (by rfl) (fun K hK => ?_)
          go_simp
          have Rr6 := Lib.hid (Rr0.out.alloc 3 [.int .i64 x.2] (W.heap.size) (by simp))
          have kk5 := (Rr6.out.var V5.out N5.out.1 N5.out.2).1
          have kk6 := (Rr6.out.var V6.out N6.out.1 N6.out.2).1
          have kk7 := (cells2 (Rr6.out.el (pb, 36, [.int .i64 x.1.lab, .int .u32 x.1.key]) (by simp)).1).1
          refine hK _ _ ⟨fun _ => ⟨kk5, kk6, kk7⟩, ?_⟩
          clear hK K hS
          have hS := And.intro kk5 (And.intro kk6 kk7)
          clear kk5 kk6 kk7
          try simp only [List.setIfInBounds_toArray, List.set_cons_zero, List.set_cons_succ]
          refine readyB1 (i := 2) (by kernel_rfl) ?_
          refine opB rfl (by rfl) (fun K hK => ?_)
          go_simp
          have Rr2 := Lib.hid (Rr6.out.alloc 36 [.int .i64 x.1.lab, .int .u32 x.1.key] (W.heap.size + 1) (by simp))
          have kk5 := (Rr2.out.var V5.out N5.out.1 N5.out.2).1
          have kk6 := (Rr2.out.var V6.out N6.out.1 N6.out.2).1
          have kk7 := (cells2 (Rr2.out.el (pb, 36, [.int .i64 x.1.lab, .int .u32 x.1.key]) (by simp)).1).1
          refine hK _ _ ⟨fun _ => ⟨kk5, kk6, kk7⟩, ?_⟩
          clear hK K hS
          have hS := And.intro kk5 (And.intro kk6 kk7)
          clear kk5 kk6 kk7
          try simp only [List.setIfInBounds_toArray, List.set_cons_zero, List.set_cons_succ]
          refine readyB1 (i := 3) (by kernel_rfl) ?_
          refine opB rfl (by rfl) (fun K hK => ?_)
          refine wp_append_lies _ _ _ _ (by rfl) 0 36 i0 _ 2 16 Try.underlying30 hi hy0 hy1 hy2 rfl (by omega) (.slice Ax pre.length capx) pre.length ((pre.map (·.1)).flatMap clc) (by rfl) (by have := Rr2.out.ox; rwa [List.length_map] at this) ⟨W.heap.size + 1, 0, none⟩ 1 1 [.int .i64 x.1.lab, .int .u32 x.1.key] (by rfl) (by rfl) (World.news_of_block (cs := #[.int .i64 x.1.lab, .int .u32 x.1.key]) (t := 36) (fr := (0, 0)) (Rr2.out.el (W.heap.size + 1, 36, [.int .i64 x.1.lab, .int .u32 x.1.key]) (by simp)).1) (by simp [Value.oneCell']) (by omega) (by unfold maxLen; omega) (by omega) (Nat.zero_le _) _ rfl ?_
          intro gx capx' U3 hownx hgrowx hatx hltx
          have Rr3 := Lib.hid (Rr2.out.pushx (i := x.1) (g := gx) (cap := capx') (by rw [List.length_map]; exact hownx) hgrowx hatx)
          have kk5 := (Rr3.out.var V5.out N5.out.1 N5.out.2).1
          have kk6 := (Rr3.out.var V6.out N6.out.1 N6.out.2).1
          have kk7 := (cells2 (Rr3.out.el (pb, 36, [.int .i64 x.1.lab, .int .u32 x.1.key]) (by simp)).1).1
          refine hK _ _ ⟨fun _ => ⟨kk5, kk6, kk7⟩, ?_⟩
          clear hK K hS
          have hS := And.intro kk5 (And.intro kk6 kk7)
          clear kk5 kk6 kk7
          try simp only [List.setIfInBounds_toArray, List.set_cons_zero, List.set_cons_succ]
          refine readyB1 (i := 7) (by kernel_rfl) ?_
          refine opB rfl (by rfl) (fun K hK => ?_)
          refine wp_append_lies _ _ _ _ (by rfl) 0 3 j0 _ 1 8 Try.underlying48 hj hz0 hz1 hz2 rfl (by omega) (.slice Ay pre.length capy) pre.length ((pre.map (·.2)).flatMap inc) (by rfl) (by have := Rr3.out.oy; rwa [List.length_map] at this) ⟨W.heap.size, 0, none⟩ 1 1 [.int .i64 x.2] (by rfl) (by rfl) (World.news_of_block (cs := #[.int .i64 x.2]) (t := 3) (fr := (0, 0)) (Rr3.out.el (W.heap.size, 3, [.int .i64 x.2]) (by simp)).1) (by simp [Value.oneCell']) (by omega) (by unfold maxLen; omega) (by omega) (Nat.zero_le _) _ rfl ?_
          intro gy capy' U7 howny hgrowy haty hlty
          have Rr7 := Lib.hid (Rr3.out.pushy (i := x.2) (g := gy) (cap := capy') (by rw [List.length_map]; exact howny) hgrowy haty)
          have kk5 := (Rr7.out.var V5.out N5.out.1 N5.out.2).1
          have kk6 := (Rr7.out.var V6.out N6.out.1 N6.out.2).1
          have kk7 := (cells2 (Rr7.out.el (pb, 36, [.int .i64 x.1.lab, .int .u32 x.1.key]) (by simp)).1).1
          refine hK _ _ ⟨fun _ => ⟨kk5, kk6, kk7⟩, ?_⟩
          clear hK K hS
          have hS := And.intro kk5 (And.intro kk6 kk7)
          clear kk5 kk6 kk7
          try simp only [List.setIfInBounds_toArray, List.set_cons_zero, List.set_cons_succ]
          have T5 := Rr7.out.var V5.out N5.out.1 N5.out.2
          have T6 := Rr7.out.var V6.out N6.out.1 N6.out.2
          have t5 := T5.1
          have t5f := T5.2
          have t6 := T6.1
          have t6f := T6.2
          clear hS
          have HT := Lib.hid (And.intro T5 T6)
          clear T5 T6
          refine readyB1 (i := 8) (by kernel_rfl) ?_
          refine opB rfl (by rfl) (fun K hK => ?_)
          go_simp
          refine hK _ _ ⟨fun h => by simp [lastB] at h, ?_⟩
          clear hK K
          try simp only [List.setIfInBounds_toArray, List.set_cons_zero, List.set_cons_succ]
          refine readyB1 (i := 9) (by kernel_rfl) ?_
          refine opB rfl (by rfl) (fun K hK => ?_)
          go_simp
          refine hK _ _ ⟨fun h => by simp [lastB] at h, ?_⟩
          clear hK K
          try simp only [List.setIfInBounds_toArray, List.set_cons_zero, List.set_cons_succ]
          refine doneB (by kernel_rfl) ?_ _
          obtain ⟨V, hV⟩ : ∃ V, V = (U7.setCell ⟨w.heap.size + 1 + 1 + 1 + 1 + 1, 0, none⟩ (Value.slice (some ⟨gx, 0, none⟩) (pre.length + 1) capx')).setCell ⟨w.heap.size + 1 + 1 + 1 + 1 + 1 + 1, 0, none⟩ (Value.slice (some ⟨gy, 0, none⟩) (pre.length + 1) capy') := ⟨_, rfl⟩
          have hfin : ∃ χ2, (∀ b, b < W.heap.size → χ2 b = χ1 b) ∧ Chg χ1 (· = 1) W V ∧ ∃ vx vy, DIx w.heap.size m 1 (pre ++ [x]) χ2 V vx vy := by
            rw [hV]
            have R := Rr7.out
            simp only [List.length_map] at R
            exact R2.fin2 (x := x) HD.out R HT.out.1 HT.out.2
          rw [← hV]
          obtain ⟨z26, e26⟩ : ∃ z, z = (Value.slice (some ⟨gx, 0, none⟩) (pre.length + 1) capx') := ⟨_, rfl⟩
          rw [← e26]
          obtain ⟨z30, e30⟩ : ∃ z, z = (Value.slice (some ⟨gy, 0, none⟩) (pre.length + 1) capy') := ⟨_, rfl⟩
          rw [← e30]
          obtain ⟨z25, e25⟩ : ∃ z, z = (Value.slice (some ⟨W.heap.size + 1, 0, none⟩) 1 1) := ⟨_, rfl⟩
          rw [← e25]
          obtain ⟨z29, e29⟩ : ∃ z, z = (Value.slice (some ⟨W.heap.size, 0, none⟩) 1 1) := ⟨_, rfl⟩
          rw [← e29]
          exact key z25 z26 z29 z30 V hfin
      case pf =>
        rintro z25 z26 z29 z30 V ⟨χ2, ag, hc, vx, vy, hD⟩
        obtain ⟨Bx, capx', hvx⟩ := hD.x.form
        obtain ⟨By, capy', hvy⟩ := hD.y.form
        rw [List.length_map, List.length_append, List.length_singleton] at hvx hvy
        subst hvx hvy
        have HC := Lib.hid (And.intro ag hc)
        clear ag hc Rr0 V5 V6 N5 N6 HD HPB hpb hpx hpy hpc
        have x5 : V.cell? ⟨w.heap.size + 1 + 1 + 1 + 1 + 1, 0, none⟩ = some (.slice Bx (pre.length + 1) capx') := hD.v5.1
        have x0 := hD.m0
        by_cases hm1 : (pre.length : Int) + 1 < m
        · have hne : (((pre.length : Int) + 1) == m) = false := by simp; omega
          have HD := Lib.hid hD
          clear hD
          gi_wp2
          exact ⟨χ2, HC.out.1, HC.out.2, ⟨_, _, HD.out⟩, by simp; omega⟩
        · have hm2 : m = (pre.length : Int) + 1 := by omega
          have HD2 : Hid (DIx w.heap.size m 1 (pre ++ [x]) χ2 V.drew (.slice Bx (pre.length + 1) capx') (.slice By (pre.length + 1) capy')) := hD.keep (Same.below' (below_drewN V _ 1))
          have x6 : V.drew.cell? ⟨w.heap.size + 1 + 1 + 1 + 1 + 1 + 1, 0, none⟩ = some (.slice By (pre.length + 1) capy') := hD.v6.1
          have y5 : V.drew.cell? ⟨w.heap.size + 1 + 1 + 1 + 1 + 1, 0, none⟩ = some (.slice Bx (pre.length + 1) capx') := hD.v5.1
          have r1c : V.drew.cell? ⟨w.heap.size + 1, 0, none⟩ = some (.slice none 0 0) := hD.r1.1
          have r1f : V.drew.frozen? ⟨w.heap.size + 1, 0, none⟩ = false := hD.r1.2
          have r2 : Var (V.drew.setCell ⟨w.heap.size + 1, 0, none⟩ (.slice Bx (pre.length + 1) capx')) (w.heap.size + 1 + 1) (.slice none 0 0) := (HD2.out.r2).block (Below.heap_setCell _ _ _ _ (by show w.heap.size + 2 ≠ w.heap.size + 1; omega))
          have r2c : (V.setCell ⟨w.heap.size + 1, 0, none⟩ (.slice Bx (pre.length + 1) capx')).drew.cell? ⟨w.heap.size + 1 + 1, 0, none⟩ = some (.slice none 0 0) := r2.1
          have r2f : (V.setCell ⟨w.heap.size + 1, 0, none⟩ (.slice Bx (pre.length + 1) capx')).drew.frozen? ⟨w.heap.size + 1 + 1, 0, none⟩ = false := r2.2
          have s5 : (V.drew.setCell ⟨w.heap.size + 1, 0, none⟩ (.slice Bx (pre.length + 1) capx')).cell? ⟨w.heap.size + 1 + 1 + 1 + 1 + 1, 0, none⟩ = some (.slice Bx (pre.length + 1) capx') := (HD2.out.v5.block (Below.heap_setCell _ _ _ _ (by show w.heap.size + 5 ≠ w.heap.size + 1; omega))).1
          have s6 : (V.drew.setCell ⟨w.heap.size + 1, 0, none⟩ (.slice Bx (pre.length + 1) capx')).cell? ⟨w.heap.size + 1 + 1 + 1 + 1 + 1 + 1, 0, none⟩ = some (.slice By (pre.length + 1) capy') := (HD2.out.v6.block (Below.heap_setCell _ _ _ _ (by show w.heap.size + 6 ≠ w.heap.size + 1; omega))).1
          have hS := And.intro y5 x6
          have hS2 := Lib.hid (And.intro s5 s6)
          clear hD r2 s5 s6
          have hme : (((pre.length : Int) + 1) == m) = true := by simp; omega
          gi_wp2
          refine wpIn_region_any (by kernel_rfl) (any_in (by kernel_rfl) (by rintro ⟨a, w, h⟩; exact h) _ _ _ _ (any_of_B (S := fun W' => W'.cell? ⟨w.heap.size + 1 + 1 + 1 + 1 + 1, 0, none⟩ = some (.slice Bx (pre.length + 1) capx') ∧ W'.cell? ⟨w.heap.size + 1 + 1 + 1 + 1 + 1 + 1, 0, none⟩ = some (.slice By (pre.length + 1) capy')) (B := lastB 3) _ _ _ _ ?_))
          show anyB _ _ _ _ _ _ 4 #[false, false, false, false] _ V.drew
          refine takeB (i := 0) (v := ?ve) (some 32) rfl rfl (by kernel_rfl) (by kernel_rfl) (by kernel_rfl) (by kernel_rfl) (by kernel_rfl) (fun _ _ _ h => h) (Or.inl ⟨by rfl, ?he⟩) (by assumption) ?re
          case he => intro w hSw; (try dsimp only at hSw); go_simp; first | done | with_reducible rfl
          try simp only [Act.put, List.setIfInBounds_toArray, List.set_cons_zero, List.set_cons_succ]
          refine takeB (i := 1) (v := ?vf) (some 33) rfl rfl (by kernel_rfl) (by kernel_rfl) (by kernel_rfl) (by kernel_rfl) (by kernel_rfl) (fun _ _ _ h => h) (Or.inl ⟨by rfl, ?hf⟩) (by assumption) ?rf
          case hf => intro w hSw; (try dsimp only at hSw); go_simp; first | done | with_reducible rfl
          try simp only [Act.put, List.setIfInBounds_toArray, List.set_cons_zero, List.set_cons_succ]
          refine readyB1 (i := 2) (by kernel_rfl) ?_
          refine opB rfl (by rfl) (fun K hK => ?_)
          go_simp
          refine hK _ _ ⟨fun _ => hS2.out, ?_⟩
          clear hK K hS
          try simp only [List.setIfInBounds_toArray, List.set_cons_zero, List.set_cons_succ]
          refine readyB1 (i := 3) (by kernel_rfl) ?_
          refine opB rfl (by rfl) (fun K hK => ?_)
          go_simp
          refine hK _ _ ⟨fun h => by simp [lastB] at h, ?_⟩
          clear hK K
          try simp only [List.setIfInBounds_toArray, List.set_cons_zero, List.set_cons_succ]
          refine doneB (by kernel_rfl) ?_ _
          gi_wp2
          obtain ⟨q1, q2, q3, q4, q5, -, -⟩ := HD2.out.res (U := ((V.setCell ⟨w.heap.size + 1, 0, none⟩ (.slice Bx (pre.length + 1) capx')).setCell ⟨w.heap.size + 1 + 1, 0, none⟩ (.slice By (pre.length + 1) capy')).drew) rfl
          refine ⟨χ2, HC.out.1, HC.out.2.trans (χ' := χ2) HC.out.1 (Chg.step (Chg.of_below (below_drewN V _ 1)) q1), rfl, _, _, by simp; omega, ⟨HD2.out.c1, q2⟩, ⟨HD2.out.c2, q3⟩, q4, q5, fun b e => by have := (HD2.out.ax b e).1; omega, fun b e => by have := (HD2.out.ay b e).1; omega⟩
    case done =>
      rintro D χ2 W hD cD ag hch hzt ⟨⟨vx, vy, hi⟩, hlt⟩ hK
      have hbel : Below w.heap.size w W := hb0.trans (hch.below (n := w.heap.size) (fun b hb => by rw [dcol_low hb]; omega) (by omega))
      clear hch ag
      obtain ⟨Bx, capx', hvx⟩ := hi.x.form
      obtain ⟨By, capy', hvy⟩ := hi.y.form
      rw [List.length_map] at hvx hvy
      subst hvx hvy
      have HD2 : Hid (DIx w.heap.size m 1 L χ2 W.drew (.slice Bx L.length capx') (.slice By L.length capy')) := hi.keep (Same.below' (below_drewN W _ 1))
      have x5 : W.drew.cell? ⟨w.heap.size + 1 + 1 + 1 + 1 + 1, 0, none⟩ = some (.slice Bx L.length capx') := hi.v5.1
      have x6 : W.drew.cell? ⟨w.heap.size + 1 + 1 + 1 + 1 + 1 + 1, 0, none⟩ = some (.slice By L.length capy') := hi.v6.1
      have r1c : W.drew.cell? ⟨w.heap.size + 1, 0, none⟩ = some (.slice none 0 0) := hi.r1.1
      have r1f : W.drew.frozen? ⟨w.heap.size + 1, 0, none⟩ = false := hi.r1.2
      have r2 : Var (W.setCell ⟨w.heap.size + 1, 0, none⟩ (.slice Bx L.length capx')) (w.heap.size + 1 + 1) (.slice none 0 0) := hi.r2.block (Below.heap_setCell _ _ _ _ (by show w.heap.size + 2 ≠ w.heap.size + 1; omega))
      have r2c : (W.setCell ⟨w.heap.size + 1, 0, none⟩ (.slice Bx L.length capx')).drew.cell? ⟨w.heap.size + 1 + 1, 0, none⟩ = some (.slice none 0 0) := r2.1
      have r2f : (W.setCell ⟨w.heap.size + 1, 0, none⟩ (.slice Bx L.length capx')).drew.frozen? ⟨w.heap.size + 1 + 1, 0, none⟩ = false := r2.2
      have s6 : (W.setCell ⟨w.heap.size + 1, 0, none⟩ (.slice Bx L.length capx')).drew.cell? ⟨w.heap.size + 1 + 1 + 1 + 1 + 1 + 1, 0, none⟩ = some (.slice By L.length capy') := (hi.v6.block (Below.heap_setCell _ _ _ _ (by show w.heap.size + 6 ≠ w.heap.size + 1; omega)) : Var (W.setCell ⟨w.heap.size + 1, 0, none⟩ (.slice Bx L.length capx')) _ _).1
      clear r2
      clear hi
      gi_wp2
      gi_region
      gi_wp2
      obtain ⟨U, hU⟩ : ∃ U, U = ((W.setCell ⟨w.heap.size + 1, 0, none⟩ (.slice Bx L.length capx')).setCell ⟨w.heap.size + 1 + 1, 0, none⟩ (.slice By L.length capy')).drew := ⟨_, rfl⟩
      obtain ⟨q1, q2, q3, q4, q5, q6, q7⟩ := HD2.out.res (U := U) (by rw [hU]; rfl)
      rw [← hU]
      clear hU x5 x6 r1c r1f r2c r2f s6
      have q2 : U.cell? ⟨w.heap.size + 1, 0, none⟩ = some (.slice Bx L.length capx') := q2
      have q3 : U.cell? ⟨w.heap.size + 1 + 1, 0, none⟩ = some (.slice By L.length capy') := q3
      have hK2 : U.heap[D]? = some (.deferred (some [])) := (q7 D (by omega) (by omega)).trans hK
      refine ⟨by simp, .inl ⟨_, _, rfl, run_takeDeferred hK2, ?_⟩⟩
      have c1 : (U.putObj D (.deferred none)).cell? ⟨w.heap.size + 1, 0, none⟩ = some (.slice Bx L.length capx') := (World.cell?_of_block (World.putObj_heap_other (by show w.heap.size + 1 ≠ D; omega))).trans q2
      have c2 : (U.putObj D (.deferred none)).cell? ⟨w.heap.size + 1 + 1, 0, none⟩ = some (.slice By L.length capy') := (World.cell?_of_block (World.putObj_heap_other (by show w.heap.size + 1 + 1 ≠ D; omega))).trans q3
      have h2 : Below w.heap.size W (U.putObj D (.deferred none)) := ⟨q1.os, q1.tape, q1.output, by simp; have h := q1.size; have : W.drew.heap.size = W.heap.size := rfl; omega, fun b hb => (World.putObj_heap_other (by omega)).trans (q7 b (by omega) (by omega))⟩
      refine ⟨.tuple #[.slice Bx L.length capx', .slice By L.length capy'], by simp [results, Try.results19, go_sem, c1, c2], _, _, rfl, ?_, ?_, fun b e => by have := (HD2.out.ax b e).1; omega, fun b e => by have := (HD2.out.ay b e).1; omega, hbel.trans h2⟩
      · rw [List.take_of_length_le (by omega)]
        exact (q4.hiPut D 2 _ cD (by decide)).blank
      · rw [List.take_of_length_le (by omega)]
        exact (q5.hiPut D 2 _ cD (by decide)).blank
    case stop =>
      rintro D χ2 c pre W hD cD ag hch hp ⟨rfl, vx, vy, h1, ⟨h2, h3⟩, ⟨h4, h5⟩, h6, h7, h8, h9⟩ hK
      have hbel : Below w.heap.size w W := hb0.trans (hch.below (n := w.heap.size) (fun b hb => by rw [dcol_low hb]; omega) (by omega))
      clear hch ag
      gi_wp2
      refine ⟨by simp, .inl ⟨_, _, rfl, run_takeDeferred hK, ?_⟩⟩
      have c1 : (W.putObj D (.deferred none)).cell? ⟨w.heap.size + 1, 0, none⟩ = some vx := (World.cell?_of_block (World.putObj_heap_other (by show w.heap.size + 1 ≠ D; omega))).trans h3
      have c2 : (W.putObj D (.deferred none)).cell? ⟨w.heap.size + 1 + 1, 0, none⟩ = some vy := (World.cell?_of_block (World.putObj_heap_other (by show w.heap.size + 1 + 1 ≠ D; omega))).trans h5
      have hb2 : Below w.heap.size W (W.putObj D (.deferred none)) := ⟨rfl, rfl, rfl, by simp, fun b hb => World.putObj_heap_other (by omega)⟩
      have htk : L.take m.toNat = pre := by rw [show m.toNat = pre.length by omega]; exact (List.prefix_iff_eq_take.1 hp).symm
      refine ⟨.tuple #[vx, vy], by simp [results, Try.results19, go_sem, c1, c2], _, _, rfl, ?_, ?_, h8, h9, hbel.trans hb2⟩
      · rw [htk]; exact (h6.hiPut D 2 _ cD (by decide)).blank
      · rw [htk]; exact (h7.hiPut D 2 _ cD (by decide)).blank
end Go.Proofs.Ytipdmnfkigoanaa
