import Derived.Test.YtipdmnfkigoanaaRwN
namespace Go.Proofs.Ytipdmnfkigoanaa
open Go.RowKit Go.Maps
attribute [local go_sem] World.cell?_alloc_some frozen_alloc_some

/-! The document's example. -/
def cA : Cl := ⟨1, 5, by decide, by decide⟩
def cB : Cl := ⟨0, 5, by decide, by decide⟩
def c9 : Cl := ⟨9, 0, by decide, by decide⟩
theorem NewK.at_ {n : Nat} {w : World} {v : Value} {l : List Cl} (h : NewK n w v l) (hl : 0 < l.length) : ∃ g cap, v = .slice (some ⟨g, 0, none⟩) l.length cap ∧ g < w.heap.size := by
  obtain ⟨g, cap, e, h1, h2⟩ := World.ownsRow.form h hl
  exact ⟨g, cap, e, h2⟩
theorem NewI.at_ {n : Nat} {w : World} {v : Value} {l : List Int} (h : NewI n w v l) (hl : 0 < l.length) : ∃ g cap, v = .slice (some ⟨g, 0, none⟩) l.length cap ∧ g < w.heap.size := by
  obtain ⟨g, cap, e, h1, h2⟩ := World.ownsRow.form h hl
  exact ⟨g, cap, e, h2⟩
theorem NewI.cell {n g k cap : Nat} {w : World} {l : List Int} (h : NewI n w (.slice (some ⟨g, 0, none⟩) k cap) l) (i : Nat) (hi : i < l.length) : w.cell? ⟨g, i, none⟩ = some (.int .i64 l[i]) := by
  have := World.ownsRow.cells h (g := g) rfl i (.int .i64 l[i]) (by simp [hi])
  have e : (⟨g, 0, none⟩ : Addr).add i = ⟨g, i, none⟩ := by simp only [Addr.add]; split <;> simp_all
  rwa [e] at this
variable {w : World} {χ χ' : Col} {W W' : World} {rb : Nat} {L L' : RL} {ev ev' : List Cl} {last last' : Nat}
/-- Slices of the law's own, beside the rows. -/
structure KpK (χ : Col) (W : World) (v : Value) (l : List Cl) : Prop where
  own : NewK 0 W v l
  col : ∀ b, v.ownBlock = some b → χ b ≠ 1
structure KpI (χ : Col) (W : World) (v : Value) (l : List Int) : Prop where
  own : NewI 0 W v l
  col : ∀ b, v.ownBlock = some b → χ b ≠ 1
theorem KpK.of {v : Value} {l : List Cl} (h : NewK W.heap.size W' v l) : KpK (paint χ W.heap.size 5) W' v l := ⟨h.mono (Nat.zero_le _), fun b e => by rw [paint_high (World.ownsRow.lt h b e).1]; omega⟩
theorem KpI.of {v : Value} {l : List Int} (h : NewI W.heap.size W' v l) : KpI (paint χ W.heap.size 5) W' v l := ⟨h.mono (Nat.zero_le _), fun b e => by rw [paint_high (World.ownsRow.lt h b e).1]; omega⟩
theorem KpK.turn {v : Value} {l : List Cl} (h : KpK χ W v l) (ag : ∀ b, b < W.heap.size → χ' b = χ b) (hc : Chg χ (· = 1) W W') : KpK χ' W' v l :=
  ⟨owns_same h.own fun b e => hc.blk b (World.ownsRow.lt h.own b e).2 (h.col b e), fun b e => by rw [ag b (World.ownsRow.lt h.own b e).2]; exact h.col b e⟩
theorem KpI.turn {v : Value} {l : List Int} (h : KpI χ W v l) (ag : ∀ b, b < W.heap.size → χ' b = χ b) (hc : Chg χ (· = 1) W W') : KpI χ' W' v l :=
  ⟨owns_same h.own fun b e => hc.blk b (World.ownsRow.lt h.own b e).2 (h.col b e), fun b e => by rw [ag b (World.ownsRow.lt h.own b e).2]; exact h.col b e⟩
theorem KpK.below {v : Value} {l : List Cl} (h : KpK χ W v l) (hb : Below W.heap.size W W') (c : Nat) : KpK (paint χ W.heap.size c) W' v l := ⟨h.own.keep hb, fun b e => by rw [paint_low (World.ownsRow.lt h.own b e).2]; exact h.col b e⟩
theorem KpI.below {v : Value} {l : List Int} (h : KpI χ W v l) (hb : Below W.heap.size W W') (c : Nat) : KpI (paint χ W.heap.size c) W' v l := ⟨h.own.keep hb, fun b e => by rw [paint_low (World.ownsRow.lt h.own b e).2]; exact h.col b e⟩
abbrev SAB (W : World) (ba bb : Nat) : Prop := (W.cell? ⟨ba, 0, none⟩ = some (.int .i64 1) ∧ W.cell? ⟨ba, 1, none⟩ = some (.int .u32 5)) ∧ W.cell? ⟨bb, 0, none⟩ = some (.int .i64 0) ∧ W.cell? ⟨bb, 1, none⟩ = some (.int .u32 5)
theorem sab {ba bb : Nat} (da : Dk χ W ba (.cells #[.int .i64 1, .int .u32 5] 36)) (db : Dk χ W bb (.cells #[.int .i64 0, .int .u32 5] 36)) : SAB W ba bb := ⟨(cells2 da.at_).1, (cells2 db.at_).1⟩
theorem a_put1 (h : Lr w χ W rb [] [] 0) : Calls Try.prog 11 #[.pointer (some ⟨rb, 0, none⟩), .agg #[.int .i64 1, .int .u32 5]] W fun e W' => e = .returned (.int .i64 1) ∧ RwTo 1 χ W W' rb 29 [] [(cA, 1)] [cA] 1 := l_put h cA 1 rfl (by decide)
theorem a_put2 (h : Lr w χ W rb [(cA, 1)] [cA] 1) : Calls Try.prog 11 #[.pointer (some ⟨rb, 0, none⟩), .agg #[.int .i64 0, .int .u32 5]] W fun e W' => e = .returned (.int .i64 2) ∧ RwTo 1 χ W W' rb 29 [] [(cA, 1), (cB, 2)] [cA, cB] 2 := l_put h cB 2 rfl (by decide)
theorem a_put3 (h : Lr w χ W rb [(cA, 1), (cB, 2)] [cA, cB] 2) : Calls Try.prog 11 #[.pointer (some ⟨rb, 0, none⟩), .agg #[.int .i64 1, .int .u32 5]] W fun e W' => e = .returned (.int .i64 3) ∧ RwTo 1 χ W W' rb 29 [] [(cB, 2), (cA, 3)] [cA, cB] 3 := l_put h cA 3 rfl (by decide)
theorem a_ver (h : Lr w χ W rb [(cB, 2), (cA, 3)] [cA, cB] 3) : Calls Try.prog 14 #[.pointer (some ⟨rb, 0, none⟩), .agg #[.int .i64 1, .int .u32 5]] W fun e W' => e = .returned (.tuple #[.int .i64 3, .bool true]) ∧ Below W.heap.size W W' := l_ver h cA 3 true rfl rfl
theorem a_drop1 (h : Lr w χ W rb [(cB, 2), (cA, 3)] [cA, cB] 3) : Calls Try.prog 13 #[.pointer (some ⟨rb, 0, none⟩), .agg #[.int .i64 0, .int .u32 5]] W fun e W' => e = .returned (.bool true) ∧ RwTo 1 χ W W' rb 29 [] [(cA, 3)] [cA, cB] 3 := l_drop h cB true rfl
theorem a_drop2 (h : Lr w χ W rb [(cA, 3)] [cA, cB] 3) : Calls Try.prog 13 #[.pointer (some ⟨rb, 0, none⟩), .agg #[.int .i64 0, .int .u32 5]] W fun e W' => e = .returned (.bool false) ∧ RwTo 1 χ W W' rb 29 [] [(cA, 3)] [cA, cB] 3 := l_drop h cB false rfl
theorem a_seen1 (h : Lr w χ W rb [(cA, 3)] [cA, cB] 3) : Calls Try.prog 15 #[.pointer (some ⟨rb, 0, none⟩), .agg #[.int .i64 0, .int .u32 5]] W fun e W' => e = .returned (.bool true) ∧ Below W.heap.size W W' := l_seen h cB true rfl
theorem a_seen2 (h : Lr w χ W rb [(cA, 3)] [cA, cB] 3) : Calls Try.prog 15 #[.pointer (some ⟨rb, 0, none⟩), .agg #[.int .i64 9, .int .u32 0]] W fun e W' => e = .returned (.bool false) ∧ Below W.heap.size W W' := l_seen h c9 false rfl
theorem s10 {ba bb gx cx gy cy gi ci : Nat} (da : Dk χ W ba (.cells #[.int .i64 1, .int .u32 5] 36)) (db : Dk χ W bb (.cells #[.int .i64 0, .int .u32 5] 36)) (x : KpK χ W (.slice (some ⟨gx, 0, none⟩) 2 cx) [cB, cA]) (y : KpI χ W (.slice (some ⟨gy, 0, none⟩) 2 cy) [2, 3]) (i : KpI χ W (.slice (some ⟨gi, 0, none⟩) 1 ci) [2]) :
    (W.cell? ⟨gx, 2, none⟩ = some (.int .i64 1) ∧ W.cell? ⟨gx, 3, none⟩ = some (.int .u32 5)) ∧ (W.cell? ⟨ba, 0, none⟩ = some (.int .i64 1) ∧ W.cell? ⟨ba, 1, none⟩ = some (.int .u32 5)) ∧ W.cell? ⟨gy, 0, none⟩ = some (.int .i64 2) ∧ W.cell? ⟨gi, 0, none⟩ = some (.int .i64 2) ∧ W.cell? ⟨bb, 0, none⟩ = some (.int .i64 0) ∧ W.cell? ⟨bb, 1, none⟩ = some (.int .u32 5) := by
  obtain ⟨b, o, e, h1, h2⟩ := (x.own.rd (by decide)).get 1 (by decide)
  cases e
  exact ⟨⟨h1, h2⟩, (cells2 da.at_).1, y.own.cell 0 (by decide), i.own.cell 0 (by decide), (cells2 db.at_).1⟩
set_option maxRecDepth 100000 in
set_option maxHeartbeats 8000000 in
theorem alive_calls (w : World) : Calls Try.prog 7 #[] w fun e w' => e = .returned (.bool true) ∧ Below w.heap.size w w' := by
  have K := Lr.new w w (fun _ => 0) (Below.refl _ _) fun _ _ => rfl
  have hb1 := (Below.refl (w.alloc (.cells #[.map none, .map none, .int .i64 0] 29)).heap.size (w.alloc (.cells #[.map none, .map none, .int .i64 0] 29))).alloc (Nat.le_refl _) (.cells #[.int .i64 1, .int .u32 5] 36)
  have K1 := K.below hb1 5
  have DA1 : Dk (paint (paint (fun _ => 0) w.heap.size 1) (w.alloc (.cells #[.map none, .map none, .int .i64 0] 29)).heap.size 5) _ _ _ := ⟨by rw [paint_high (Nat.le_refl _)]; omega, heap_alloc_at (w.alloc (.cells #[.map none, .map none, .int .i64 0] 29)) (.cells #[.int .i64 1, .int .u32 5] 36)⟩
  have hb2 := (Below.refl ((w.alloc (.cells #[.map none, .map none, .int .i64 0] 29)).alloc (.cells #[.int .i64 1, .int .u32 5] 36)).heap.size ((w.alloc (.cells #[.map none, .map none, .int .i64 0] 29)).alloc (.cells #[.int .i64 1, .int .u32 5] 36))).alloc (Nat.le_refl _) (.cells #[.int .i64 0, .int .u32 5] 36)
  have K2 := K1.below hb2 5
  have DA2 := DA1.below hb2 5
  have DB2 : Dk (paint (paint (paint (fun _ => 0) w.heap.size 1) (w.alloc (.cells #[.map none, .map none, .int .i64 0] 29)).heap.size 5) ((w.alloc (.cells #[.map none, .map none, .int .i64 0] 29)).alloc (.cells #[.int .i64 1, .int .u32 5] 36)).heap.size 5) _ _ _ := ⟨by rw [paint_high (Nat.le_refl _)]; omega, heap_alloc_at ((w.alloc (.cells #[.map none, .map none, .int .i64 0] 29)).alloc (.cells #[.int .i64 1, .int .u32 5] 36)) (.cells #[.int .i64 0, .int .u32 5] 36)⟩
  simp only [World.size_alloc] at DA2 DB2 K2
  clear K K1 DA1 hb1 hb2
  obtain ⟨χ2, hχ2⟩ : ∃ χ, χ = paint (paint (paint (fun _ => 0) w.heap.size 1) (w.heap.size + 1) 5) (w.heap.size + 1 + 1) 5 := ⟨_, rfl⟩
  rw [← hχ2] at DA2 DB2 K2
  clear hχ2
  go_enter Try.func7, Try.ntmps7
  go_wp2
  obtain ⟨W0, hW0⟩ : ∃ W, W = (((w.alloc (.cells #[.map none, .map none, .int .i64 0] 29)).alloc (.cells #[.int .i64 1, .int .u32 5] 36)).alloc (.cells #[.int .i64 0, .int .u32 5] 36)) := ⟨_, rfl⟩
  rw [← hW0] at DA2 DB2 K2 ⊢
  obtain ⟨bb, hbb⟩ : ∃ b, b = w.heap.size + 1 + 1 := ⟨_, rfl⟩
  rw [← hbb] at DB2 ⊢
  obtain ⟨ba, hba⟩ : ∃ b, b = w.heap.size + 1 := ⟨_, rfl⟩
  rw [← hba] at DA2 ⊢
  obtain ⟨rb, hrb⟩ : ∃ b, b = w.heap.size := ⟨_, rfl⟩
  have K2' : Lr w χ2 W0 rb [] [] 0 := by rw [hrb]; exact K2
  rw [← hrb]
  clear K2 hW0 hbb hba hrb
  have G0 : True := trivial
  have K3 := K2'.below (below_drew W0) 5
  have DA3 := DA2.below (below_drew W0) 5
  have DB3 := DB2.below (below_drew W0) 5
  have s3 := sab DA3 DB3
  clear K2' DA2 DB2
  first
    | (go_region_held3 (fun W => (W.cell? ⟨ba, 0, none⟩ = some (.int .i64 1) ∧ W.cell? ⟨ba, 1, none⟩ = some (.int .u32 5)) ∧ W.cell? ⟨bb, 0, none⟩ = some (.int .i64 0) ∧ W.cell? ⟨bb, 1, none⟩ = some (.int .u32 5))
        (first | with_reducible exact s3 | with_reducible exact s4 | with_reducible exact s5 | with_reducible exact s6)
        (first
          | (go_at_call 11; have hS := K5; refine (a_put3 K5).mono ?_; rintro e W6 ⟨rfl, hs⟩; obtain ⟨χ6, ag, ch, K6⟩ := K5.turn hs; have DA6 := DA5.turn ag ch; have DB6 := DB5.turn ag ch; have s6 := sab DA6 DB6)
          | (go_at_call 11; have hS := K4; refine (a_put2 K4).mono ?_; rintro e W5 ⟨rfl, hs⟩; obtain ⟨χ5, ag, ch, K5⟩ := K4.turn hs; have DA5 := DA4.turn ag ch; have DB5 := DB4.turn ag ch; have s5 := sab DA5 DB5)
          | (go_at_call 11; clear G0; refine (a_put1 K3).mono ?_; rintro e W4 ⟨rfl, hs⟩; obtain ⟨χ4, ag, ch, K4⟩ := K3.turn hs; have DA4 := DA3.turn ag ch; have DB4 := DB3.turn ag ch; have s4 := sab DA4 DB4)))
    | fail
  clear K3 K4 K5 DA3 DB3 DA4 DB4 DA5 DB5 s3 s4 s5
  obtain ⟨⟨x0, x1⟩, -⟩ := s6
  go_wp2_with fail
  refine (a_ver K6).mono ?_
  rintro e W7 ⟨rfl, hb7⟩
  have K7 := K6.below hb7 5
  have DA7 := DA6.below hb7 5
  have DB7 := DB6.below hb7 5
  clear K6 DA6 DB6 x0 x1 hb7
  go_wp2_with fail
  refine (l_cells K7 9 (by decide) (by decide)).mono ?_
  rintro e W8 ⟨vx, vy, rfl, hx, hy, hb8⟩
  have K8 := K7.below hb8 5
  have DA8 := DA7.below hb8 5
  have DB8 := DB7.below hb8 5
  have hx : NewK W7.heap.size W8 vx [cB, cA] := hx
  have hy : NewI W7.heap.size W8 vy [2, 3] := hy
  have X8 := KpK.of (χ := paint χ6 W6.heap.size 5) hx
  have Y8 := KpI.of (χ := paint χ6 W6.heap.size 5) hy
  clear K7 DA7 DB7 hx hy hb8
  obtain ⟨gx, cx, rfl, -⟩ := X8.own.at_ (by decide)
  obtain ⟨gy, cy, rfl, -⟩ := Y8.own.at_ (by decide)
  have hb9 := ((Below.refl W8.heap.size W8).alloc (Nat.le_refl _) (.cells #[.int .u32 0, .int .u32 9] 63)).alloc (by simp) (.cells #[.slice (some ⟨W8.heap.size, 0, none⟩) 1 1] 64)
  have K9 := K8.below hb9 5
  have DA9 := DA8.below hb9 5
  have DB9 := DB8.below hb9 5
  have X9 := X8.below hb9 5
  have Y9 := Y8.below hb9 5
  have hA : RdA ((W8.alloc (.cells #[.int .u32 0, .int .u32 9] 63)).alloc (.cells #[.slice (some ⟨W8.heap.size, 0, none⟩) 1 1] 64)) (.slice (some ⟨W8.heap.size + 1, 0, none⟩) 1 1) [[(0, 9)]] := by
    have h1 : ((W8.alloc (.cells #[.int .u32 0, .int .u32 9] 63)).alloc (.cells #[.slice (some ⟨W8.heap.size, 0, none⟩) 1 1] 64)).heap[W8.heap.size]? = some (.cells #[.int .u32 0, .int .u32 9] 63) := (Below.heap_alloc _ _ _ (by simp)).trans (heap_alloc_at _ _)
    have h2 : ((W8.alloc (.cells #[.int .u32 0, .int .u32 9] 63)).alloc (.cells #[.slice (some ⟨W8.heap.size, 0, none⟩) 1 1] 64)).heap[W8.heap.size + 1]? = some (.cells #[.slice (some ⟨W8.heap.size, 0, none⟩) 1 1] 64) := by
      have := heap_alloc_at (W8.alloc (.cells #[.int .u32 0, .int .u32 9] 63)) (.cells #[.slice (some ⟨W8.heap.size, 0, none⟩) 1 1] 64)
      rwa [World.size_alloc] at this
    refine ⟨_, _, rfl, by simp, by unfold maxLen; simp, ⟨by simp, fun e => (by cases e)⟩, fun i hi => ⟨W8.heap.size + 1, 0, [.slice (some ⟨W8.heap.size, 0, none⟩) 1 1], rfl, rfl, rfl, ⟨_, rfl, ?_⟩, fun j hj => ?_⟩⟩
    · have hi0 : i = 0 := by simpa using hi
      subst hi0
      refine ⟨_, _, rfl, by simp, by unfold maxLen; simp, ⟨by simp, fun e => (by cases e)⟩, fun i hi => ⟨W8.heap.size, 0, [.int .u32 0, .int .u32 9], rfl, rfl, rfl, ?_, fun j hj => ?_⟩⟩
      · have hi0 : i = 0 := by simpa using hi
        subst hi0
        exact ⟨rfl, (by show (0 : Nat) < _; omega), (by show (9 : Nat) < _; omega)⟩
      · have hi0 : i = 0 := by simpa using hi
        subst hi0
        have hj2 : j = 0 ∨ j = 1 := by simp at hj; omega
        rcases hj2 with rfl | rfl <;> simp [World.cell?, h1]
    · have hi0 : i = 0 := by simpa using hi
      have hj0 : j = 0 := by simpa using hj
      subst hi0 hj0
      show World.cell? _ ⟨W8.heap.size + 1, 0, none⟩ = _
      unfold World.cell?
      simp only [h2]
      rfl
  have HA := Lib.hid hA
  clear K8 DA8 DB8 X8 Y8 hb9 hA
  go_wp2_with fail
  refine (l_in K9 _ [[(0, 9)]] HA.out (by decide)).mono ?_
  rintro e W10 ⟨vi, rfl, hi, hb10⟩
  have hi : NewI _ W10 vi [2] := hi
  have K10 := K9.below hb10 5
  have DA10 := DA9.below hb10 5
  have DB10 := DB9.below hb10 5
  have X10 := X9.below hb10 5
  have Y10 := Y9.below hb10 5
  have I10 := KpI.of (χ := paint (paint (paint χ6 W6.heap.size 5) W7.heap.size 5) W8.heap.size 5) hi
  clear K9 DA9 DB9 X9 Y9 hb10 hi HA
  obtain ⟨gi, ci, rfl, -⟩ := I10.own.at_ (by decide)
  go_wp2
  have K11 := K10.below (below_drew W10) 5
  have DA11 := DA10.below (below_drew W10) 5
  have DB11 := DB10.below (below_drew W10) 5
  have X11 := X10.below (below_drew W10) 5
  have Y11 := Y10.below (below_drew W10) 5
  have I11 := I10.below (below_drew W10) 5
  have G0 : True := trivial
  have s11 := (cells2 DB11.at_).1
  clear K10 DA10 DB10 X10 Y10 I10
  first
    | (go_region_held3 (fun W => W.cell? ⟨bb, 0, none⟩ = some (.int .i64 0) ∧ W.cell? ⟨bb, 1, none⟩ = some (.int .u32 5))
        (first | with_reducible exact s11 | with_reducible exact s12 | with_reducible exact s13)
        (first
          | (go_at_call 13; have hS := K12; refine (a_drop2 K12).mono ?_; rintro e W13 ⟨rfl, hs⟩; obtain ⟨χ13, ag, ch, K13⟩ := K12.turn hs; have DA13 := DA12.turn ag ch; have DB13 := DB12.turn ag ch; have X13 := X12.turn ag ch; have Y13 := Y12.turn ag ch; have I13 := I12.turn ag ch; have s13 := (cells2 DB13.at_).1)
          | (go_at_call 13; clear G0; refine (a_drop1 K11).mono ?_; rintro e W12 ⟨rfl, hs⟩; obtain ⟨χ12, ag, ch, K12⟩ := K11.turn hs; have DA12 := DA11.turn ag ch; have DB12 := DB11.turn ag ch; have X12 := X11.turn ag ch; have Y12 := Y11.turn ag ch; have I12 := I11.turn ag ch; have s12 := (cells2 DB12.at_).1)))
    | fail
  clear K11 K12 DA11 DB11 DA12 DB12 X11 Y11 I11 X12 Y12 I12 s11 s12 s13
  go_wp2
  have K14 := K13.below (below_drew W13) 5
  have DA14 := DA13.below (below_drew W13) 5
  have DB14 := DB13.below (below_drew W13) 5
  have X14 := X13.below (below_drew W13) 5
  have Y14 := Y13.below (below_drew W13) 5
  have I14 := I13.below (below_drew W13) 5
  have G0 : True := trivial
  have s14 := s10 DA14 DB14 X14 Y14 I14
  clear K13 DA13 DB13 X13 Y13 I13
  first
    | (go_region_held3 (fun W => (W.cell? ⟨gx, 2, none⟩ = some (.int .i64 1) ∧ W.cell? ⟨gx, 3, none⟩ = some (.int .u32 5)) ∧ (W.cell? ⟨ba, 0, none⟩ = some (.int .i64 1) ∧ W.cell? ⟨ba, 1, none⟩ = some (.int .u32 5)) ∧ W.cell? ⟨gy, 0, none⟩ = some (.int .i64 2) ∧ W.cell? ⟨gi, 0, none⟩ = some (.int .i64 2) ∧ W.cell? ⟨bb, 0, none⟩ = some (.int .i64 0) ∧ W.cell? ⟨bb, 1, none⟩ = some (.int .u32 5))
        (first | with_reducible exact s14 | with_reducible exact s15 | with_reducible exact s16)
        (first
          | (go_at_call 17; refine (l_ever K16 2 rfl).mono ?_; rintro e W18 ⟨rfl, rfl⟩)
          | (go_at_call 20; refine (l_live K16 1 rfl).mono ?_; rintro e W17 ⟨rfl, rfl⟩)
          | (go_at_call 15; have hS := K15; refine (a_seen2 K15).mono ?_; rintro e W16 ⟨rfl, hb⟩; have K16 := K15.below hb 5; have s16 := s10 (DA15.below hb 5) (DB15.below hb 5) (X15.below hb 5) (Y15.below hb 5) (I15.below hb 5))
          | (go_at_call 15; clear G0; refine (a_seen1 K14).mono ?_; rintro e W15 ⟨rfl, hb⟩; have K15 := K14.below hb 5; have DA15 := DA14.below hb 5; have DB15 := DB14.below hb 5; have X15 := X14.below hb 5; have Y15 := Y14.below hb 5; have I15 := I14.below hb 5; have s15 := s10 DA15 DB15 X15 Y15 I15)))
    | fail
  all_goals
    go_wp2
    go_ret
    exact ⟨rfl, K16.bel⟩
end Go.Proofs.Ytipdmnfkigoanaa
