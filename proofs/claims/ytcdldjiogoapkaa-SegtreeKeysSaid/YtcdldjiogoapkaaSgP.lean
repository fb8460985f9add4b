import Derived.Test.YtcdldjiogoapkaaSgO
namespace Go.Proofs.Ytcdldjiogoapkaa
open Go.RowKit
attribute [local go_sem] World.cell?_alloc_some frozen_alloc_some field_na field_ac field_as

theorem whole_calls (w : World) : Calls Try.prog 35 #[] w fun e w' => e = .returned (blk 0 32) ∧ Below w.heap.size w w' := by
  go_enter Try.func35, Try.ntmps35
  go_wp2
  refine bodyPost_ret (v := blk 0 32) (by simp [results, Try.results35, go_sem]) rfl ⟨rfl, ?_⟩
  repeat (first | exact Below.refl _ _ | exact (Below.refl _ _).alloc (Nat.le_refl _) _)

theorem setAW_chg {χ : Col} {C : Nat → Prop} (w : World) (g : Nat) (n : Ag) (hc : C (χ g)) : Chg χ C w (setAW w g n) :=
  (((Chg.setCell w ⟨g, 0, none⟩ _ hc).step (Chg.setCell _ ⟨g, 1, none⟩ _ hc)).step (Chg.setCell _ ⟨g, 2, none⟩ _ hc)).step (Chg.setCell _ ⟨g, 3, none⟩ _ hc)

theorem spanLoc {c pt slo shi bs : Nat} {w0 W : World} {χ0 χ : Col} {ns : List Nd} {root lim : Int} (K : Trk c χ0 w0 χ W pt ns root lim) (S : Loc c w0 χ W bs (BoxS slo shi)) :
    W.cell? ⟨pt, 1, none⟩ = some (.int .i32 root) ∧ W.cell? ⟨bs, 0, none⟩ = some (.int .u32 slo) ∧ W.cell? ⟨bs, 1, none⟩ = some (.int .u32 shi) := by
  obtain ⟨⟨e0, e1⟩, -⟩ := cells2 S.at_
  obtain ⟨qa, -, -, -, h3, -⟩ := K.tr
  exact ⟨h3, e0, e1⟩

theorem spanLocA {c pt slo shi bs bx : Nat} {w0 W : World} {χ0 χ : Col} {ns : List Nd} {root lim : Int} {cs : Array Value} {t : TypeId} (K : Trk c χ0 w0 χ W pt ns root lim) (S : Loc c w0 χ W bs (BoxS slo shi)) (R : Loc c w0 χ W bx (.cells cs t)) (n : Ag) (hb : bs ≠ bx) :
    (((((W.setCell ⟨bx, 0, none⟩ (.int .i64 n.c)).setCell ⟨bx, 1, none⟩ (.int .i64 n.s)).setCell ⟨bx, 2, none⟩ (.int .i64 n.mn)).setCell ⟨bx, 3, none⟩ (.int .i64 n.mx))).cell? ⟨pt, 1, none⟩ = some (.int .i32 root) ∧
    (((((W.setCell ⟨bx, 0, none⟩ (.int .i64 n.c)).setCell ⟨bx, 1, none⟩ (.int .i64 n.s)).setCell ⟨bx, 2, none⟩ (.int .i64 n.mn)).setCell ⟨bx, 3, none⟩ (.int .i64 n.mx))).cell? ⟨bs, 0, none⟩ = some (.int .u32 slo) ∧
    (((((W.setCell ⟨bx, 0, none⟩ (.int .i64 n.c)).setCell ⟨bx, 1, none⟩ (.int .i64 n.s)).setCell ⟨bx, 2, none⟩ (.int .i64 n.mn)).setCell ⟨bx, 3, none⟩ (.int .i64 n.mx))).cell? ⟨bs, 1, none⟩ = some (.int .u32 shi) :=
  spanLoc (K.setAW R n) (S.oA hb n)

set_option maxRecDepth 100000 in
set_option maxHeartbeats 4000000 in
theorem tfold_calls (w : World) (pt slo shi : Nat) {c : Nat} {χ : Col} {ns : List Nd} {root lim : Int} (h : TrAt c χ w pt ns root lim) (hok : OkN ns) (i0 : 0 ≤ root) (i1 : root ≤ ns.length) :
    Calls Try.prog 18 #[.pointer (some ⟨pt, 0, none⟩), spn slo shi] w fun e w' =>
      e = .returned (foldT slo shi 32 ns root 0).1.val ∧ TrTo c χ w w' pt (foldT slo shi 32 ns root 0).2 root lim := by
  have hfo := fold_ok slo shi 32 ns root 0 hok i0 i1 (by decide)
  obtain ⟨Z, hZ⟩ : ∃ Z, Z = foldT slo shi 32 ns root 0 := ⟨_, rfl⟩
  have HS : Hid (∀ (W : World) (χ' : Col), TrAt c χ' W pt ns root lim → Calls Try.prog 36 #[.pointer (some ⟨pt, 0, none⟩), .int .i32 root, blk 0 32, spn slo shi] W fun e w' =>
      e = .returned Z.1.val ∧ TrTo c χ' W w' pt Z.2 root lim) := fun W χ' hT => by rw [hZ]; exact fold_calls slo shi 32 (Nat.le_refl _) W root 0 hT hfo
  rw [← hZ]
  clear hZ hfo
  have K1 := (Trk.start h).below ((Below.refl _ w).alloc (Nat.le_refl _) (BoxS slo shi))
  have S1 := Loc.new (Trk.start h) (BoxS slo shi)
  have K2 := K1.below ((Below.refl _ _).alloc (Nat.le_refl _) (BoxA Ag.zero))
  have S2 := S1.below ((Below.refl _ _).alloc (Nat.le_refl _) (BoxA Ag.zero))
  have R2 := Loc.new K1 (BoxA Ag.zero)
  clear K1 S1
  rw [World.size_alloc] at R2
  go_enter Try.func18, Try.ntmps18
  go_wp2
  obtain ⟨χ2, hχ2⟩ : ∃ χ2, χ2 = paint (paint χ w.heap.size (c + 3)) (w.alloc (BoxS slo shi)).heap.size (c + 3) := ⟨_, rfl⟩
  rw [World.size_alloc] at hχ2
  rw [← hχ2] at R2
  rw [← World.size_alloc w (BoxS slo shi)] at hχ2
  rw [← hχ2] at K2 S2
  obtain ⟨W2, hW2⟩ : ∃ W2, W2 = (w.alloc (BoxS slo shi)).alloc (BoxA Ag.zero) := ⟨_, rfl⟩
  rw [← hW2] at K2 S2 R2
  have hW3 : (w.alloc (.cells #[.int .u32 slo, .int .u32 shi] 36)).alloc (.cells #[.int .i64 0, .int .i64 0, .int .i64 0, .int .i64 0] 38) = W2 := hW2.symm
  rw [hW3]
  clear hW2 hW3 hχ2
  have nS := S2.ne R2 (by simp)
  obtain ⟨bs, hbs⟩ : ∃ bs, bs = w.heap.size := ⟨_, rfl⟩
  obtain ⟨bx, hbx⟩ : ∃ bx, bx = w.heap.size + 1 := ⟨_, rfl⟩
  rw [← hbx] at R2 nS ⊢
  rw [← hbs] at S2 nS ⊢
  clear hbs hbx
  have K3 := K2.drew
  have S3 := S2.drew
  have R3 := R2.drew
  have c3 := spanLoc K3 S3
  clear K2 S2 R2
  first
    | (go_region_held3 (fun W => W.cell? ⟨pt, 1, none⟩ = some (.int .i32 root) ∧ W.cell? ⟨bs, 0, none⟩ = some (.int .u32 slo) ∧ W.cell? ⟨bs, 1, none⟩ = some (.int .u32 shi))
        (first | with_reducible exact c3 | with_reducible exact c4 | with_reducible exact c5 | with_reducible exact c6)
        (first
          | (go_at_call 36; have hS := K4; refine (HS.out _ _ K4.tr).mono ?_; rintro e w5 ⟨rfl, hT5⟩; obtain ⟨χ5, ag, K5, ch⟩ := K4.call hT5; have R5 := R4.call ag ch; have S5 := S4.call ag ch; have c5 := spanLoc K5 S5; have c6 := spanLocA K5 S5 R5 Z.1 nS; obtain ⟨⟨x0, x1, x2, x3⟩, y0, y1, y2, y3⟩ := cells4 R5.at_; simp only [Ag.val])
          | (go_at_call 35; refine (whole_calls _).mono ?_; rintro e w4 ⟨rfl, hb4⟩; have K4 := K3.below hb4; have R4 := R3.below hb4; have S4 := S3.below hb4; have c4 := spanLoc K4 S4)))
    | fail
  all_goals
    go_wp2
    refine bodyPost_ret (v := Z.1.val) (by simp [results, Try.results18, go_sem, *]) rfl ⟨rfl, ?_⟩
    exact (K5.setAW R5 Z.1).to
end Go.Proofs.Ytcdldjiogoapkaa
