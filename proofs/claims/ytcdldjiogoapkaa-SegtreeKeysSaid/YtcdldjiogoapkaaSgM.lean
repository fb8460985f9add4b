import Derived.Test.YtcdldjiogoapkaaSgL
namespace Go.Proofs.Ytcdldjiogoapkaa
open Go.RowKit
attribute [local go_sem] World.cell?_alloc_some frozen_alloc_some field_na field_ac field_as

theorem foldLoc {c h lo lo2 slo shi bn bl br bs : Nat} {w0 W : World} {χ : Col} {n : Nd} (N : Loc c w0 χ W bn (BoxN n)) (L : Loc c w0 χ W bl (BoxB lo h)) (Q : Loc c w0 χ W br (BoxB lo2 h)) (T : Loc c w0 χ W bs (BoxS slo shi)) :
    W.cell? ⟨bn, 0, none⟩ = some (.int .i32 n.l) ∧ W.cell? ⟨bn, 1, none⟩ = some (.int .i32 n.r) ∧ W.cell? ⟨bl, 0, none⟩ = some (.int .u32 lo) ∧ W.cell? ⟨bl, 1, none⟩ = some (.int .i64 h) ∧
      W.cell? ⟨br, 0, none⟩ = some (.int .u32 lo2) ∧ W.cell? ⟨br, 1, none⟩ = some (.int .i64 h) ∧ W.cell? ⟨bs, 0, none⟩ = some (.int .u32 slo) ∧ W.cell? ⟨bs, 1, none⟩ = some (.int .u32 shi) := by
  obtain ⟨⟨a0, a1, -⟩, -⟩ := cells7 N.at_
  obtain ⟨⟨b0, b1⟩, -⟩ := cells2 L.at_
  obtain ⟨⟨d0, d1⟩, -⟩ := cells2 Q.at_
  obtain ⟨⟨e0, e1⟩, -⟩ := cells2 T.at_
  exact ⟨a0, a1, b0, b1, d0, d1, e0, e1⟩
theorem Loc.oA {c b b' : Nat} {w0 W : World} {χ : Col} {o : Obj} (l : Loc c w0 χ W b o) (hb : b ≠ b') (n : Ag) : Loc c w0 χ (((((W.setCell ⟨b', 0, none⟩ (.int .i64 n.c)).setCell ⟨b', 1, none⟩ (.int .i64 n.s)).setCell ⟨b', 2, none⟩ (.int .i64 n.mn)).setCell ⟨b', 3, none⟩ (.int .i64 n.mx))) b o :=
  (((l.other hb 0 _).other hb 1 _).other hb 2 _).other hb 3 _
theorem Loc.ne {c b b' : Nat} {w0 W : World} {χ : Col} {o o' : Obj} (l : Loc c w0 χ W b o) (l' : Loc c w0 χ W b' o') (h : o ≠ o') : b ≠ b' := fun e => h (by have h1 := l.at_; rw [e, l'.at_] at h1; exact (Option.some.inj h1).symm)

set_option maxRecDepth 100000 in
set_option maxHeartbeats 8000000 in
theorem foldS (slo shi h : Nat) (hh : h < 32) {lim : Int}
    (ih : ∀ (w : World) {pt : Nat} (i : Int) (lo : Nat) {c : Nat} {χ : Col} {ns : List Nd} {root : Int}, TrAt c χ w pt ns root lim → foldOk slo shi h ns i lo →
      Calls Try.prog 36 #[.pointer (some ⟨pt, 0, none⟩), .int .i32 i, blk lo h, spn slo shi] w fun e w' =>
        e = .returned (foldT slo shi h ns i lo).1.val ∧ TrTo c χ w w' pt (foldT slo shi h ns i lo).2 root lim)
    (w : World) (pt : Nat) (i : Int) (lo : Nat) {c : Nat} {χ : Col} {ns : List Nd} {root : Int} (hT : TrAt c χ w pt ns root lim) (hi : 1 ≤ i) (i1 : i ≤ ns.length) (hok : OkN ns) (hl : lo + 2 ^ (h + 1) ≤ 4294967296)
    (ho : Hid (outB lo (h + 1) slo shi = false)) (hin : Hid (inB lo (h + 1) slo shi = false)) {p : Nd × List Nd} (hp : Hid (p = pushN ns i)) {lo2 : Nat} (hlo : Hid (lo2 = lo + 2 ^ h)) {A B : Ag × List Nd} (hA : Hid (A = foldT slo shi h p.2 p.1.l lo)) (hB : Hid (B = foldT slo shi h A.2 p.1.r lo2))
    (okA : foldOk slo shi h p.2 p.1.l lo) (okB : foldOk slo shi h A.2 p.1.r lo2) :
    Calls Try.prog 36 #[.pointer (some ⟨pt, 0, none⟩), .int .i32 i, blk lo (h + 1), spn slo shi] w fun e w' => e = .returned (Ag.merge A.1 B.1).val ∧ TrTo c χ w w' pt B.2 root lim := by
  obtain ⟨o1, o2, o3, hb0⟩ := fbox_at w lo (h + 1) slo shi
  have hne : ¬ i = 0 := by omega
  have K0 := (Trk.start hT).below hb0
  have S1 : Loc c w (paint χ w.heap.size (c + 3)) (fbox w lo (h + 1) slo shi) (w.heap.size + 1) (BoxS slo shi) := ⟨by omega, paint_high (by omega), o2⟩
  have R1 : Loc c w (paint χ w.heap.size (c + 3)) (fbox w lo (h + 1) slo shi) (w.heap.size + 1 + 1) (BoxA Ag.zero) := ⟨by omega, paint_high (by omega), o3⟩
  have B1 : Loc c w (paint χ w.heap.size (c + 3)) (fbox w lo (h + 1) slo shi) w.heap.size (BoxB lo (h + 1)) := ⟨by omega, paint_high (by omega), o1⟩
  have IH := Lib.hid @ih
  clear ih hT o1 o2 o3
  go_enter Try.func36, Try.ntmps36
  go_wp2_with fail
  refine (outside_calls _ lo (h + 1) slo shi (by omega) hl).mono ?_
  rintro e w1 ⟨rfl, hb1⟩
  rw [ho.out]
  have K1 := K0.below hb1
  have R2 := R1.below hb1
  have S2 := S1.below hb1
  have B2 := B1.below hb1
  clear K0 R1 S1 B1 hb1
  obtain ⟨⟨b0, b1⟩, -, -⟩ := cells2 B2.at_
  obtain ⟨⟨s0, s1⟩, -, -⟩ := cells2 S2.at_
  go_wp2_with fail
  refine (inside_calls _ lo (h + 1) slo shi (by omega) hl).mono ?_
  rintro e w2 ⟨rfl, hb2⟩
  rw [hin.out]
  have K2 := K1.below hb2
  have R3 := R2.below hb2
  have S3 := S2.below hb2
  have B3 := B2.below hb2
  clear K1 R2 S2 B2 hb2 b0 b1 s0 s1
  go_wp2_with fail
  have HP := push_calls w2 pt i K2.tr hok hi i1
  rw [← hp.out] at HP
  refine HP.mono ?_
  rintro e w3 ⟨rfl, hT3⟩
  obtain ⟨χ3, ag, K3, ch⟩ := K2.call hT3
  have R4 := R3.call ag ch
  have S4 := S3.call ag ch
  have B4 := B3.call ag ch
  clear K2 R3 S3 B3 ag ch HP hT3
  have K5 := K3.below ((Below.refl _ w3).alloc (Nat.le_refl _) (BoxN p.1))
  have R5 := R4.below ((Below.refl _ w3).alloc (Nat.le_refl _) (BoxN p.1))
  have S5 := S4.below ((Below.refl _ w3).alloc (Nat.le_refl _) (BoxN p.1))
  have B5 := B4.below ((Below.refl _ w3).alloc (Nat.le_refl _) (BoxN p.1))
  have N5 := Loc.new K3 (BoxN p.1)
  clear K3 R4 S4 B4
  obtain ⟨⟨b0, b1⟩, -, -⟩ := cells2 (kept_at (w := w3.alloc (BoxN p.1)) (Below.refl _ _) B5.at_)
  go_wp2_with fail
  refine (halves_calls _ lo h hh hl).mono ?_
  rw [← hlo.out]
  rintro e w4 ⟨rfl, hb4⟩
  have K6 := K5.below hb4
  have R6 := R5.below hb4
  have S6 := S5.below hb4
  have N6 := N5.below hb4
  clear K5 R5 S5 N5 B5 b0 b1
  have ha1 : Below w4.heap.size w4 (w4.alloc (BoxB lo h)) := (Below.refl _ w4).alloc (Nat.le_refl _) _
  have L7 := Loc.new K6 (BoxB lo h)
  have K7 := K6.below ha1
  have R7 := R6.below ha1
  have S7 := S6.below ha1
  have N7 := N6.below ha1
  have ha2 : Below (w4.alloc (BoxB lo h)).heap.size (w4.alloc (BoxB lo h)) ((w4.alloc (BoxB lo h)).alloc (BoxB lo2 h)) := (Below.refl _ _).alloc (Nat.le_refl _) _
  have Q8 := Loc.new K7 (BoxB lo2 h)
  have K8 := K7.below ha2
  have R8 := R7.below ha2
  have S8 := S7.below ha2
  have N8 := N7.below ha2
  have L8 := L7.below ha2
  clear K6 R6 S6 N6 L7 K7 R7 S7 N7 ha1 ha2
  go_wp2
  obtain ⟨W8, hW8⟩ : ∃ W8, W8 = (w4.alloc (BoxB lo h)).alloc (BoxB lo2 h) := ⟨_, rfl⟩
  obtain ⟨χ8, hχ8⟩ : ∃ χ8, χ8 = paint (paint (paint (paint χ3 w3.heap.size (c + 3)) (w3.alloc (BoxN p.1)).heap.size (c + 3)) w4.heap.size (c + 3)) (w4.alloc (BoxB lo h)).heap.size (c + 3) := ⟨_, rfl⟩
  rw [← hW8, ← hχ8] at K8 R8 S8 N8 L8 Q8
  rw [← hW8]
  clear hW8 hχ8
  rw [World.size_alloc] at Q8
  obtain ⟨bn, hbn⟩ : ∃ bn, bn = w3.heap.size := ⟨_, rfl⟩
  obtain ⟨bl, hbl⟩ : ∃ bl, bl = w4.heap.size := ⟨_, rfl⟩
  obtain ⟨bs, hbs⟩ : ∃ bs, bs = w.heap.size + 1 := ⟨_, rfl⟩
  obtain ⟨bx, hbx⟩ : ∃ bx, bx = w.heap.size + 1 + 1 := ⟨_, rfl⟩
  rw [← hbn] at N8 ⊢
  rw [← hbl] at L8 Q8 ⊢
  rw [← hbx] at R8 ⊢
  rw [← hbs] at S8 ⊢
  clear hbn hbl hbs hbx
  have nN := N8.ne R8 (by simp)
  have nL := L8.ne R8 (by simp)
  have nQ := Q8.ne R8 (by simp)
  have nS := S8.ne R8 (by simp)
  have K9 := K8.drew
  have c9 := foldLoc N8.drew L8.drew Q8.drew S8.drew
  have N9 := N8.drew
  have L9 := L8.drew
  have Q9 := Q8.drew
  have S9 := S8.drew
  have R9 := R8.drew
  clear K8 N8 L8 Q8 S8 R8
  first
    | (go_region_held3 (fun W => W.cell? ⟨bn, 0, none⟩ = some (.int .i32 p.1.l) ∧ W.cell? ⟨bn, 1, none⟩ = some (.int .i32 p.1.r) ∧ W.cell? ⟨bl, 0, none⟩ = some (.int .u32 lo) ∧ W.cell? ⟨bl, 1, none⟩ = some (.int .i64 h) ∧ W.cell? ⟨bl + 1, 0, none⟩ = some (.int .u32 lo2) ∧ W.cell? ⟨bl + 1, 1, none⟩ = some (.int .i64 h) ∧ W.cell? ⟨bs, 0, none⟩ = some (.int .u32 slo) ∧ W.cell? ⟨bs, 1, none⟩ = some (.int .u32 shi))
        (first | with_reducible exact c9 | with_reducible exact c10 | with_reducible exact c11 | with_reducible exact c12 | with_reducible exact c13)
        (first
          | (go_at_call 54; refine (merge_calls _ A.1 B.1).mono ?_; rintro e w7 ⟨rfl, hb7⟩; have K12 := K11.below hb7; have R12 := R11.below hb7; have N12 := N11.below hb7; have L12 := L11.below hb7; have Q12 := Q11.below hb7; have S12 := S11.below hb7; have c12 := foldLoc N12 L12 Q12 S12; have c13 := foldLoc (N12.oA nN (Ag.merge A.1 B.1)) (L12.oA nL (Ag.merge A.1 B.1)) (Q12.oA nQ (Ag.merge A.1 B.1)) (S12.oA nS (Ag.merge A.1 B.1)); obtain ⟨⟨x0, x1, x2, x3⟩, y0, y1, y2, y3⟩ := cells4 R12.at_; simp only [Ag.val])
          | (go_at_call 36; have hS := K10; have HB := IH.out _ p.1.r lo2 K10.tr okB; rw [← hB.out] at HB; refine HB.mono ?_; clear HB; rintro e w6 ⟨rfl, hT6⟩; obtain ⟨χ11, ag, K11, ch⟩ := K10.call hT6; have R11 := R10.call ag ch; have N11 := N10.call ag ch; have L11 := L10.call ag ch; have Q11 := Q10.call ag ch; have S11 := S10.call ag ch; have c11 := foldLoc N11 L11 Q11 S11; simp only [Ag.val])
          | (go_at_call 36; have HA := IH.out _ p.1.l lo K9.tr okA; rw [← hA.out] at HA; refine HA.mono ?_; clear HA; rintro e w5 ⟨rfl, hT5⟩; obtain ⟨χ10, ag, K10, ch⟩ := K9.call hT5; have R10 := R9.call ag ch; have N10 := N9.call ag ch; have L10 := L9.call ag ch; have Q10 := Q9.call ag ch; have S10 := S9.call ag ch; have c10 := foldLoc N10 L10 Q10 S10; simp only [Ag.val])))
    | fail
  all_goals obtain ⟨⟨x0, x1, x2, x3⟩, -, -, -, -⟩ := cells4 R12.at_
  all_goals
    go_wp2
    refine bodyPost_ret (v := (Ag.merge A.1 B.1).val) (by simp [results, Try.results36, go_sem, *]) rfl ⟨rfl, ?_⟩
    exact (K12.setAW R12 (Ag.merge A.1 B.1)).to
end Go.Proofs.Ytcdldjiogoapkaa
