import Derived.Test.YtcdldjiogoapkaaSgK
namespace Go.Proofs.Ytcdldjiogoapkaa
open Go.RowKit
attribute [local go_sem] World.cell?_alloc_some frozen_alloc_some field_na field_ac field_as

/-- What fold does, on the row of nodes. -/
def foldT (slo shi : Nat) : Nat → List Nd → Int → Nat → Ag × List Nd
  | 0, ns, i, lo => if i = 0 ∨ outB lo 0 slo shi = true then (Ag.zero, ns) else ((getN ns i).a, ns)
  | h + 1, ns, i, lo =>
    if i = 0 ∨ outB lo (h + 1) slo shi = true then (Ag.zero, ns)
    else if inB lo (h + 1) slo shi = true then ((getN ns i).a, ns)
    else (Ag.merge (foldT slo shi h (pushN ns i).2 (pushN ns i).1.l lo).1 (foldT slo shi h (foldT slo shi h (pushN ns i).2 (pushN ns i).1.l lo).2 (pushN ns i).1.r (lo + 2 ^ h)).1,
      (foldT slo shi h (foldT slo shi h (pushN ns i).2 (pushN ns i).1.l lo).2 (pushN ns i).1.r (lo + 2 ^ h)).2)
/-- When fold may be called. -/
def foldOk (slo shi : Nat) : Nat → List Nd → Int → Nat → Prop
  | 0, ns, i, lo => 0 ≤ i ∧ i ≤ ns.length ∧ lo + 1 ≤ 4294967296
  | h + 1, ns, i, lo => 0 ≤ i ∧ i ≤ ns.length ∧ OkN ns ∧ lo + 2 ^ (h + 1) ≤ 4294967296 ∧
    (i ≠ 0 → foldOk slo shi h (pushN ns i).2 (pushN ns i).1.l lo ∧ foldOk slo shi h (foldT slo shi h (pushN ns i).2 (pushN ns i).1.l lo).2 (pushN ns i).1.r (lo + 2 ^ h))

abbrev fbox (w : World) (lo h slo shi : Nat) : World := ((w.alloc (BoxB lo h)).alloc (BoxS slo shi)).alloc (BoxA Ag.zero)
theorem fold_none (w : World) (pt lo h slo shi : Nat) {c : Nat} {χ : Col} {ns : List Nd} {root lim : Int} (hT : TrAt c χ w pt ns root lim) :
    Calls Try.prog 36 #[.pointer (some ⟨pt, 0, none⟩), .int .i32 0, blk lo h, spn slo shi] w fun e w' => e = .returned Ag.zero.val ∧ TrTo c χ w w' pt ns root lim := by
  go_enter Try.func36, Try.ntmps36
  go_wp2
  refine bodyPost_ret (v := Ag.zero.val) (by simp [results, Try.results36, go_sem, Ag.zero]) rfl ⟨rfl, ?_⟩
  exact ((Trk.start hT).below ((((Below.refl _ w).alloc (Nat.le_refl _) _).alloc (by simp) _).alloc (by simp; omega) _)).to

theorem fbox_at (w : World) (lo h slo shi : Nat) : (fbox w lo h slo shi).heap[w.heap.size]? = some (BoxB lo h) ∧ (fbox w lo h slo shi).heap[w.heap.size + 1]? = some (BoxS slo shi) ∧ (fbox w lo h slo shi).heap[w.heap.size + 1 + 1]? = some (BoxA Ag.zero) ∧ Below w.heap.size w (fbox w lo h slo shi) := by
  have h1 := heap_alloc_at (w.alloc (BoxB lo h)) (BoxS slo shi)
  have h2 := heap_alloc_at ((w.alloc (BoxB lo h)).alloc (BoxS slo shi)) (BoxA Ag.zero)
  simp only [World.size_alloc] at h1 h2
  exact ⟨kept_at ((Below.refl _ _).alloc (Nat.le_refl _) _) (kept_at ((Below.refl _ _).alloc (Nat.le_refl _) _) (heap_alloc_at w _)), kept_at ((Below.refl _ _).alloc (Nat.le_refl _) _) h1, h2,
    (((Below.refl _ w).alloc (Nat.le_refl _) _).alloc (by simp) _).alloc (by simp; omega) _⟩

def setAW (w : World) (g : Nat) (n : Ag) : World :=
  (((w.setCell ⟨g, 0, none⟩ (.int .i64 n.c)).setCell ⟨g, 1, none⟩ (.int .i64 n.s)).setCell ⟨g, 2, none⟩ (.int .i64 n.mn)).setCell ⟨g, 3, none⟩ (.int .i64 n.mx)
theorem Trk.setAW {c pt : Nat} {χ0 χ : Col} {w0 W : World} {ns : List Nd} {root lim : Int} {b : Nat} {cs : Array Value} {t : TypeId} (k : Trk c χ0 w0 χ W pt ns root lim) (l : Loc c w0 χ W b (.cells cs t)) (n : Ag) : Trk c χ0 w0 χ (setAW W b n) pt ns root lim :=
  (((k.set l 0 _).set (l.set 0 _) 1 _).set ((l.set 0 _).set 1 _) 2 _).set (((l.set 0 _).set 1 _).set 2 _) 3 _

set_option maxRecDepth 100000 in
theorem fold_out (w : World) (pt lo h slo shi : Nat) (i : Int) {c : Nat} {χ : Col} {ns : List Nd} {root lim : Int} (hT : TrAt c χ w pt ns root lim) (hi : 1 ≤ i) (hh : h ≤ 32) (hl : lo + 2 ^ h ≤ 4294967296) (ho : Hid (outB lo h slo shi = true)) :
    Calls Try.prog 36 #[.pointer (some ⟨pt, 0, none⟩), .int .i32 i, blk lo h, spn slo shi] w fun e w' => e = .returned Ag.zero.val ∧ TrTo c χ w w' pt ns root lim := by
  obtain ⟨o1, o2, o3, hb0⟩ := fbox_at w lo h slo shi
  have hne : ¬ i = 0 := by omega
  go_enter Try.func36, Try.ntmps36
  go_wp2_with fail
  refine (outside_calls _ lo h slo shi hh hl).mono ?_
  rintro e w1 ⟨rfl, hb1⟩
  rw [ho.out]
  obtain ⟨⟨x0, x1, x2, x3⟩, y0, y1, y2, y3⟩ := cells4 (kept_at hb1 o3)
  have K1 := ((Trk.start hT).below hb0).below hb1
  have R1 : Loc c w (paint χ w.heap.size (c + 3)) (fbox w lo h slo shi) (w.heap.size + 1 + 1) (BoxA Ag.zero) := ⟨by omega, paint_high (by omega), o3⟩
  have R2 := R1.below hb1
  go_wp2
  refine bodyPost_ret (v := Ag.zero.val) (by simp [results, Try.results36, go_sem, Ag.zero, *]) rfl ⟨rfl, ?_⟩
  exact (K1.setAW R2 Ag.zero).to

set_option maxRecDepth 100000 in
theorem fold_in (w : World) (pt lo h slo shi : Nat) (i : Int) {c : Nat} {χ : Col} {ns : List Nd} {root lim : Int} (hT : TrAt c χ w pt ns root lim) (hi : 1 ≤ i) (i1 : i ≤ ns.length) (hh : h ≤ 32) (hl : lo + 2 ^ h ≤ 4294967296)
    (ho : Hid (outB lo h slo shi = false)) (hin : Hid (inB lo h slo shi = true)) :
    Calls Try.prog 36 #[.pointer (some ⟨pt, 0, none⟩), .int .i32 i, blk lo h, spn slo shi] w fun e w' => e = .returned (getN ns i).a.val ∧ TrTo c χ w w' pt ns root lim := by
  obtain ⟨o1, o2, o3, hb0⟩ := fbox_at w lo h slo shi
  have hne : ¬ i = 0 := by omega
  have K0 := (Trk.start hT).below hb0
  have R1 : Loc c w (paint χ w.heap.size (c + 3)) (fbox w lo h slo shi) (w.heap.size + 1 + 1) (BoxA Ag.zero) := ⟨by omega, paint_high (by omega), o3⟩
  go_enter Try.func36, Try.ntmps36
  go_wp2_with fail
  refine (outside_calls _ lo h slo shi hh hl).mono ?_
  rintro e w1 ⟨rfl, hb1⟩
  rw [ho.out]
  have K1 := K0.below hb1
  have R2 := R1.below hb1
  obtain ⟨⟨b0, b1⟩, -, -⟩ := cells2 (kept_at hb1 o1)
  obtain ⟨⟨s0, s1⟩, -, -⟩ := cells2 (kept_at hb1 o2)
  go_wp2_with fail
  refine (inside_calls _ lo h slo shi hh hl).mono ?_
  rintro e w2 ⟨rfl, hb2⟩
  rw [hin.out]
  have K2 := K1.below hb2
  have R3 := R2.below hb2
  go_wp2_with fail
  refine (at_calls _ _ i K2.tr (by omega) i1).mono ?_
  rintro e w3 ⟨rfl, hb3⟩
  have K3 := K2.below hb3
  have R4 := R3.below hb3
  obtain ⟨⟨x0, x1, x2, x3⟩, y0, y1, y2, y3⟩ := cells4 R4.at_
  simp only [Nd.val]
  go_wp2
  refine bodyPost_ret (v := (getN ns i).a.val) (by simp [results, Try.results36, go_sem, *]) rfl ⟨rfl, ?_⟩
  exact (K3.setAW R4 (getN ns i).a).to
end Go.Proofs.Ytcdldjiogoapkaa
