import Derived.Test.YtcdldjiogoapkaaSgN
namespace Go.Proofs.Ytcdldjiogoapkaa
open Go.RowKit
attribute [local go_sem] World.cell?_alloc_some frozen_alloc_some field_na field_ac field_as

/-- What cut does, on the row of nodes. -/
def cutT (slo shi : Nat) : Nat → List Nd → Int → Nat → List Nd
  | 0, ns, i, lo => if i = 0 ∨ outB lo 0 slo shi = true then ns else killN ns i
  | h + 1, ns, i, lo =>
    if i = 0 ∨ outB lo (h + 1) slo shi = true then ns
    else if inB lo (h + 1) slo shi = true then killN ns i
    else joinN (cutT slo shi h (cutT slo shi h (pushN ns i).2 (pushN ns i).1.l lo) (pushN ns i).1.r (lo + 2 ^ h)) i (pushN ns i).1

abbrev cbox (w : World) (lo h slo shi : Nat) : World := (w.alloc (BoxB lo h)).alloc (BoxS slo shi)
theorem cbox_at (w : World) (lo h slo shi : Nat) : (cbox w lo h slo shi).heap[w.heap.size]? = some (BoxB lo h) ∧ (cbox w lo h slo shi).heap[w.heap.size + 1]? = some (BoxS slo shi) ∧ Below w.heap.size w (cbox w lo h slo shi) := by
  have h1 := heap_alloc_at (w.alloc (BoxB lo h)) (BoxS slo shi)
  simp only [World.size_alloc] at h1
  exact ⟨kept_at ((Below.refl _ _).alloc (Nat.le_refl _) _) (heap_alloc_at w _), h1, ((Below.refl _ w).alloc (Nat.le_refl _) _).alloc (by simp) _⟩

theorem cut_none (w : World) (pt lo h slo shi : Nat) {c : Nat} {χ : Col} {ns : List Nd} {root lim : Int} (hT : TrAt c χ w pt ns root lim) :
    Calls Try.prog 34 #[.pointer (some ⟨pt, 0, none⟩), .int .i32 0, blk lo h, spn slo shi] w fun e w' => e = .returned (.tuple #[]) ∧ TrTo c χ w w' pt ns root lim := by
  go_enter Try.func34, Try.ntmps34
  go_wp2
  refine bodyPost_ret (v := .tuple #[]) (by simp [results, Try.results34, go_sem]) rfl ⟨rfl, ?_⟩
  exact ((Trk.start hT).below (((Below.refl _ w).alloc (Nat.le_refl _) _).alloc (by simp) _)).to

theorem cut_out (w : World) (pt lo h slo shi : Nat) (i : Int) {c : Nat} {χ : Col} {ns : List Nd} {root lim : Int} (hT : TrAt c χ w pt ns root lim) (hi : 1 ≤ i) (hh : h ≤ 32) (hl : lo + 2 ^ h ≤ 4294967296) (ho : Hid (outB lo h slo shi = true)) :
    Calls Try.prog 34 #[.pointer (some ⟨pt, 0, none⟩), .int .i32 i, blk lo h, spn slo shi] w fun e w' => e = .returned (.tuple #[]) ∧ TrTo c χ w w' pt ns root lim := by
  obtain ⟨o1, o2, hb0⟩ := cbox_at w lo h slo shi
  have hne : ¬ i = 0 := by omega
  go_enter Try.func34, Try.ntmps34
  go_wp2_with fail
  refine (outside_calls _ lo h slo shi hh hl).mono ?_
  rintro e w1 ⟨rfl, hb1⟩
  rw [ho.out]
  have K1 := ((Trk.start hT).below hb0).below hb1
  go_wp2
  refine bodyPost_ret (v := .tuple #[]) (by simp [results, Try.results34, go_sem]) rfl ⟨rfl, ?_⟩
  exact K1.to

theorem cut_in (w : World) (pt lo h slo shi : Nat) (i : Int) {c : Nat} {χ : Col} {ns : List Nd} {root lim : Int} (hT : TrAt c χ w pt ns root lim) (hi : 1 ≤ i) (i1 : i ≤ ns.length) (hh : h ≤ 32) (hl : lo + 2 ^ h ≤ 4294967296)
    (ho : Hid (outB lo h slo shi = false)) (hin : Hid (inB lo h slo shi = true)) :
    Calls Try.prog 34 #[.pointer (some ⟨pt, 0, none⟩), .int .i32 i, blk lo h, spn slo shi] w fun e w' => e = .returned (.tuple #[]) ∧ TrTo c χ w w' pt (killN ns i) root lim := by
  obtain ⟨o1, o2, hb0⟩ := cbox_at w lo h slo shi
  have hne : ¬ i = 0 := by omega
  have K0 := (Trk.start hT).below hb0
  go_enter Try.func34, Try.ntmps34
  go_wp2_with fail
  refine (outside_calls _ lo h slo shi hh hl).mono ?_
  rintro e w1 ⟨rfl, hb1⟩
  rw [ho.out]
  have K1 := K0.below hb1
  obtain ⟨⟨b0, b1⟩, -, -⟩ := cells2 (kept_at hb1 o1)
  obtain ⟨⟨s0, s1⟩, -, -⟩ := cells2 (kept_at hb1 o2)
  go_wp2_with fail
  refine (inside_calls _ lo h slo shi hh hl).mono ?_
  rintro e w2 ⟨rfl, hb2⟩
  rw [hin.out]
  have K2 := K1.below hb2
  go_wp2_with fail
  refine (kill_calls _ _ i K2.tr (by omega) i1).mono ?_
  rintro e w3 ⟨rfl, hT3⟩
  obtain ⟨χ3, ag, K3, ch⟩ := K2.call hT3
  go_wp2
  refine bodyPost_ret (v := .tuple #[]) (by simp [results, Try.results34, go_sem]) rfl ⟨rfl, ?_⟩
  exact K3.to

set_option maxRecDepth 100000 in
set_option maxHeartbeats 8000000 in
theorem cutS (slo shi h : Nat) (hh : h < 32) {lim : Int}
    (ih : ∀ (w : World) {pt : Nat} (i : Int) (lo : Nat) {c : Nat} {χ : Col} {ns : List Nd} {root : Int}, TrAt c χ w pt ns root lim → OkN ns → 0 ≤ i → i ≤ ns.length → lo + 2 ^ h ≤ 4294967296 →
      Calls Try.prog 34 #[.pointer (some ⟨pt, 0, none⟩), .int .i32 i, blk lo h, spn slo shi] w fun e w' =>
        e = .returned (.tuple #[]) ∧ TrTo c χ w w' pt (cutT slo shi h ns i lo) root lim)
    (w : World) (pt : Nat) (i : Int) (lo : Nat) {c : Nat} {χ : Col} {ns : List Nd} {root : Int} (hT : TrAt c χ w pt ns root lim) (hi : 1 ≤ i) (i1 : i ≤ ns.length) (hok : OkN ns) (hl : lo + 2 ^ (h + 1) ≤ 4294967296)
    (ho : Hid (outB lo (h + 1) slo shi = false)) (hin : Hid (inB lo (h + 1) slo shi = false)) {p : Nd × List Nd} (hp : Hid (p = pushN ns i)) {lo2 : Nat} (hlo : Hid (lo2 = lo + 2 ^ h)) (hl2 : lo2 + 2 ^ h ≤ 4294967296) {A B : List Nd} (hA : Hid (A = cutT slo shi h p.2 p.1.l lo)) (hB : Hid (B = cutT slo shi h A p.1.r lo2))
    (okp : OkN p.2) (okA : OkN A) (lA : Hid (A.length = p.2.length)) (lB : Hid (B.length = p.2.length)) (lp : Hid (p.2.length = ns.length)) (kl : 0 ≤ p.1.l ∧ p.1.l ≤ ns.length ∧ 0 ≤ p.1.r ∧ p.1.r ≤ ns.length) :
    Calls Try.prog 34 #[.pointer (some ⟨pt, 0, none⟩), .int .i32 i, blk lo (h + 1), spn slo shi] w fun e w' => e = .returned (.tuple #[]) ∧ TrTo c χ w w' pt (joinN B i p.1) root lim := by
  obtain ⟨o1, o2, hb0⟩ := cbox_at w lo (h + 1) slo shi
  have hne : ¬ i = 0 := by omega
  have hl1 : lo + 2 ^ h ≤ 4294967296 := by rw [Nat.pow_succ] at hl; omega
  have K0 := (Trk.start hT).below hb0
  have S1 : Loc c w (paint χ w.heap.size (c + 3)) (cbox w lo (h + 1) slo shi) (w.heap.size + 1) (BoxS slo shi) := ⟨by omega, paint_high (by omega), o2⟩
  have B1 : Loc c w (paint χ w.heap.size (c + 3)) (cbox w lo (h + 1) slo shi) w.heap.size (BoxB lo (h + 1)) := ⟨by omega, paint_high (by omega), o1⟩
  have IH := Lib.hid @ih
  clear ih hT o1 o2
  go_enter Try.func34, Try.ntmps34
  go_wp2_with fail
  refine (outside_calls _ lo (h + 1) slo shi (by omega) hl).mono ?_
  rintro e w1 ⟨rfl, hb1⟩
  rw [ho.out]
  have K1 := K0.below hb1
  have S2 := S1.below hb1
  have B2 := B1.below hb1
  clear K0 S1 B1 hb1
  obtain ⟨⟨b0, b1⟩, -, -⟩ := cells2 B2.at_
  obtain ⟨⟨s0, s1⟩, -, -⟩ := cells2 S2.at_
  go_wp2_with fail
  refine (inside_calls _ lo (h + 1) slo shi (by omega) hl).mono ?_
  rintro e w2 ⟨rfl, hb2⟩
  rw [hin.out]
  have K2 := K1.below hb2
  have S3 := S2.below hb2
  have B3 := B2.below hb2
  clear K1 S2 B2 hb2 b0 b1 s0 s1
  go_wp2_with fail
  have HP := push_calls w2 pt i K2.tr hok hi i1
  rw [← hp.out] at HP
  refine HP.mono ?_
  rintro e w3 ⟨rfl, hT3⟩
  obtain ⟨χ3, ag, K3, ch⟩ := K2.call hT3
  have S4 := S3.call ag ch
  have B4 := B3.call ag ch
  clear K2 S3 B3 ag ch HP hT3
  have K5 := K3.below ((Below.refl _ w3).alloc (Nat.le_refl _) (BoxN p.1))
  have S5 := S4.below ((Below.refl _ w3).alloc (Nat.le_refl _) (BoxN p.1))
  have B5 := B4.below ((Below.refl _ w3).alloc (Nat.le_refl _) (BoxN p.1))
  have N5 := Loc.new K3 (BoxN p.1)
  clear K3 S4 B4
  obtain ⟨⟨b0, b1⟩, -, -⟩ := cells2 (kept_at (w := w3.alloc (BoxN p.1)) (Below.refl _ _) B5.at_)
  go_wp2_with fail
  refine (halves_calls _ lo h hh hl).mono ?_
  rw [← hlo.out]
  rintro e w4 ⟨rfl, hb4⟩
  have K6 := K5.below hb4
  have S6 := S5.below hb4
  have N6 := N5.below hb4
  clear K5 S5 N5 B5 b0 b1
  have ha1 : Below w4.heap.size w4 (w4.alloc (BoxB lo h)) := (Below.refl _ w4).alloc (Nat.le_refl _) _
  have L7 := Loc.new K6 (BoxB lo h)
  have K7 := K6.below ha1
  have S7 := S6.below ha1
  have N7 := N6.below ha1
  have ha2 : Below (w4.alloc (BoxB lo h)).heap.size (w4.alloc (BoxB lo h)) ((w4.alloc (BoxB lo h)).alloc (BoxB lo2 h)) := (Below.refl _ _).alloc (Nat.le_refl _) _
  have Q8 := Loc.new K7 (BoxB lo2 h)
  have K8 := K7.below ha2
  have S8 := S7.below ha2
  have N8 := N7.below ha2
  have L8 := L7.below ha2
  clear K6 S6 N6 L7 K7 S7 N7 ha1 ha2
  obtain ⟨χ8, hχ8⟩ : ∃ χ8, χ8 = paint (paint (paint (paint χ3 w3.heap.size (c + 3)) (w3.alloc (BoxN p.1)).heap.size (c + 3)) w4.heap.size (c + 3)) (w4.alloc (BoxB lo h)).heap.size (c + 3) := ⟨_, rfl⟩
  rw [← hχ8] at K8 S8 N8 L8 Q8
  rw [World.size_alloc] at Q8
  clear hχ8
  obtain ⟨n0, n1, l0, l1, q0, q1, s0, s1⟩ := foldLoc N8 L8 Q8 S8
  go_wp2_with fail
  obtain ⟨W8, hW8⟩ : ∃ W8, W8 = (w4.alloc (BoxB lo h)).alloc (BoxB lo2 h) := ⟨_, rfl⟩
  rw [← hW8] at K8 S8 N8 L8 Q8
  rw [← hW8]
  clear hW8
  obtain ⟨bn, hbn⟩ : ∃ bn, bn = w3.heap.size := ⟨_, rfl⟩
  obtain ⟨bl, hbl⟩ : ∃ bl, bl = w4.heap.size := ⟨_, rfl⟩
  obtain ⟨bs, hbs⟩ : ∃ bs, bs = w.heap.size + 1 := ⟨_, rfl⟩
  rw [← hbn] at N8 ⊢
  rw [← hbl] at L8 Q8 ⊢
  rw [← hbs] at S8 ⊢
  clear hbn hbl hbs n0 n1 l0 l1 q0 q1 s0 s1
  have HA := IH.out _ p.1.l lo K8.tr okp kl.1 (by rw [lp.out]; exact kl.2.1) hl1
  rw [← hA.out] at HA
  refine HA.mono ?_
  clear HA
  rintro e w5 ⟨rfl, hT5⟩
  obtain ⟨χ10, ag, K10, ch⟩ := K8.call hT5
  have N10 := N8.call ag ch
  have L10 := L8.call ag ch
  have Q10 := Q8.call ag ch
  have S10 := S8.call ag ch
  clear K8 N8 L8 Q8 S8 hT5 ag ch
  obtain ⟨n0, n1, l0, l1, q0, q1, s0, s1⟩ := foldLoc N10 L10 Q10 S10
  go_wp2_with fail
  have HB := IH.out _ p.1.r lo2 K10.tr okA kl.2.2.1 (by rw [lA.out, lp.out]; exact kl.2.2.2) hl2
  rw [← hB.out] at HB
  refine HB.mono ?_
  clear HB n0 n1 l0 l1 q0 q1 s0 s1
  rintro e w6 ⟨rfl, hT6⟩
  obtain ⟨χ11, ag, K11, ch⟩ := K10.call hT6
  have N11 := N10.call ag ch
  clear K10 N10 L10 Q10 S10 hT6 ag ch
  obtain ⟨⟨x0, x1, x2, x3, x4, x5, x6⟩, -⟩ := cells7 N11.at_
  go_wp2_with fail
  refine (join_calls _ _ i p.1 K11.tr hi (by rw [lB.out, lp.out]; exact i1) kl.1 (by rw [lB.out, lp.out]; exact kl.2.1) kl.2.2.1 (by rw [lB.out, lp.out]; exact kl.2.2.2)).mono ?_
  rintro e w7 ⟨rfl, hT7⟩
  obtain ⟨χ12, ag, K12, ch⟩ := K11.call hT7
  go_wp2
  go_end0
  exact ⟨rfl, K12.to⟩

theorem cutT_ok (slo shi : Nat) (h : Nat) : ∀ (ns : List Nd) (i : Int) (lo : Nat), OkN ns → OkN (cutT slo shi h ns i lo) ∧ (cutT slo shi h ns i lo).length = ns.length := by
  induction h with
  | zero => intro ns i lo ok; unfold cutT; split; exact ⟨ok, rfl⟩; exact ⟨ok.kill i, killN_len ns i⟩
  | succ h ih =>
    intro ns i lo ok
    unfold cutT
    split
    · exact ⟨ok, rfl⟩
    · split
      · exact ⟨ok.kill i, killN_len ns i⟩
      · have h1 := ih (pushN ns i).2 (pushN ns i).1.l lo (ok.push i)
        have h2 := ih _ (pushN ns i).1.r (lo + 2 ^ h) h1.1
        have e := h2.2.trans (h1.2.trans (pushN_len ns i))
        have hk := pushN_kids ns i
        refine ⟨h2.1.join i (by rw [e, hk.1, hk.2]; exact ok.get i), (joinN_len _ _ _).trans e⟩

theorem cut_calls (slo shi : Nat) {lim : Int} (h : Nat) : h ≤ 32 → ∀ (w : World) {pt : Nat} (i : Int) (lo : Nat) {c : Nat} {χ : Col} {ns : List Nd} {root : Int}, TrAt c χ w pt ns root lim → OkN ns → 0 ≤ i → i ≤ ns.length → lo + 2 ^ h ≤ 4294967296 →
    Calls Try.prog 34 #[.pointer (some ⟨pt, 0, none⟩), .int .i32 i, blk lo h, spn slo shi] w fun e w' =>
      e = .returned (.tuple #[]) ∧ TrTo c χ w w' pt (cutT slo shi h ns i lo) root lim := by
  induction h with
  | zero =>
    intro hh w pt i lo c χ ns root hT ok i0 i1 hl
    unfold cutT
    by_cases hi : i = 0
    · subst hi; rw [if_pos (Or.inl rfl)]; exact cut_none w pt lo 0 slo shi hT
    · by_cases ho : outB lo 0 slo shi = true
      · rw [if_pos (Or.inr ho)]; exact cut_out w pt lo 0 slo shi i hT (by omega) hh hl (Lib.hid ho)
      · rw [if_neg (by simp [hi, ho])]
        exact cut_in w pt lo 0 slo shi i hT (by omega) i1 hh hl (Lib.hid (by simpa using ho)) (Lib.hid (out_in0 ho))
  | succ h ih =>
    intro hh w pt i lo c χ ns root hT ok i0 i1 hl
    unfold cutT
    by_cases hi : i = 0
    · subst hi; rw [if_pos (Or.inl rfl)]; exact cut_none w pt lo (h + 1) slo shi hT
    · by_cases ho : outB lo (h + 1) slo shi = true
      · rw [if_pos (Or.inr ho)]; exact cut_out w pt lo (h + 1) slo shi i hT (by omega) hh hl (Lib.hid ho)
      · rw [if_neg (by simp [hi, ho])]
        by_cases hin : inB lo (h + 1) slo shi = true
        · rw [if_pos hin]; exact cut_in w pt lo (h + 1) slo shi i hT (by omega) i1 hh hl (Lib.hid (by simpa using ho)) (Lib.hid hin)
        · rw [if_neg hin]
          have okp := ok.push i
          have kA := cutT_ok slo shi h (pushN ns i).2 (pushN ns i).1.l lo okp
          have kB := cutT_ok slo shi h _ (pushN ns i).1.r (lo + 2 ^ h) kA.1
          have hk := pushN_kids ns i
          exact cutS slo shi h (by omega) (ih (by omega)) w pt i lo hT (by omega) i1 ok hl (Lib.hid (by simpa using ho)) (Lib.hid (by simpa using hin)) (Lib.hid rfl) (Lib.hid rfl) (by rw [Nat.pow_succ] at hl; omega)
            (Lib.hid rfl) (Lib.hid rfl) okp kA.1 (Lib.hid kA.2) (Lib.hid (kB.2.trans kA.2)) (Lib.hid (pushN_len ns i)) (by rw [hk.1, hk.2]; exact ok.get i)
end Go.Proofs.Ytcdldjiogoapkaa
