import Derived.Test.YtcdldjiogoapkaaSgR
namespace Go.Proofs.Ytcdldjiogoapkaa
open Go.RowKit
attribute [local go_sem] World.cell?_alloc_some frozen_alloc_some field_na field_ac field_as

variable {c pt : Nat} {Co : Nat → Prop} {χ0 χ χ' : Col} {w0 W W' : World} {ns ns' : List Nd} {root root' lim : Int} {b : Nat} {o : Obj}

set_option maxRecDepth 100000 in
set_option maxHeartbeats 4000000 in
theorem walk_leaf (n : Nat) (w : World) (pt lo l : Nat) (i : Int) {χ : Col} {ns : List Nd} {J Jx : List (Nat × Int) → Col → World → Prop} {xs p0 rest : List (Nat × Int)} (hT : TrAt c χ w pt ns root lim) (hCo : ∀ x, c ≤ x → x ≤ c + 3 → ¬ Co x)
    (hi : 1 ≤ i) (i1 : i ≤ ns.length) (hc : Hid (¬ (getN ns i).a.c = 0)) (hJ : Hid (Stays Co J)) (hY : Hid (Rounds Co l J Jx xs)) (h0 : Hid (J p0 χ w)) (hxs : Hid (xs = p0 ++ (lo, (getN ns i).a.s) :: rest)) :
    CallsIn Fence.wide n Try.prog 57 #[.pointer (some ⟨pt, 0, none⟩), .int .i32 i, blk lo 0, .func (.yield l) #[] #[]] w (WalkEnd c Co χ w pt root lim J Jx xs p0 ([(lo, (getN ns i).a.s)], ns)) := by
  have hne : ¬ i = 0 := by omega
  have hq : (i == 0 || (getN ns i).a.c == 0) = false := by have := hc.out; simp [hne, this]
  have hb := (Below.refl _ w).alloc (Nat.le_refl _) (BoxB lo 0)
  have K0 := (TrkJ.start (Co := Co) hT).below hb
  have B0 : Loc c w (paint χ w.heap.size (c + 3)) (w.alloc (BoxB lo 0)) w.heap.size (BoxB lo 0) := Loc.newJ (TrkJ.start (Co := Co) hT) _
  refine callsIn_of_wp Try.func57 rfl trivial ?_ rfl
  simp only [Try.ntmps57, List.size_toArray, List.length_cons, List.length_nil, Nat.reduceAdd, Nat.reduceSub, Array.replicate_succ, Array.replicate_zero, List.push_toArray, List.append_toArray, List.nil_append, List.cons_append]
  gi_wp2_with (refine ⟨trivial, wide_n, ?_⟩; gi_at_call 44; refine (callsIn_wide.2 (at_calls _ _ i K0.tr (by omega) i1)).mono ?_; rintro e w1 ⟨rfl, hb1⟩; simp only [Nd.val]; have K1 := K0.below hb1; have B1 := B0.below hb1; obtain ⟨⟨b0, b1⟩, -⟩ := cells2 B1.at_)
  clear K0 B0 b0 b1
  have J1 : J p0 (paint (paint χ w.heap.size (c + 3)) (w.alloc (BoxB lo 0)).heap.size (c + 3)) w1 := hJ.out _ _ _ _ _ (hJ.out _ _ _ _ _ h0.out (Same.below (c + 3) hb)) (Same.below (c + 3) hb1)
  obtain ⟨χ1, hχ1⟩ : ∃ χ1, χ1 = paint (paint χ w.heap.size (c + 3)) (w.alloc (BoxB lo 0)).heap.size (c + 3) := ⟨_, rfl⟩
  rw [← hχ1] at J1 K1 B1
  clear hχ1 hb1
  have hbd : Below w1.heap.size w1 w1.drew := undrew_r (Below.refl _ _)
  have K2 := K1.below hbd
  have B2 := B1.below hbd
  have J2 := Lib.hid (hJ.out _ _ _ _ _ J1 (Same.below (c + 3) hbd))
  clear K1 B1 J1 hbd
  obtain ⟨⟨b0, b1⟩, -⟩ := cells2 B2.at_
  gi_region_with (first
    | (have hS := J3; obtain ⟨fn, tm, asg, bd, hy, hR⟩ := hY.out (n - 1) p0 (lo, (getN ns i).a.s) rest _ _ hxs.out J3.out; have HR := Lib.hid hR; clear hR; rw [hy]; refine ⟨wide_n, HR.out.mono ?_⟩; rintro e W4 ⟨χ4, ag4, hc4, hj4⟩; obtain ⟨bb, rfl, hj5⟩ : ∃ bb, e = .returned (.bool bb) ∧ Hid ((bb = true ∧ J (p0 ++ [(lo, (getN ns i).a.s)]) χ4 W4) ∨ (bb = false ∧ Jx (p0 ++ [(lo, (getN ns i).a.s)]) χ4 W4)) := (by rcases hj4 with ⟨rfl, hj⟩ | ⟨rfl, hj⟩; exact ⟨true, rfl, .inl ⟨rfl, hj⟩⟩; exact ⟨false, rfl, .inr ⟨rfl, hj⟩⟩); clear hj4)
    | (refine ⟨trivial, wide_n, ?_⟩; gi_at_call 44; refine (callsIn_wide.2 (at_calls _ _ i K2.tr (by omega) i1)).mono ?_; rintro e w3 ⟨rfl, hb3⟩; simp only [Nd.val]; have K3 := K2.below hb3; have B3 := B2.below hb3; obtain ⟨⟨d0, d1⟩, -⟩ := cells2 B3.at_; have J3 := Lib.hid (hJ.out _ _ _ _ _ J2.out (Same.below (c + 3) hb3))))
  all_goals
    gi_wp2
    go_ret
    have K4 := K3.round hCo ag4 hc4
    rcases hj5.out with ⟨rfl, hj⟩ | ⟨rfl, hj⟩
    · exact ⟨χ4, .inl ⟨rfl, K4, hj⟩⟩
    · exact ⟨χ4, .inr ⟨rfl, K4.ag, K4.chg, p0 ++ [(lo, (getN ns i).a.s)], ⟨rest, by rw [hxs.out]; simp⟩, hj⟩⟩

theorem Loc.walk (l : Loc c w0 χ W b o) (hCo : ∀ x, c ≤ x → x ≤ c + 3 → ¬ Co x) (ag : ∀ b, b < W.heap.size → χ' b = χ b) (hc : Chg χ (fun x => Co x ∨ (c ≤ x ∧ x ≤ c + 2)) W W') : Loc c w0 χ' W' b o := by
  have hlt := (Array.getElem?_eq_some_iff.1 l.at_).1
  refine ⟨l.own, (ag b hlt).trans l.col, (hc.blk b hlt ?_).trans l.at_⟩
  rw [l.col]
  rintro (h | h)
  · exact hCo _ (by omega) (by omega) h
  · omega
theorem TrkJ.trans {W2 : World} {χ2 : Col} (k : TrkJ c Co χ0 w0 χ W pt ns root lim) (k2 : TrkJ c Co χ W χ2 W2 pt ns' root' lim) : TrkJ c Co χ0 w0 χ2 W2 pt ns' root' lim :=
  k.to (fun _ h => h) k2.ag k2.chg k2.tr

theorem TrkJ.stop {W2 : World} {χ2 : Col} (k : TrkJ c Co χ0 w0 χ W pt ns root lim) (ag : ∀ b, b < W.heap.size → χ2 b = χ b) (hc : Chg χ (fun x => Co x ∨ (c ≤ x ∧ x ≤ c + 2)) W W2) :
    (∀ b, b < w0.heap.size → χ2 b = χ0 b) ∧ Chg χ0 (fun x => Co x ∨ (c ≤ x ∧ x ≤ c + 2)) w0 W2 :=
  ⟨fun b h => (ag b (Nat.lt_of_lt_of_le h k.chg.size)).trans (k.ag b h), k.chg.trans (χ' := fun b => if b < w0.heap.size then χ0 b else χ b) (fun b hb => if_pos hb) (by
    refine ⟨hc.os, hc.tape, hc.output, hc.size, fun b hb hn => hc.blk b hb fun hx => hn ?_⟩
    by_cases hb0 : b < w0.heap.size
    · rw [if_pos hb0]; rw [k.ag b hb0] at hx; exact hx
    · rw [if_neg hb0]; exact hx)⟩

theorem walkLoc {c h lo lo2 bn bl br : Nat} {w0 W : World} {χ : Col} {n : Nd} (N : Loc c w0 χ W bn (BoxN n)) (L : Loc c w0 χ W bl (BoxB lo h)) (Q : Loc c w0 χ W br (BoxB lo2 h)) :
    W.cell? ⟨bn, 0, none⟩ = some (.int .i32 n.l) ∧ W.cell? ⟨bn, 1, none⟩ = some (.int .i32 n.r) ∧ W.cell? ⟨bl, 0, none⟩ = some (.int .u32 lo) ∧ W.cell? ⟨bl, 1, none⟩ = some (.int .i64 h) ∧
      W.cell? ⟨br, 0, none⟩ = some (.int .u32 lo2) ∧ W.cell? ⟨br, 1, none⟩ = some (.int .i64 h) := by
  obtain ⟨⟨a0, a1, -⟩, -⟩ := cells7 N.at_
  obtain ⟨⟨b0, b1⟩, -⟩ := cells2 L.at_
  obtain ⟨⟨d0, d1⟩, -⟩ := cells2 Q.at_
  exact ⟨a0, a1, b0, b1, d0, d1⟩

set_option maxRecDepth 100000 in
set_option maxHeartbeats 8000000 in
theorem walkS (h l : Nat) (hh : h < 32) {lim : Int} {J Jx : List (Nat × Int) → Col → World → Prop} {xs : List (Nat × Int)} {Co : Nat → Prop}
    (ih : ∀ (n : Nat) (w : World) {pt : Nat} (i : Int) (lo : Nat) {c : Nat} {χ : Col} {ns : List Nd} {root : Int} (p0 rest : List (Nat × Int)), TrAt c χ w pt ns root lim → (∀ x, c ≤ x → x ≤ c + 3 → ¬ Co x) → OkN ns → 0 ≤ i → i ≤ ns.length → lo + 2 ^ h ≤ 4294967296 →
      J p0 χ w → xs = p0 ++ (walkT h ns i lo).1 ++ rest →
      CallsIn Fence.wide n Try.prog 57 #[.pointer (some ⟨pt, 0, none⟩), .int .i32 i, blk lo h, .func (.yield l) #[] #[]] w (WalkEnd c Co χ w pt root lim J Jx xs p0 (walkT h ns i lo)))
    (n : Nat) (w : World) (pt : Nat) (i : Int) (lo : Nat) {c : Nat} {χ : Col} {ns : List Nd} {root : Int} {p0 rest : List (Nat × Int)} (hT : TrAt c χ w pt ns root lim) (hCo : ∀ x, c ≤ x → x ≤ c + 3 → ¬ Co x)
    (hJ : Hid (Stays Co J)) (h0 : Hid (J p0 χ w))
    (hi : 1 ≤ i) (i1 : i ≤ ns.length) (hok : OkN ns) (hl : lo + 2 ^ (h + 1) ≤ 4294967296) (hc : Hid (¬ (getN ns i).a.c = 0))
    {p : Nd × List Nd} (hp : Hid (p = pushN ns i)) {lo2 : Nat} (hlo : Hid (lo2 = lo + 2 ^ h)) (hl2 : lo2 + 2 ^ h ≤ 4294967296) {A B : List (Nat × Int) × List Nd} (hA : Hid (A = walkT h p.2 p.1.l lo)) (hB : Hid (B = walkT h A.2 p.1.r lo2))
    (okp : OkN p.2) (okA : OkN A.2) (lA : Hid (A.2.length = p.2.length)) (lp : Hid (p.2.length = ns.length)) (kl : 0 ≤ p.1.l ∧ p.1.l ≤ ns.length ∧ 0 ≤ p.1.r ∧ p.1.r ≤ ns.length)
    (hxs : Hid (xs = p0 ++ (A.1 ++ B.1) ++ rest)) :
    CallsIn Fence.wide n Try.prog 57 #[.pointer (some ⟨pt, 0, none⟩), .int .i32 i, blk lo (h + 1), .func (.yield l) #[] #[]] w (WalkEnd c Co χ w pt root lim J Jx xs p0 (A.1 ++ B.1, B.2)) := by
  have hne : ¬ i = 0 := by omega
  have hl1 : lo + 2 ^ h ≤ 4294967296 := by rw [Nat.pow_succ] at hl; omega
  have hq : (i == 0 || (getN ns i).a.c == 0) = false := by have := hc.out; simp [hne, this]
  have IH := Lib.hid @ih
  clear ih
  have hb := (Below.refl _ w).alloc (Nat.le_refl _) (BoxB lo (h + 1))
  have K0 := (TrkJ.start (Co := Co) hT).below hb
  have B0 : Loc c w (paint χ w.heap.size (c + 3)) (w.alloc (BoxB lo (h + 1))) w.heap.size (BoxB lo (h + 1)) := Loc.newJ (TrkJ.start (Co := Co) hT) _
  have J0 := Lib.hid (hJ.out _ _ _ _ _ h0.out (Same.below (c + 3) hb))
  clear hT hb
  refine callsIn_of_wp Try.func57 rfl trivial ?_ rfl
  simp only [Try.ntmps57, List.size_toArray, List.length_cons, List.length_nil, Nat.reduceAdd, Nat.reduceSub, Array.replicate_succ, Array.replicate_zero, List.push_toArray, List.append_toArray, List.nil_append, List.cons_append]
  gi_wp2_with (refine ⟨trivial, wide_n, ?_⟩; gi_at_call 44; refine (callsIn_wide.2 (at_calls _ _ i K0.tr (by omega) i1)).mono ?_; rintro e w1 ⟨rfl, hb1⟩; simp only [Nd.val]; have K1 := K0.below hb1; have B1 := B0.below hb1; obtain ⟨⟨b0, b1⟩, -⟩ := cells2 B1.at_)
  have J1 := Lib.hid (hJ.out _ _ _ _ _ J0.out (Same.below (c + 3) hb1))
  clear K0 B0 b0 b1 J0 h0 hb1
  have HP := push_calls w1 pt i K1.tr hok hi i1
  rw [← hp.out] at HP
  refine ⟨trivial, wide_n, ?_⟩
  refine (callsIn_wide.2 HP).mono ?_
  clear HP
  rintro e w3 ⟨rfl, hT3⟩
  obtain ⟨χ3, ag, K3, ch⟩ := K1.call hT3
  have B3 := B1.call ag ch
  have J3 := Lib.hid (hJ.out _ _ _ _ _ J1.out (Same.chg' ch ag fun x hx k => hCo x k.1 (by omega) hx))
  clear K1 B1 J1 hT3 ag ch
  have hbn : Below w3.heap.size w3 (w3.alloc (BoxN p.1)) := (Below.refl _ w3).alloc (Nat.le_refl _) (BoxN p.1)
  have N5 : Loc c w (paint χ3 w3.heap.size (c + 3)) (w3.alloc (BoxN p.1)) w3.heap.size (BoxN p.1) := Loc.newJ K3 (BoxN p.1)
  have K5 := K3.below hbn
  have B5 := B3.below hbn
  have J5 := Lib.hid (hJ.out _ _ _ _ _ J3.out (Same.below (c + 3) hbn))
  clear K3 B3 J3 hbn
  obtain ⟨⟨b0, b1⟩, -, -⟩ := cells2 (kept_at (w := w3.alloc (BoxN p.1)) (Below.refl _ _) B5.at_)
  gi_wp2_with fail
  refine ⟨trivial, wide_n, ?_⟩
  refine (callsIn_wide.2 (halves_calls _ lo h hh hl)).mono ?_
  rw [← hlo.out]
  rintro e w4 ⟨rfl, hb4⟩
  have K6 := K5.below hb4
  have N6 := N5.below hb4
  have J6 := Lib.hid (hJ.out _ _ _ _ _ J5.out (Same.below (c + 3) hb4))
  clear K5 N5 B5 b0 b1 J5
  have ha1 : Below w4.heap.size w4 (w4.alloc (BoxB lo h)) := (Below.refl _ w4).alloc (Nat.le_refl _) _
  have L7 : Loc c w (paint (paint (paint χ3 w3.heap.size (c + 3)) (w3.alloc (BoxN p.1)).heap.size (c + 3)) w4.heap.size (c + 3)) (w4.alloc (BoxB lo h)) w4.heap.size (BoxB lo h) := Loc.newJ K6 (BoxB lo h)
  have K7 := K6.below ha1
  have N7 := N6.below ha1
  have J7 := Lib.hid (hJ.out _ _ _ _ _ J6.out (Same.below (c + 3) ha1))
  have ha2 : Below (w4.alloc (BoxB lo h)).heap.size (w4.alloc (BoxB lo h)) ((w4.alloc (BoxB lo h)).alloc (BoxB lo2 h)) := (Below.refl _ _).alloc (Nat.le_refl _) _
  have Q8 := Loc.newJ K7 (BoxB lo2 h)
  have K8 := K7.below ha2
  have N8 := N7.below ha2
  have L8 := L7.below ha2
  have J8 := Lib.hid (hJ.out _ _ _ _ _ J7.out (Same.below (c + 3) ha2))
  clear K6 N6 L7 K7 N7 J6 J7 ha1 ha2 hb4
  obtain ⟨χ8, hχ8⟩ : ∃ χ8, χ8 = paint (paint (paint (paint χ3 w3.heap.size (c + 3)) (w3.alloc (BoxN p.1)).heap.size (c + 3)) w4.heap.size (c + 3)) (w4.alloc (BoxB lo h)).heap.size (c + 3) := ⟨_, rfl⟩
  rw [← hχ8] at K8 N8 L8 Q8 J8
  rw [World.size_alloc] at Q8
  clear hχ8
  obtain ⟨n0, n1, l0, l1, q0, q1⟩ := walkLoc N8 L8 Q8
  gi_wp2_with fail
  obtain ⟨W8, hW8⟩ : ∃ W8, W8 = (w4.alloc (BoxB lo h)).alloc (BoxB lo2 h) := ⟨_, rfl⟩
  rw [← hW8] at K8 N8 L8 Q8 J8
  rw [← hW8]
  clear hW8 n0 n1 l0 l1 q0 q1
  obtain ⟨bn, hbn⟩ : ∃ bn, bn = w3.heap.size := ⟨_, rfl⟩
  obtain ⟨bl, hbl⟩ : ∃ bl, bl = w4.heap.size := ⟨_, rfl⟩
  rw [← hbn] at N8 ⊢
  rw [← hbl] at L8 Q8 ⊢
  clear hbn hbl
  have HA := fun n' => IH.out n' _ p.1.l lo p0 (B.1 ++ rest) K8.tr hCo okp kl.1 (by rw [lp.out]; exact kl.2.1) hl1 J8.out (by rw [← hA.out, hxs.out]; simp)
  rw [← hA.out] at HA
  refine ⟨trivial, wide_n, (HA _).mono ?_⟩
  clear HA
  rintro e w5 ⟨χ9, (⟨rfl, K9, J9⟩ | ⟨rfl, ag9, hc9, pre, hpre, hjx⟩)⟩
  · have N9 := N8.walk hCo K9.ag K9.chg
    have L9 := L8.walk hCo K9.ag K9.chg
    have Q9 := Q8.walk hCo K9.ag K9.chg
    have K10 := K8.trans K9
    have J10 := Lib.hid J9
    clear K8 N8 L8 Q8 J8 K9 J9
    obtain ⟨n0, n1, l0, l1, q0, q1⟩ := walkLoc N9 L9 Q9
    gi_wp2_with fail
    have HB := fun n' => IH.out n' _ p.1.r lo2 (p0 ++ A.1) rest K10.tr hCo okA kl.2.2.1 (by rw [lA.out, lp.out]; exact kl.2.2.2) hl2 J10.out (by rw [← hB.out, hxs.out]; simp)
    rw [← hB.out] at HB
    refine ⟨trivial, wide_n, (HB _).mono ?_⟩
    clear HB
    rintro e w6 ⟨χ11, (⟨rfl, K11, J11⟩ | ⟨rfl, ag11, hc11, pre, hpre, hjx⟩)⟩
    · have K12 := K10.trans K11
      have J12 := Lib.hid J11
      clear J11
      gi_wp2
      go_ret
      exact ⟨χ11, .inl ⟨rfl, K12, by rw [← List.append_assoc]; exact J12.out⟩⟩
    · have K12 := K10.stop ag11 hc11
      have JX := Lib.hid hjx
      clear hjx
      gi_wp2
      go_ret
      exact ⟨χ11, .inr ⟨rfl, K12.1, K12.2, pre, hpre, JX.out⟩⟩
  · have K12 := K8.stop ag9 hc9
    have JX := Lib.hid hjx
    clear hjx
    gi_wp2
    refine ⟨trivial, ?_⟩
    gi_wp2
    go_ret
    exact ⟨χ9, .inr ⟨rfl, K12.1, K12.2, pre, hpre, JX.out⟩⟩

theorem walk_calls (l : Nat) {lim : Int} {J Jx : List (Nat × Int) → Col → World → Prop} {xs : List (Nat × Int)} {Co : Nat → Prop} (hJ : Stays Co J) (hY : Rounds Co l J Jx xs) (h : Nat) : h ≤ 32 →
    ∀ (n : Nat) (w : World) {pt : Nat} (i : Int) (lo : Nat) {c : Nat} {χ : Col} {ns : List Nd} {root : Int} (p0 rest : List (Nat × Int)), TrAt c χ w pt ns root lim → (∀ x, c ≤ x → x ≤ c + 3 → ¬ Co x) → OkN ns → 0 ≤ i → i ≤ ns.length → lo + 2 ^ h ≤ 4294967296 →
      J p0 χ w → xs = p0 ++ (walkT h ns i lo).1 ++ rest →
      CallsIn Fence.wide n Try.prog 57 #[.pointer (some ⟨pt, 0, none⟩), .int .i32 i, blk lo h, .func (.yield l) #[] #[]] w (WalkEnd c Co χ w pt root lim J Jx xs p0 (walkT h ns i lo)) := by
  induction h with
  | zero =>
    intro hh n w pt i lo c χ ns root p0 rest hT hCo ok i0 i1 hl h0 hxs
    unfold walkT at hxs ⊢
    by_cases hi : i = 0
    · subst hi; rw [if_pos (Or.inl rfl)]; exact walk_none n w pt lo 0 l hT hCo (Lib.hid hJ) (Lib.hid h0)
    · by_cases hc : (getN ns i).a.c = 0
      · rw [if_pos (Or.inr hc)]; exact walk_dead n w pt lo 0 l i hT hCo (by omega) i1 (Lib.hid hc) (Lib.hid hJ) (Lib.hid h0)
      · rw [if_neg (by simp [hi, hc])] at hxs ⊢
        exact walk_leaf n w pt lo l i hT hCo (by omega) i1 (Lib.hid hc) (Lib.hid hJ) (Lib.hid hY) (Lib.hid h0) (rest := rest) (Lib.hid (by rw [hxs]; simp))
  | succ h ih =>
    intro hh n w pt i lo c χ ns root p0 rest hT hCo ok i0 i1 hl h0 hxs
    unfold walkT at hxs ⊢
    by_cases hi : i = 0
    · subst hi; rw [if_pos (Or.inl rfl)]; exact walk_none n w pt lo (h + 1) l hT hCo (Lib.hid hJ) (Lib.hid h0)
    · by_cases hc : (getN ns i).a.c = 0
      · rw [if_pos (Or.inr hc)]; exact walk_dead n w pt lo (h + 1) l i hT hCo (by omega) i1 (Lib.hid hc) (Lib.hid hJ) (Lib.hid h0)
      · rw [if_neg (by simp [hi, hc])] at hxs ⊢
        have okp := ok.push i
        have kA := walkT_ok h (pushN ns i).2 (pushN ns i).1.l lo okp
        have hk := pushN_kids ns i
        exact walkS h l (by omega) (ih (by omega)) n w pt i lo hT hCo (Lib.hid hJ) (Lib.hid h0) (by omega) i1 ok hl (Lib.hid hc) (Lib.hid rfl) (Lib.hid rfl) (by rw [Nat.pow_succ] at hl; omega)
          (Lib.hid rfl) (Lib.hid rfl) okp kA.1 (Lib.hid kA.2) (Lib.hid (pushN_len ns i)) (by rw [hk.1, hk.2]; exact ok.get i) (rest := rest) (Lib.hid hxs)
end Go.Proofs.Ytcdldjiogoapkaa
