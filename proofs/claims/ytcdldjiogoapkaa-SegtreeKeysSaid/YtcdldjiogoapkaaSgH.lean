import Derived.Test.YtcdldjiogoapkaaSgG
namespace Go.Proofs.Ytcdldjiogoapkaa
open Go.RowKit
attribute [local go_sem] World.cell?_alloc_some frozen_alloc_some field_na field_ac field_as

/-- The node that a key goes to is another one. -/
def Nd.put (n : Nd) (key h : Nat) (j : Int) : Nd := if rgt key h then { n with r := j } else { n with l := j }
def allocN (ns : List Nd) (i : Int) : Int × List Nd := if i = 0 then ((ns.length : Int) + 1, ns ++ [Nd.zero]) else (i, ns)
/-- What set does, on the row of nodes. -/
def setT (key : Nat) (a : Ag) : Nat → List Nd → Int → Int × List Nd
  | 0, ns, i => ((allocN ns i).1, setN (pushN (allocN ns i).2 (allocN ns i).1).2 (allocN ns i).1 ⟨0, 0, a, false⟩)
  | h + 1, ns, i =>
    ((allocN ns i).1, joinN (setT key a h (pushN (allocN ns i).2 (allocN ns i).1).2 ((pushN (allocN ns i).2 (allocN ns i).1).1.kid key h)).2 (allocN ns i).1
      ((pushN (allocN ns i).2 (allocN ns i).1).1.put key h (setT key a h (pushN (allocN ns i).2 (allocN ns i).1).2 ((pushN (allocN ns i).2 (allocN ns i).1).1.kid key h)).1))
/-- When set may be called. -/
def setOk (lim : Int) (key : Nat) (a : Ag) : Nat → List Nd → Int → Prop
  | 0, ns, i => 0 ≤ i ∧ i ≤ ns.length ∧ OkN (allocN ns i).2 ∧ (i = 0 → (ns.length : Int) < lim)
  | h + 1, ns, i => 0 ≤ i ∧ i ≤ ns.length ∧ OkN (allocN ns i).2 ∧ (i = 0 → (ns.length : Int) < lim) ∧
    setOk lim key a h (pushN (allocN ns i).2 (allocN ns i).1).2 ((pushN (allocN ns i).2 (allocN ns i).1).1.kid key h) ∧
    ∀ n q, n = (pushN (allocN ns i).2 (allocN ns i).1).1.put key h q.1 → q = setT key a h (pushN (allocN ns i).2 (allocN ns i).1).2 ((pushN (allocN ns i).2 (allocN ns i).1).1.kid key h) →
      (allocN ns i).1 ≤ q.2.length ∧ 0 ≤ n.l ∧ n.l ≤ q.2.length ∧ 0 ≤ n.r ∧ n.r ≤ q.2.length

theorem pushN_len (ns : List Nd) (i : Int) : (pushN ns i).2.length = ns.length := by
  unfold pushN; split <;> simp [setN_len, killN_len]

abbrev BoxA (a : Ag) : Obj := .cells #[.int .i64 a.c, .int .i64 a.s, .int .i64 a.mn, .int .i64 a.mx] 38
abbrev BoxN (n : Nd) : Obj := .cells #[.int .i32 n.l, .int .i32 n.r, .int .i64 n.a.c, .int .i64 n.a.s, .int .i64 n.a.mn, .int .i64 n.a.mx, .bool n.k] 95

theorem TrTo.trans {c pt : Nat} {χ0 χ1 : Col} {w0 w1 w2 : World} {ns root lim} (hag : ∀ b, b < w0.heap.size → χ1 b = χ0 b) (hc : Chg χ0 (fun x => c ≤ x ∧ x ≤ c + 2) w0 w1) (h : TrTo c χ1 w1 w2 pt ns root lim) : TrTo c χ0 w0 w2 pt ns root lim := by
  obtain ⟨χ2, h1, h2, h3⟩ := h
  exact ⟨χ2, fun b hb => (h1 b (Nat.lt_of_lt_of_le hb hc.size)).trans (hag b hb), h2, hc.trans hag h3⟩

set_option maxRecDepth 100000 in
set_option maxHeartbeats 4000000 in
theorem set0_calls (w : World) (pt key : Nat) (a : Ag) (i : Int) {c : Nat} {χ : Col} {ns : List Nd} {root lim : Int} (h : TrAt c χ w pt ns root lim) (hok : setOk lim key a 0 ns i) :
    Calls Try.prog 32 #[.pointer (some ⟨pt, 0, none⟩), .int .i32 i, .int .i64 0, .int .u32 key, a.val] w fun e w' =>
      e = .returned (.int .i32 (setT key a 0 ns i).1) ∧ TrTo c χ w w' pt (setT key a 0 ns i).2 root lim := by
  obtain ⟨i0, i1, ok, hroom⟩ := hok
  obtain ⟨R, hR⟩ : ∃ R, R = setT key a 0 ns i := ⟨_, rfl⟩
  rw [← hR]
  have K1 := (Trk.start h).below ((Below.refl _ w).alloc (Nat.le_refl _) (BoxA a))
  have A1 := Loc.new (Trk.start h) (BoxA a)
  by_cases hi : i = 0
  · subst hi
    have hl : (ns.length : Int) < lim := hroom rfl
    have ok : OkN (ns ++ [Nd.zero]) := ok
    obtain ⟨qa, -, q1, -, -, -, ha⟩ := id K1.tr
    have hRl : R = ((ns.length : Int) + 1, setN (pushN (ns ++ [Nd.zero]) ((ns.length : Int) + 1)).2 ((ns.length : Int) + 1) ⟨0, 0, a, false⟩) := hR
    clear hR
    go_enter Try.func32, Try.ntmps32
    go_wp2_with fail
    refine (alloc_calls _ _ ha hl).mono ?_
    rintro e w2 ⟨⟨u, rfl⟩, hA⟩
    obtain ⟨χ2, ag, K2, ch⟩ := K1.call (TrTo.of_ar K1.tr (Below.refl _ _) q1 hA)
    have A2 := A1.call ag ch
    have j0 : (1 : Int) ≤ (ns.length : Int) + 1 := by omega
    have j1 : (ns.length : Int) + 1 ≤ ((ns ++ [Nd.zero]).length : Int) := by simp
    clear hA ag ch K1 A1 q1 ha
    obtain ⟨j, hj⟩ : ∃ j, j = (ns.length : Int) + 1 := ⟨_, rfl⟩
    obtain ⟨ms, hms⟩ : ∃ ms, ms = ns ++ [Nd.zero] := ⟨_, rfl⟩
    rw [← hms] at ok K2 hRl
    rw [← hj] at j0 hRl
    rw [← hj, ← hms] at j1
    rw [← hj]
    clear hj hms
    obtain ⟨p, hp⟩ : ∃ p, p = pushN ms j := ⟨_, rfl⟩
    have HP := push_calls w2 pt j K2.tr ok j0 j1
    have hpl : p.2.length = ms.length := by rw [hp]; exact pushN_len _ _
    rw [← hp] at HP hRl
    clear hp
    have HU := Lib.hid hRl
    clear hRl
    go_wp2_with fail
    refine HP.mono ?_
    rintro e w3 ⟨rfl, hT⟩
    obtain ⟨χ3, ag, K3, ch⟩ := K2.call hT
    have A3 := A2.call ag ch
    have K4 := K3.below ((Below.refl _ w3).alloc (Nat.le_refl _) (BoxN p.1))
    have A4 := A3.below ((Below.refl _ w3).alloc (Nat.le_refl _) (BoxN p.1))
    have L4 := Loc.new K3 (BoxN p.1)
    clear HP hT ag ch K2 A2 K3 A3
    go_wp2
    obtain ⟨W4, hW4⟩ : ∃ W4, W4 = w3.alloc (BoxN p.1) := ⟨_, rfl⟩
    rw [← hW4] at K4 A4 L4 ⊢
    clear hW4
    obtain ⟨⟨x0, x1, x2, x3⟩, y0, y1, y2, y3⟩ := cells4 A4.at_
    obtain ⟨qa, -, q1, -, -, -, ha⟩ := id K4.tr
    have HA := Lib.hid (ha.keep (w' := W4.drew) (Same.below' (undrew_r (Below.refl _ _))))
    clear ha
    go_region_law (go_simp; go_at_call 47; refine (set_calls _ _ j ⟨0, 0, a, false⟩ HA.out (by omega) (by omega)).mono ?_; rintro e w5 ⟨rfl, hA⟩)
    all_goals
      obtain ⟨χ5, ag, K5, ch⟩ := K4.call (TrTo.of_ar K4.tr (undrew_r (Below.refl _ _)) q1 hA)
      go_wp2
      go_ret
      rw [HU.out]
      exact ⟨rfl, K5.to⟩
  · have hw2 : ∃ w2, w2 = w.alloc (BoxA a) := ⟨_, rfl⟩
    have j0 : (1 : Int) ≤ i := by omega
    have j1 := i1
    have K2 := K1; have A2 := A1
    clear K1 A1
    have ha1 : allocN ns i = (i, ns) := if_neg hi
    have hRl : R = (i, setN (pushN ns i).2 i ⟨0, 0, a, false⟩) := by rw [hR]; show (_, _) = _; rw [ha1]
    rw [ha1] at ok
    have ok : OkN ns := ok
    clear hR ha1
    go_enter Try.func32, Try.ntmps32
    go_wp2_with fail
    obtain ⟨w2, hw2⟩ := hw2
    rw [← hw2] at K2 A2 ⊢
    clear hw2
    obtain ⟨χ2, hχ2⟩ : ∃ χ2, χ2 = paint χ w.heap.size (c + 3) := ⟨_, rfl⟩
    rw [← hχ2] at K2 A2
    clear hχ2
    obtain ⟨ms, hms⟩ : ∃ ms, ms = ns := ⟨_, rfl⟩
    rw [← hms] at ok K2 j1 hRl
    obtain ⟨j, hj⟩ : ∃ j, j = i := ⟨_, rfl⟩
    rw [← hj] at j0 j1 hRl
    rw [← hj]
    clear hj hms
    obtain ⟨p, hp⟩ : ∃ p, p = pushN ms j := ⟨_, rfl⟩
    have HP := push_calls w2 pt j K2.tr ok j0 j1
    have hpl : p.2.length = ms.length := by rw [hp]; exact pushN_len _ _
    rw [← hp] at HP hRl
    clear hp
    have HU := Lib.hid hRl
    clear hRl
    refine HP.mono ?_
    rintro e w3 ⟨rfl, hT⟩
    obtain ⟨χ3, ag, K3, ch⟩ := K2.call hT
    have A3 := A2.call ag ch
    have K4 := K3.below ((Below.refl _ w3).alloc (Nat.le_refl _) (BoxN p.1))
    have A4 := A3.below ((Below.refl _ w3).alloc (Nat.le_refl _) (BoxN p.1))
    have L4 := Loc.new K3 (BoxN p.1)
    clear HP hT ag ch K2 A2 K3 A3
    go_wp2
    obtain ⟨W4, hW4⟩ : ∃ W4, W4 = w3.alloc (BoxN p.1) := ⟨_, rfl⟩
    rw [← hW4] at K4 A4 L4 ⊢
    clear hW4
    obtain ⟨⟨x0, x1, x2, x3⟩, y0, y1, y2, y3⟩ := cells4 A4.at_
    obtain ⟨qa, -, q1, -, -, -, ha⟩ := id K4.tr
    have HA := Lib.hid (ha.keep (w' := W4.drew) (Same.below' (undrew_r (Below.refl _ _))))
    clear ha
    go_region_law (go_simp; go_at_call 47; refine (set_calls _ _ j ⟨0, 0, a, false⟩ HA.out (by omega) (by omega)).mono ?_; rintro e w5 ⟨rfl, hA⟩)
    all_goals
      obtain ⟨χ5, ag, K5, ch⟩ := K4.call (TrTo.of_ar K4.tr (undrew_r (Below.refl _ _)) q1 hA)
      go_wp2
      go_ret
      rw [HU.out]
      exact ⟨rfl, K5.to⟩

set_option maxRecDepth 100000 in
set_option maxHeartbeats 8000000 in
theorem setS_calls (key : Nat) (a : Ag) (h : Nat) (hh : h < 32) (k2 : key < 4294967296) {lim : Int}
    (ih : ∀ (w : World) {pt : Nat} (i : Int) {c : Nat} {χ : Col} {ns : List Nd} {root : Int}, TrAt c χ w pt ns root lim → setOk lim key a h ns i →
      Calls Try.prog 32 #[.pointer (some ⟨pt, 0, none⟩), .int .i32 i, .int .i64 h, .int .u32 key, a.val] w fun e w' =>
        e = .returned (.int .i32 (setT key a h ns i).1) ∧ TrTo c χ w w' pt (setT key a h ns i).2 root lim)
    (w : World) (pt : Nat) (i : Int) {c : Nat} {χ : Col} {ns : List Nd} {root : Int} (hT : TrAt c χ w pt ns root lim) (hok : setOk lim key a (h + 1) ns i) :
    Calls Try.prog 32 #[.pointer (some ⟨pt, 0, none⟩), .int .i32 i, .int .i64 ((h : Int) + 1), .int .u32 key, a.val] w fun e w' =>
      e = .returned (.int .i32 (setT key a (h + 1) ns i).1) ∧ TrTo c χ w w' pt (setT key a (h + 1) ns i).2 root lim := by
  have IH := Lib.hid @ih
  clear ih
  obtain ⟨i0, i1, ok, hroom, hsub, hjn⟩ := hok
  obtain ⟨R, hR⟩ : ∃ R, R = setT key a (h + 1) ns i := ⟨_, rfl⟩
  rw [← hR]
  have K1 := (Trk.start hT).below ((Below.refl _ w).alloc (Nat.le_refl _) (BoxA a))
  have A1 := Loc.new (Trk.start hT) (BoxA a)
  by_cases hi : i = 0
  · subst hi
    have hl : (ns.length : Int) < lim := hroom rfl
    have ok : OkN (ns ++ [Nd.zero]) := ok
    obtain ⟨qa, -, q1, -, -, -, ha⟩ := id K1.tr
    have hRl : R = ((ns.length : Int) + 1, joinN (setT key a h (pushN (ns ++ [Nd.zero]) ((ns.length : Int) + 1)).2 ((pushN (ns ++ [Nd.zero]) ((ns.length : Int) + 1)).1.kid key h)).2 ((ns.length : Int) + 1) ((pushN (ns ++ [Nd.zero]) ((ns.length : Int) + 1)).1.put key h (setT key a h (pushN (ns ++ [Nd.zero]) ((ns.length : Int) + 1)).2 ((pushN (ns ++ [Nd.zero]) ((ns.length : Int) + 1)).1.kid key h)).1)) := hR
    clear hR
    have hsub : setOk lim key a h (pushN (ns ++ [Nd.zero]) ((ns.length : Int) + 1)).2 ((pushN (ns ++ [Nd.zero]) ((ns.length : Int) + 1)).1.kid key h) := hsub
    have hjn : ∀ n q, n = (pushN (ns ++ [Nd.zero]) ((ns.length : Int) + 1)).1.put key h q.1 → q = setT key a h (pushN (ns ++ [Nd.zero]) ((ns.length : Int) + 1)).2 ((pushN (ns ++ [Nd.zero]) ((ns.length : Int) + 1)).1.kid key h) → ((ns.length : Int) + 1) ≤ q.2.length ∧ 0 ≤ n.l ∧ n.l ≤ q.2.length ∧ 0 ≤ n.r ∧ n.r ≤ q.2.length := hjn
    go_enter Try.func32, Try.ntmps32
    go_wp2_with fail
    refine (alloc_calls _ _ ha hl).mono ?_
    rintro e w2 ⟨⟨u, rfl⟩, hA⟩
    obtain ⟨χ2, ag, K2, ch⟩ := K1.call (TrTo.of_ar K1.tr (Below.refl _ _) q1 hA)
    have A2 := A1.call ag ch
    have j0 : (1 : Int) ≤ (ns.length : Int) + 1 := by omega
    have j1 : (ns.length : Int) + 1 ≤ ((ns ++ [Nd.zero]).length : Int) := by simp
    clear hA ag ch K1 A1 q1 ha
    obtain ⟨j, hj⟩ : ∃ j, j = (ns.length : Int) + 1 := ⟨_, rfl⟩
    obtain ⟨ms, hms⟩ : ∃ ms, ms = ns ++ [Nd.zero] := ⟨_, rfl⟩
    rw [← hms] at ok K2 hRl hsub hjn
    rw [← hj] at j0 hRl hsub hjn
    rw [← hj, ← hms] at j1
    rw [← hj]
    clear hj hms
    obtain ⟨p, hp⟩ : ∃ p, p = pushN ms j := ⟨_, rfl⟩
    have HP := push_calls w2 pt j K2.tr ok j0 j1
    rw [← hp] at HP hRl hsub hjn
    clear hp
    obtain ⟨q, hq⟩ : ∃ q, q = setT key a h p.2 (p.1.kid key h) := ⟨_, rfl⟩
    have hn := hjn _ q rfl hq
    rw [← hq] at hRl
    clear hjn
    have HU := Lib.hid hRl
    clear hRl
    go_wp2_with fail
    refine HP.mono ?_
    rintro e w3 ⟨rfl, hT⟩
    obtain ⟨χ3, ag, K3, ch⟩ := K2.call hT
    have A3 := A2.call ag ch
    have K4 := K3.below ((Below.refl _ w3).alloc (Nat.le_refl _) (BoxN p.1))
    have A4 := A3.below ((Below.refl _ w3).alloc (Nat.le_refl _) (BoxN p.1))
    have L4 := Loc.new K3 (BoxN p.1)
    clear HP hT ag ch K2 A2 K3 A3
    go_wp2_with fail
    obtain ⟨W4, hW4⟩ : ∃ W4, W4 = w3.alloc (BoxN p.1) := ⟨_, rfl⟩
    rw [← hW4] at K4 A4 L4 ⊢
    clear hW4
    refine (right_calls _ key h hh k2).mono ?_
    rintro e w5 ⟨rfl, rfl⟩
    obtain ⟨⟨x0, x1, x2, x3⟩, y0, y1, y2, y3⟩ := cells4 A4.at_
    obtain ⟨⟨z0, z1, z2, z3, z4, z5, z6⟩, u0, u1, u2, u3, u4, u5, u6⟩ := cells7 L4.at_
    cases hr : rgt key h with
    | true =>
      have hk : p.1.kid key h = p.1.r := if_pos hr
      have hpt : p.1.put key h q.1 = { p.1 with r := q.1 } := if_pos hr
      rw [hk] at hsub hq
      rw [hpt] at hn
      obtain ⟨n0, n1, n2, n3, n4⟩ := hn
      have HIH0 := IH.out _ p.1.r K4.tr hsub
      rw [← hq] at HIH0
      have HIH := Lib.hid HIH0
      clear HIH0 hq hk
      have HPT := Lib.hid hpt
      clear hpt
      go_wp2_with fail
      refine HIH.out.mono ?_
      clear HIH
      rintro e w6 ⟨rfl, hT⟩
      obtain ⟨χ5, ag, K5, ch⟩ := K4.call hT
      have A5 := A4.call ag ch
      have L5 := L4.call ag ch
      clear x0 x1 x2 x3 y0 y1 y2 y3 z0 z1 z2 z3 z4 z5 z6 u0 u1 u2 u3 u4 u5 u6 hT ag ch K4 A4 L4 A5
      obtain ⟨⟨z0, z1, z2, z3, z4, z5, z6⟩, u0, u1, u2, u3, u4, u5, u6⟩ := cells7 L5.at_
      have K6 := K5.set L5 1 (.int .i32 q.1)
      go_wp2_with fail
      refine (join_calls _ _ j { p.1 with r := q.1 } K6.tr j0 n0 n1 n2 n3 n4).mono ?_
      rintro e w7 ⟨rfl, hT⟩
      obtain ⟨χ7, ag, K7, ch⟩ := K6.call hT
      go_wp2
      go_ret
      rw [HU.out, HPT.out]
      exact ⟨rfl, K7.to⟩
    | false =>
      have hk : p.1.kid key h = p.1.l := (if_neg (by rw [hr]; exact Bool.false_ne_true))
      have hpt : p.1.put key h q.1 = { p.1 with l := q.1 } := (if_neg (by rw [hr]; exact Bool.false_ne_true))
      rw [hk] at hsub hq
      rw [hpt] at hn
      obtain ⟨n0, n1, n2, n3, n4⟩ := hn
      have HIH0 := IH.out _ p.1.l K4.tr hsub
      rw [← hq] at HIH0
      have HIH := Lib.hid HIH0
      clear HIH0 hq hk
      have HPT := Lib.hid hpt
      clear hpt
      go_wp2_with fail
      refine HIH.out.mono ?_
      clear HIH
      rintro e w6 ⟨rfl, hT⟩
      obtain ⟨χ5, ag, K5, ch⟩ := K4.call hT
      have A5 := A4.call ag ch
      have L5 := L4.call ag ch
      clear x0 x1 x2 x3 y0 y1 y2 y3 z0 z1 z2 z3 z4 z5 z6 u0 u1 u2 u3 u4 u5 u6 hT ag ch K4 A4 L4 A5
      obtain ⟨⟨z0, z1, z2, z3, z4, z5, z6⟩, u0, u1, u2, u3, u4, u5, u6⟩ := cells7 L5.at_
      have K6 := K5.set L5 0 (.int .i32 q.1)
      go_wp2_with fail
      refine (join_calls _ _ j { p.1 with l := q.1 } K6.tr j0 n0 n1 n2 n3 n4).mono ?_
      rintro e w7 ⟨rfl, hT⟩
      obtain ⟨χ7, ag, K7, ch⟩ := K6.call hT
      go_wp2
      go_ret
      rw [HU.out, HPT.out]
      exact ⟨rfl, K7.to⟩
  · have hw2 : ∃ w2, w2 = w.alloc (BoxA a) := ⟨_, rfl⟩
    have j0 : (1 : Int) ≤ i := by omega
    have j1 := i1
    have K2 := K1; have A2 := A1
    clear K1 A1
    have ha1 : allocN ns i = (i, ns) := if_neg hi
    have hRl : R = (i, joinN (setT key a h (pushN ns i).2 ((pushN ns i).1.kid key h)).2 i ((pushN ns i).1.put key h (setT key a h (pushN ns i).2 ((pushN ns i).1.kid key h)).1)) := by rw [hR]; show (_, _) = _; rw [ha1]
    rw [ha1] at ok hsub hjn
    have ok : OkN ns := ok
    clear hR ha1
    have hsub : setOk lim key a h (pushN ns i).2 ((pushN ns i).1.kid key h) := hsub
    have hjn : ∀ n q, n = (pushN ns i).1.put key h q.1 → q = setT key a h (pushN ns i).2 ((pushN ns i).1.kid key h) → i ≤ q.2.length ∧ 0 ≤ n.l ∧ n.l ≤ q.2.length ∧ 0 ≤ n.r ∧ n.r ≤ q.2.length := hjn
    go_enter Try.func32, Try.ntmps32
    go_wp2_with fail
    obtain ⟨w2, hw2⟩ := hw2
    rw [← hw2] at K2 A2 ⊢
    clear hw2
    obtain ⟨χ2, hχ2⟩ : ∃ χ2, χ2 = paint χ w.heap.size (c + 3) := ⟨_, rfl⟩
    rw [← hχ2] at K2 A2
    clear hχ2
    obtain ⟨ms, hms⟩ : ∃ ms, ms = ns := ⟨_, rfl⟩
    rw [← hms] at ok K2 j1 hRl hsub hjn
    obtain ⟨j, hj⟩ : ∃ j, j = i := ⟨_, rfl⟩
    rw [← hj] at j0 j1 hRl hsub hjn
    rw [← hj]
    clear hj hms
    obtain ⟨p, hp⟩ : ∃ p, p = pushN ms j := ⟨_, rfl⟩
    have HP := push_calls w2 pt j K2.tr ok j0 j1
    rw [← hp] at HP hRl hsub hjn
    clear hp
    obtain ⟨q, hq⟩ : ∃ q, q = setT key a h p.2 (p.1.kid key h) := ⟨_, rfl⟩
    have hn := hjn _ q rfl hq
    rw [← hq] at hRl
    clear hjn
    have HU := Lib.hid hRl
    clear hRl
    refine HP.mono ?_
    rintro e w3 ⟨rfl, hT⟩
    obtain ⟨χ3, ag, K3, ch⟩ := K2.call hT
    have A3 := A2.call ag ch
    have K4 := K3.below ((Below.refl _ w3).alloc (Nat.le_refl _) (BoxN p.1))
    have A4 := A3.below ((Below.refl _ w3).alloc (Nat.le_refl _) (BoxN p.1))
    have L4 := Loc.new K3 (BoxN p.1)
    clear HP hT ag ch K2 A2 K3 A3
    go_wp2_with fail
    obtain ⟨W4, hW4⟩ : ∃ W4, W4 = w3.alloc (BoxN p.1) := ⟨_, rfl⟩
    rw [← hW4] at K4 A4 L4 ⊢
    clear hW4
    refine (right_calls _ key h hh k2).mono ?_
    rintro e w5 ⟨rfl, rfl⟩
    obtain ⟨⟨x0, x1, x2, x3⟩, y0, y1, y2, y3⟩ := cells4 A4.at_
    obtain ⟨⟨z0, z1, z2, z3, z4, z5, z6⟩, u0, u1, u2, u3, u4, u5, u6⟩ := cells7 L4.at_
    cases hr : rgt key h with
    | true =>
      have hk : p.1.kid key h = p.1.r := if_pos hr
      have hpt : p.1.put key h q.1 = { p.1 with r := q.1 } := if_pos hr
      rw [hk] at hsub hq
      rw [hpt] at hn
      obtain ⟨n0, n1, n2, n3, n4⟩ := hn
      have HIH0 := IH.out _ p.1.r K4.tr hsub
      rw [← hq] at HIH0
      have HIH := Lib.hid HIH0
      clear HIH0 hq hk
      have HPT := Lib.hid hpt
      clear hpt
      go_wp2_with fail
      refine HIH.out.mono ?_
      clear HIH
      rintro e w6 ⟨rfl, hT⟩
      obtain ⟨χ5, ag, K5, ch⟩ := K4.call hT
      have A5 := A4.call ag ch
      have L5 := L4.call ag ch
      clear x0 x1 x2 x3 y0 y1 y2 y3 z0 z1 z2 z3 z4 z5 z6 u0 u1 u2 u3 u4 u5 u6 hT ag ch K4 A4 L4 A5
      obtain ⟨⟨z0, z1, z2, z3, z4, z5, z6⟩, u0, u1, u2, u3, u4, u5, u6⟩ := cells7 L5.at_
      have K6 := K5.set L5 1 (.int .i32 q.1)
      go_wp2_with fail
      refine (join_calls _ _ j { p.1 with r := q.1 } K6.tr j0 n0 n1 n2 n3 n4).mono ?_
      rintro e w7 ⟨rfl, hT⟩
      obtain ⟨χ7, ag, K7, ch⟩ := K6.call hT
      go_wp2
      go_ret
      rw [HU.out, HPT.out]
      exact ⟨rfl, K7.to⟩
    | false =>
      have hk : p.1.kid key h = p.1.l := (if_neg (by rw [hr]; exact Bool.false_ne_true))
      have hpt : p.1.put key h q.1 = { p.1 with l := q.1 } := (if_neg (by rw [hr]; exact Bool.false_ne_true))
      rw [hk] at hsub hq
      rw [hpt] at hn
      obtain ⟨n0, n1, n2, n3, n4⟩ := hn
      have HIH0 := IH.out _ p.1.l K4.tr hsub
      rw [← hq] at HIH0
      have HIH := Lib.hid HIH0
      clear HIH0 hq hk
      have HPT := Lib.hid hpt
      clear hpt
      go_wp2_with fail
      refine HIH.out.mono ?_
      clear HIH
      rintro e w6 ⟨rfl, hT⟩
      obtain ⟨χ5, ag, K5, ch⟩ := K4.call hT
      have A5 := A4.call ag ch
      have L5 := L4.call ag ch
      clear x0 x1 x2 x3 y0 y1 y2 y3 z0 z1 z2 z3 z4 z5 z6 u0 u1 u2 u3 u4 u5 u6 hT ag ch K4 A4 L4 A5
      obtain ⟨⟨z0, z1, z2, z3, z4, z5, z6⟩, u0, u1, u2, u3, u4, u5, u6⟩ := cells7 L5.at_
      have K6 := K5.set L5 0 (.int .i32 q.1)
      go_wp2_with fail
      refine (join_calls _ _ j { p.1 with l := q.1 } K6.tr j0 n0 n1 n2 n3 n4).mono ?_
      rintro e w7 ⟨rfl, hT⟩
      obtain ⟨χ7, ag, K7, ch⟩ := K6.call hT
      go_wp2
      go_ret
      rw [HU.out, HPT.out]
      exact ⟨rfl, K7.to⟩

theorem tset_calls (key : Nat) (a : Ag) (k2 : key < 4294967296) {lim : Int} (h : Nat) : h ≤ 32 → ∀ (w : World) {pt : Nat} (i : Int) {c : Nat} {χ : Col} {ns : List Nd} {root : Int}, TrAt c χ w pt ns root lim → setOk lim key a h ns i →
    Calls Try.prog 32 #[.pointer (some ⟨pt, 0, none⟩), .int .i32 i, .int .i64 h, .int .u32 key, a.val] w fun e w' =>
      e = .returned (.int .i32 (setT key a h ns i).1) ∧ TrTo c χ w w' pt (setT key a h ns i).2 root lim := by
  induction h with
  | zero => exact fun _ w pt i c χ ns root hT hok => set0_calls w pt key a i hT hok
  | succ h ih =>
    intro hh w pt i c χ ns root hT hok
    have := setS_calls key a h (by omega) k2 (ih (by omega)) w pt i hT hok
    rwa [show (((h + 1 : Nat)) : Int) = (h : Int) + 1 from by omega]
end Go.Proofs.Ytcdldjiogoapkaa
