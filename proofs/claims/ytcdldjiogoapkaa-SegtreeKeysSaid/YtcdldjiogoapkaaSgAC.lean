import Derived.Test.YtcdldjiogoapkaaSgAB
namespace Go.Proofs.Ytcdldjiogoapkaa
open Go.RowKit

theorem OkN.alloc {ns : List Nd} (h : OkN ns) (i : Int) : OkN (allocN ns i).2 := by
  unfold allocN
  split
  · intro n hn
    rw [List.length_append]
    rcases List.mem_append.1 hn with k | k
    · have := h n k; simp; omega
    · simp at k; subst k; simp [Nd.zero]; omega
  · exact h

theorem set_ok (key : Nat) (v : Int) (lim : Int) (hv : wrap64 v = v) (h : Nat) : h ≤ 32 → ∀ (ns : List Nd) (t : PT) (lo : Nat), OkN ns → Rep ns t → t.ids.Nodup → Sh h t → Wf h t → lo % 2 ^ h = 0 → lo ≤ key → key < lo + 2 ^ h → (ns.length : Int) + missP key h t ≤ lim →
    setOk lim key (Ag.one v) h ns t.idx ∧ OkN (setT key (Ag.one v) h ns t.idx).2 := by
  have room : ∀ (h : Nat) (ns : List Nd) (t : PT), Rep ns t → (ns.length : Int) + missP key h t ≤ lim → t.idx = 0 → (ns.length : Int) < lim := fun h ns t hr hm e => by
    rw [(idx_nil hr).1 e] at hm
    have : missP key h .nil = (h : Int) + 1 := by cases h <;> rfl
    omega
  induction h with
  | zero =>
    intro hh ns t lo ok hr hd hs hw ha h1 h2 hm
    refine ⟨⟨hr.idx0.1, hr.idx0.2, ok.alloc _, room 0 ns t hr hm⟩, ?_⟩
    exact ((ok.alloc _).push _).setN _ (by simp)
  | succ h ih =>
    intro hh ns t lo ok hr hd hs hw ha h1 h2 hm
    have hl1 : lo % 2 ^ h = 0 := by
      rw [Nat.pow_succ] at ha
      exact Nat.mod_eq_zero_of_dvd (Nat.dvd_trans ⟨2, rfl⟩ (Nat.dvd_of_mod_eq_zero ha))
    have hl2 : (lo + 2 ^ h) % 2 ^ h = 0 := by rw [Nat.add_mod_right]; exact hl1
    have side := rgt_side ha h1 h2
    have okp := (ok.alloc t.idx).push (allocN ns t.idx).1
    obtain ⟨i, a, l1, r1, eA, eP, hr1, hd1, sl, sr, wl, wr, hmis⟩ :
        ∃ (i : Int) (a : Ag) (l1 r1 : PT), (allocN ns t.idx).1 = i ∧ (pushN (allocN ns t.idx).2 (allocN ns t.idx).1).1 = ⟨l1.idx, r1.idx, a, false⟩ ∧
          Rep (pushN (allocN ns t.idx).2 (allocN ns t.idx).1).2 (.node i a false l1 r1) ∧ (PT.node i a false l1 r1).ids.Nodup ∧ Sh h l1 ∧ Sh h r1 ∧ Wf h l1 ∧ Wf h r1 ∧
          ((pushN (allocN ns t.idx).2 (allocN ns t.idx).1).2.length : Int) + (if rgt key h then missP key h r1 else missP key h l1) = ns.length + missP key (h + 1) t := by
      cases t with
      | nil =>
        have ea : allocN ns 0 = ((ns.length : Int) + 1, ns ++ [Nd.zero]) := rfl
        show ∃ (i : Int) (a : Ag) (l1 r1 : PT), (allocN ns 0).1 = i ∧ (pushN (allocN ns 0).2 (allocN ns 0).1).1 = ⟨l1.idx, r1.idx, a, false⟩ ∧
          Rep (pushN (allocN ns 0).2 (allocN ns 0).1).2 (.node i a false l1 r1) ∧ (PT.node i a false l1 r1).ids.Nodup ∧ Sh h l1 ∧ Sh h r1 ∧ Wf h l1 ∧ Wf h r1 ∧
          ((pushN (allocN ns 0).2 (allocN ns 0).1).2.length : Int) + (if rgt key h then missP key h r1 else missP key h l1) = ns.length + missP key (h + 1) .nil
        rw [ea]
        simp only []
        rw [zero_push]
        refine ⟨(ns.length : Int) + 1, Ag.zero, .nil, .nil, rfl, rfl, ⟨by omega, by simp, ?_, trivial, trivial⟩, by simp [PT.ids], ?_, ?_, ?_, ?_, ?_⟩
        · rw [getN_succ _ _ (by simp)]; simp [Nd.zero, PT.idx]
        · cases h <;> trivial
        · cases h <;> trivial
        · cases h <;> trivial
        · cases h <;> trivial
        · have : ∀ h, missP key h .nil = (h : Int) + 1 := fun h => by cases h <;> rfl
          rw [this, this]; simp; omega
      | node i a k l r =>
        have hi := hr.1
        have ea : allocN ns i = (i, ns) := if_neg (by omega)
        obtain ⟨l1, r1, p1, p2, p3, p4, p5, p6, p7, p8, p9, p10⟩ := push_law2 hr hd hs hw
        have hd1 : (PT.node i a false l1 r1).ids.Nodup := nodup_like hd p3 p4
        show ∃ (i' : Int) (a : Ag) (l1 r1 : PT), (allocN ns i).1 = i' ∧ (pushN (allocN ns i).2 (allocN ns i).1).1 = ⟨l1.idx, r1.idx, a, false⟩ ∧
          Rep (pushN (allocN ns i).2 (allocN ns i).1).2 (.node i' a false l1 r1) ∧ (PT.node i' a false l1 r1).ids.Nodup ∧ Sh h l1 ∧ Sh h r1 ∧ Wf h l1 ∧ Wf h r1 ∧
          ((pushN (allocN ns i).2 (allocN ns i).1).2.length : Int) + (if rgt key h then missP key h r1 else missP key h l1) = ns.length + missP key (h + 1) (.node i a k l r)
        rw [ea]
        simp only []
        refine ⟨i, a, l1, r1, rfl, by rw [p1, p3.idx, p4.idx], p2, hd1, p3.sh, p4.sh, p5, p6, ?_⟩
        rw [pushN_len, p8, p9]; rfl
    generalize hms : (pushN (allocN ns t.idx).2 (allocN ns t.idx).1).2 = ms at *
    have b1 := hr1.2.1
    have b2 := hr1.2.2.2.1.idx0
    have b3 := hr1.2.2.2.2.idx0
    have main : ∀ (c : PT) (lo' : Nat), Rep ms c → c.ids.Nodup → Sh h c → Wf h c → lo' % 2 ^ h = 0 → lo' ≤ key → key < lo' + 2 ^ h → (ms.length : Int) + missP key h c ≤ lim → c.idx = (⟨l1.idx, r1.idx, a, false⟩ : Nd).kid key h →
        (∀ x y, (⟨l1.idx, r1.idx, a, false⟩ : Nd).put key h x = y → ∀ m : Nat, ms.length ≤ m → 1 ≤ x → x ≤ (m : Int) → 0 ≤ y.l ∧ y.l ≤ (m : Int) ∧ 0 ≤ y.r ∧ y.r ≤ (m : Int)) →
        setOk lim key (Ag.one v) (h + 1) ns t.idx ∧ OkN (setT key (Ag.one v) (h + 1) ns t.idx).2 := fun c lo' c1 c2 c3 c4 c5 c6 c7 c8 c9 c10 => by
      obtain ⟨k1, k2⟩ := ih (by omega) ms c lo' okp c1 c2 c3 c4 c5 c6 c7 c8
      obtain ⟨t2, L⟩ := set_law key v hv h (by omega) ms c lo' c1 c2 c3 c4 c5 c6 c7
      have x1 := L.rep.idx0
      have x2 : 1 ≤ t2.idx := by
        have : t2.idx ≠ 0 := fun e => L.ne ((idx_nil L.rep).1 e)
        omega
      rw [L.idx] at x1 x2
      have x3 := L.ge
      refine ⟨⟨hr.idx0.1, hr.idx0.2, ok.alloc _, room (h + 1) ns t hr hm, ?_, ?_⟩, ?_⟩
      · rw [eP, hms, ← c9]; exact k1
      · intro n q hn hq
        rw [eP, hms, ← c9] at hq
        subst hq
        rw [eP] at hn
        have := c10 _ n hn.symm _ x3 x2 x1.2
        exact ⟨by rw [eA]; omega, this⟩
      · show OkN (joinN (setT key (Ag.one v) h (pushN (allocN ns t.idx).2 (allocN ns t.idx).1).2 ((pushN (allocN ns t.idx).2 (allocN ns t.idx).1).1.kid key h)).2 (allocN ns t.idx).1
            ((pushN (allocN ns t.idx).2 (allocN ns t.idx).1).1.put key h (setT key (Ag.one v) h (pushN (allocN ns t.idx).2 (allocN ns t.idx).1).2 ((pushN (allocN ns t.idx).2 (allocN ns t.idx).1).1.kid key h)).1))
        rw [eP, hms, ← c9]
        exact k2.join _ (c10 _ _ rfl _ x3 x2 x1.2)
    cases hb : rgt key h with
    | true =>
      rw [hb] at hmis
      have hge := side.1 hb
      refine main r1 (lo + 2 ^ h) hr1.2.2.2.2 (nodup_node hd1).2.2.2.1 sr wr hl2 hge (by rw [Nat.pow_succ] at h2; omega) (by rw [if_pos rfl] at hmis; omega) (if_pos hb).symm ?_
      intro x y e m hm1 hx1 hx2
      have : (⟨l1.idx, r1.idx, a, false⟩ : Nd).put key h x = ⟨l1.idx, x, a, false⟩ := if_pos hb
      rw [this] at e
      subst e
      exact ⟨b2.1, by show l1.idx ≤ _; omega, by show (0 : Int) ≤ x; omega, hx2⟩
    | false =>
      rw [hb] at hmis
      have hge : key < lo + 2 ^ h := by
        rcases Nat.lt_or_ge key (lo + 2 ^ h) with k | k
        · exact k
        · rw [side.2 k] at hb; cases hb
      refine main l1 lo hr1.2.2.2.1 (nodup_node hd1).2.2.1 sl wl hl1 h1 hge (by rw [if_neg (by simp)] at hmis; omega) (if_neg (by rw [hb]; simp)).symm ?_
      intro x y e m hm1 hx1 hx2
      have : (⟨l1.idx, r1.idx, a, false⟩ : Nd).put key h x = ⟨x, r1.idx, a, false⟩ := if_neg (by rw [hb]; simp)
      rw [this] at e
      subst e
      exact ⟨by show (0 : Int) ≤ x; omega, hx2, b3.1, by show r1.idx ≤ _; omega⟩
end Go.Proofs.Ytcdldjiogoapkaa
