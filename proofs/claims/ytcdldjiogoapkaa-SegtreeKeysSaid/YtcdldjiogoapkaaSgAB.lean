import Derived.Test.YtcdldjiogoapkaaSgAA
namespace Go.Proofs.Ytcdldjiogoapkaa
open Go.RowKit

theorem missP_like {key h : Nat} {i : Int} {a : Ag} {k : Bool} {l r : PT} (b : Bool) (hb : rgt key h = b) : missP key (h + 1) (.node i a k l r) = if b then missP key h r else missP key h l := by
  show (if rgt key h then _ else _) = _
  rw [hb]



theorem push_law2 {h : Nat} {ns : List Nd} {i : Int} {a : Ag} {k : Bool} {l r : PT} (hr : Rep ns (.node i a k l r)) (hd : (PT.node i a k l r).ids.Nodup) (hs : Sh (h + 1) (.node i a k l r)) (hw : Wf (h + 1) (.node i a k l r)) :
    ∃ l' r', (pushN ns i).1 = ⟨l.idx, r.idx, a, false⟩ ∧ Rep (pushN ns i).2 (.node i a false l' r') ∧ Like h l l' ∧ Like h r r' ∧ Wf h l' ∧ Wf h r' ∧ (∀ lo, items h l' lo ++ items h r' (lo + 2 ^ h) = items (h + 1) (.node i a k l r) lo) ∧
      (∀ key, missP key h l' = missP key h l) ∧ (∀ key, missP key h r' = missP key h r) ∧ ∀ j, j ∉ (PT.node i a k l r).ids → getN (pushN ns i).2 j = getN ns j := by
  obtain ⟨p1, p2, p3⟩ := hr.push hd
  obtain ⟨s1, s2, s3⟩ := hs
  cases k with
  | true => exact ⟨l.kill, r.kill, p1, p2, .kill s2, .kill s3, .kill _ _, .kill _ _, fun lo => by rw [items_kill, items_kill]; rfl, fun key => missP_kill _ _ _, fun key => missP_kill _ _ _, p3⟩
  | false =>
    simp only [Wf] at hw
    rw [if_neg (by simp)] at hw
    exact ⟨l, r, p1, p2, ⟨rfl, rfl, fun _ => rfl, s2⟩, ⟨rfl, rfl, fun _ => rfl, s3⟩, hw.2.1, hw.2.2, fun lo => rfl, fun _ => rfl, fun _ => rfl, p3⟩

theorem zero_push (ns : List Nd) : pushN (ns ++ [Nd.zero]) ((ns.length : Int) + 1) = (Nd.zero, ns ++ [Nd.zero]) := by
  have : getN (ns ++ [Nd.zero]) ((ns.length : Int) + 1) = Nd.zero := by rw [getN_succ _ _ (by simp)]; simp
  unfold pushN
  rw [this]
  rfl

theorem putL_one {key : Nat} {v : Int} {xs : List (Nat × Int)} (h : ∀ x ∈ xs, x.1 = key) : putL key v xs = [(key, v)] := by
  unfold putL
  rw [(List.filter_eq_nil_iff (l := xs)).2 (fun x hx => by have := h x hx; simp; omega), (List.filter_eq_nil_iff (l := xs)).2 (fun x hx => by have := h x hx; simp; omega)]
  rfl

theorem set_law (key : Nat) (v : Int) (hv : wrap64 v = v) (h : Nat) : h ≤ 32 → ∀ (ns : List Nd) (t : PT) (lo : Nat), Rep ns t → t.ids.Nodup → Sh h t → Wf h t → lo % 2 ^ h = 0 → lo ≤ key → key < lo + 2 ^ h →
    ∃ t', SetLaw key v h ns t lo (setT key (Ag.one v) h ns t.idx) t' := by
  induction h with
  | zero =>
    intro hh ns t lo hr hd hs hw ha h1 h2
    have hlo : lo = key := by simp at h2; omega
    subst hlo
    cases t with
    | nil =>
      have ea : allocN ns 0 = ((ns.length : Int) + 1, ns ++ [Nd.zero]) := rfl
      show ∃ t', SetLaw lo v 0 ns .nil lo ((allocN ns 0).1, setN (pushN (allocN ns 0).2 (allocN ns 0).1).2 (allocN ns 0).1 ⟨0, 0, Ag.one v, false⟩) t'
      rw [ea]
      simp only []
      rw [zero_push]
      refine ⟨.node ((ns.length : Int) + 1) (Ag.one v) false .nil .nil, ⟨⟨by omega, by rw [setN_len]; simp, getN_setN_same _ (by omega) (by simp), trivial, trivial⟩, rfl, by simp, by simp [PT.ids], fun j hj => ?_, ⟨rfl, rfl⟩, .inr ⟨rfl, v, hv, rfl⟩, ?_, ?_, ?_, ?_, ?_⟩⟩
      · simp [PT.ids] at hj; omega
      · rw [putL_one (by simp [items])]; simp [items, Ag.one]
      · intro x; simp [keys]
      · intro j hj _
        rw [getN_setN_ne _ (by omega), getN_append _ hj]
      · rw [setN_len]; simp [missP]
      · rw [setN_len]; simp
    | node i a k l r =>
      obtain ⟨rfl, rfl⟩ := hs
      have hi := hr.1
      have hi2 := hr.2.1
      have ea : allocN ns i = (i, ns) := if_neg (by omega)
      obtain ⟨p1, p2, p3⟩ := hr.push hd
      show ∃ t', SetLaw lo v 0 ns _ lo ((allocN ns i).1, setN (pushN (allocN ns i).2 (allocN ns i).1).2 (allocN ns i).1 ⟨0, 0, Ag.one v, false⟩) t'
      rw [ea]
      simp only []
      refine ⟨.node i (Ag.one v) false .nil .nil, ⟨⟨hi, by rw [setN_len, pushN_len]; exact hi2, getN_setN_same _ hi (by rw [pushN_len]; exact hi2), trivial, trivial⟩, rfl, by simp, by simp [PT.ids], fun j hj => ?_, ⟨rfl, rfl⟩, .inr ⟨rfl, v, hv, rfl⟩, ?_, ?_, ?_, ?_, ?_⟩⟩
      · exact .inl hj
      · rw [putL_one (fun x hx => by have := items_in 0 _ lo x hx; simp at this; omega)]; simp [items, Ag.one]
      · intro x; simp [keys]
      · intro j hj hn
        have hji : j ≠ i := fun e => hn (by rw [e]; exact PT.idx_mem)
        rw [getN_setN_ne _ hji, p3 j hn]
      · rw [setN_len, pushN_len]; simp [missP]
      · rw [setN_len, pushN_len]; exact Nat.le_refl _
  | succ h ih =>
    intro hh ns t lo hr hd hs hw ha h1 h2
    have hp : 0 < 2 ^ h := Nat.two_pow_pos h
    have hl1 : lo % 2 ^ h = 0 := by
      rw [Nat.pow_succ] at ha
      exact Nat.mod_eq_zero_of_dvd (Nat.dvd_trans ⟨2, rfl⟩ (Nat.dvd_of_mod_eq_zero ha))
    have hl2 : (lo + 2 ^ h) % 2 ^ h = 0 := by rw [Nat.add_mod_right]; exact hl1
    have side := rgt_side ha h1 h2
    -- after the making, and the pushing
    obtain ⟨ms, i, a, l1, r1, eT, hr1, hd1, sl, sr, wl, wr, hit, hkeys, hmis, hle, hlen, hout, hids, hmi⟩ :
        ∃ (ms : List Nd) (i : Int) (a : Ag) (l1 r1 : PT), setT key (Ag.one v) (h + 1) ns t.idx =
            (i, joinN (setT key (Ag.one v) h ms (if rgt key h then r1.idx else l1.idx)).2 i ((⟨l1.idx, r1.idx, a, false⟩ : Nd).put key h (setT key (Ag.one v) h ms (if rgt key h then r1.idx else l1.idx)).1)) ∧
          Rep ms (.node i a false l1 r1) ∧ (PT.node i a false l1 r1).ids.Nodup ∧ Sh h l1 ∧ Sh h r1 ∧ Wf h l1 ∧ Wf h r1 ∧ items h l1 lo ++ items h r1 (lo + 2 ^ h) = items (h + 1) t lo ∧
          (∀ x, (x ∈ keys h l1 lo ∨ x ∈ keys h r1 (lo + 2 ^ h)) ↔ x ∈ keys (h + 1) t lo) ∧ (ms.length : Int) + (if rgt key h then missP key h r1 else missP key h l1) = ns.length + missP key (h + 1) t ∧ ns.length ≤ ms.length ∧ (ms.length : Int) ≤ ns.length + 1 ∧
          (∀ j : Int, j ≤ ns.length → j ∉ t.ids → getN ms j = getN ns j) ∧ (∀ j ∈ (PT.node i a false l1 r1).ids, j ∈ t.ids ∨ (ns.length : Int) < j) ∧ (∀ j : Int, j ≤ ns.length → j ∉ t.ids → j ∉ (PT.node i a false l1 r1).ids) := by
      cases t with
      | nil =>
        have ea : allocN ns 0 = ((ns.length : Int) + 1, ns ++ [Nd.zero]) := rfl
        refine ⟨ns ++ [Nd.zero], (ns.length : Int) + 1, Ag.zero, .nil, .nil, ?_, ⟨by omega, by simp, ?_, trivial, trivial⟩, by simp [PT.ids], ?_, ?_, ?_, ?_, ?_, ?_, ?_, by simp, by simp, fun j hj _ => getN_append _ hj, ?_, ?_⟩
        · show ((allocN ns 0).1, joinN (setT key (Ag.one v) h (pushN (allocN ns 0).2 (allocN ns 0).1).2 ((pushN (allocN ns 0).2 (allocN ns 0).1).1.kid key h)).2 (allocN ns 0).1
            ((pushN (allocN ns 0).2 (allocN ns 0).1).1.put key h (setT key (Ag.one v) h (pushN (allocN ns 0).2 (allocN ns 0).1).2 ((pushN (allocN ns 0).2 (allocN ns 0).1).1.kid key h)).1)) = _
          rw [ea]
          simp only []
          rw [zero_push]
          have : Nd.zero.kid key h = (if rgt key h then PT.nil.idx else PT.nil.idx) := by unfold Nd.kid; split <;> rfl
          rw [this]
          rfl
        · rw [getN_succ _ _ (by simp)]; simp [Nd.zero, PT.idx]
        · cases h <;> trivial
        · cases h <;> trivial
        · cases h <;> trivial
        · cases h <;> trivial
        · cases h <;> rfl
        · intro x; cases h <;> simp [keys]
        · have : ∀ h, missP key h .nil = (h : Int) + 1 := fun h => by cases h <;> rfl
          rw [this, this]; simp; omega
        · intro j hj; simp [PT.ids] at hj; omega
        · intro j hj _ hn; simp [PT.ids] at hn; omega
      | node i a k l r =>
        have hi := hr.1
        have ea : allocN ns i = (i, ns) := if_neg (by omega)
        obtain ⟨l1, r1, p1, p2, p3, p4, p5, p6, p7, p8, p9, p10⟩ := push_law2 hr hd hs hw
        have hd1 : (PT.node i a false l1 r1).ids.Nodup := nodup_like hd p3 p4
        have eids : (PT.node i a false l1 r1).ids = (PT.node i a k l r).ids := by simp [PT.ids, p3.ids, p4.ids]
        refine ⟨(pushN ns i).2, i, a, l1, r1, ?_, p2, hd1, p3.sh, p4.sh, p5, p6, p7 lo, ?_, ?_, Nat.le_of_eq (pushN_len ns i).symm, by rw [pushN_len]; omega, fun j hj hn => p10 j hn, fun j hj => .inl (eids ▸ hj), fun j hj hn hm => hn (eids ▸ hm)⟩
        · show ((allocN ns i).1, joinN (setT key (Ag.one v) h (pushN (allocN ns i).2 (allocN ns i).1).2 ((pushN (allocN ns i).2 (allocN ns i).1).1.kid key h)).2 (allocN ns i).1
            ((pushN (allocN ns i).2 (allocN ns i).1).1.put key h (setT key (Ag.one v) h (pushN (allocN ns i).2 (allocN ns i).1).2 ((pushN (allocN ns i).2 (allocN ns i).1).1.kid key h)).1)) = _
          rw [ea]
          simp only []
          rw [p1, ← p3.idx, ← p4.idx]
          rfl
        · intro x; simp only [keys, List.mem_append]; rw [p3.keys, p4.keys]
        · rw [pushN_len, p8, p9]; rfl
    rw [eT]
    cases hb : rgt key h with
    | true =>
      rw [hb] at hmis
      have hge := side.1 hb
      obtain ⟨r2, L⟩ := ih (by omega) ms r1 (lo + 2 ^ h) hr1.2.2.2.2 (nodup_node hd1).2.2.2.1 sr wr hl2 hge (by rw [Nat.pow_succ] at h2; omega)
      obtain ⟨z1, z2, z3, z4, z5, z6, z7, z8⟩ := set_right hh hr1 hd1 sl wl hge L
      have e1 : (⟨l1.idx, r1.idx, a, false⟩ : Nd).put key h (setT key (Ag.one v) h ms r1.idx).1 = ⟨l1.idx, (setT key (Ag.one v) h ms r1.idx).1, a, false⟩ := if_pos hb
      simp only [if_true] at hmis ⊢
      rw [e1]
      refine ⟨_, ⟨z1, rfl, by simp, z2, fun j hj => ?_, z4, z5, by rw [z6, hit], fun x => by rw [z7 x, ← hkeys x], fun j hj hn => ?_, ?_, ?_⟩⟩
      · rcases z3 j hj with k | k
        · exact hids j k
        · exact .inr (by omega)
      · rw [z8 j (by omega) (hmi j hj hn), hout j hj hn]
      · rw [joinN_len, L.len]; exact hmis
      · rw [joinN_len]; have := L.ge; omega
    | false =>
      rw [hb] at hmis
      have hge : key < lo + 2 ^ h := by
        rcases Nat.lt_or_ge key (lo + 2 ^ h) with k | k
        · exact k
        · rw [side.2 k] at hb; cases hb
      obtain ⟨l2, L⟩ := ih (by omega) ms l1 lo hr1.2.2.2.1 (nodup_node hd1).2.2.1 sl wl hl1 h1 hge
      obtain ⟨z1, z2, z3, z4, z5, z6, z7, z8⟩ := set_left hh hr1 hd1 sr wr hge L
      have e1 : (⟨l1.idx, r1.idx, a, false⟩ : Nd).put key h (setT key (Ag.one v) h ms l1.idx).1 = ⟨(setT key (Ag.one v) h ms l1.idx).1, r1.idx, a, false⟩ := if_neg (by rw [hb]; simp)
      simp only [if_false, Bool.false_eq_true] at hmis ⊢
      rw [e1]
      refine ⟨_, ⟨z1, rfl, by simp, z2, fun j hj => ?_, z4, z5, by rw [z6, hit], fun x => by rw [z7 x, ← hkeys x], fun j hj hn => ?_, ?_, ?_⟩⟩
      · rcases z3 j hj with k | k
        · exact hids j k
        · exact .inr (by omega)
      · rw [z8 j (by omega) (hmi j hj hn), hout j hj hn]
      · rw [joinN_len, L.len]; exact hmis
      · rw [joinN_len]; have := L.ge; omega
end Go.Proofs.Ytcdldjiogoapkaa
