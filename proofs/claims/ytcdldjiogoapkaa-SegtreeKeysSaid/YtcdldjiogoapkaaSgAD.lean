import Derived.Test.YtcdldjiogoapkaaSgAC
namespace Go.Proofs.Ytcdldjiogoapkaa
open Go.RowKit

theorem keys_some (h : Nat) : ∀ (t : PT) (lo : Nat), Sh h t → t ≠ .nil → keys h t lo ≠ [] := by
  induction h with
  | zero => intro t lo hs hn; cases t with
    | nil => exact absurd rfl hn
    | node i a k l r => simp [keys]
  | succ h ih => intro t lo hs hn; cases t with
    | nil => exact absurd rfl hn
    | node i a k l r =>
      obtain ⟨h1, h2, h3⟩ := hs
      simp only [keys, ne_eq, List.append_eq_nil_iff, not_and]
      intro e1 e2
      rcases h1 with h1 | h1
      · exact ih l lo h2 h1 e1
      · exact ih r _ h3 h1 e2

theorem div_block {h lo x y : Nat} (ha : lo % 2 ^ h = 0) (h1 : lo ≤ x) (h2 : x < lo + 2 ^ h) (h3 : lo ≤ y) (h4 : y < lo + 2 ^ h) : x / 2 ^ h = y / 2 ^ h := by
  have hp : 0 < 2 ^ h := Nat.two_pow_pos h
  generalize 2 ^ h = P at *
  obtain ⟨q, rfl⟩ : ∃ q, lo = P * q := ⟨lo / P, (Nat.mul_div_cancel' (Nat.dvd_of_mod_eq_zero ha)).symm⟩
  obtain ⟨a, rfl⟩ : ∃ a, x = P * q + a := ⟨x - P * q, by omega⟩
  obtain ⟨b, rfl⟩ : ∃ b, y = P * q + b := ⟨y - P * q, by omega⟩
  rw [Nat.mul_add_div hp, Nat.mul_add_div hp, Nat.div_eq_of_lt (by omega), Nat.div_eq_of_lt (by omega)]
theorem div_mono {x y d e : Nat} (hd : d ≤ e) (h : x / 2 ^ d = y / 2 ^ d) : x / 2 ^ e = y / 2 ^ e := by
  obtain ⟨k, rfl⟩ := Nat.le.dest hd
  rw [Nat.pow_add, ← Nat.div_div_eq_div_mul, ← Nat.div_div_eq_div_mul, h]
theorem div_sides {h lo d x y : Nat} (hd : d ≤ h) (ha : lo % 2 ^ (h + 1) = 0) (h1 : lo ≤ x) (h2 : x < lo + 2 ^ h) (h3 : lo + 2 ^ h ≤ y) (h4 : y < lo + 2 ^ h + 2 ^ h) : x / 2 ^ d ≠ y / 2 ^ d := by
  intro e
  have e2 := div_mono hd e
  have hp : 0 < 2 ^ h := Nat.two_pow_pos h
  rw [Nat.pow_succ] at ha
  generalize 2 ^ h = P at *
  obtain ⟨q, rfl⟩ : ∃ q, lo = P * 2 * q := ⟨lo / (P * 2), (Nat.mul_div_cancel' (Nat.dvd_of_mod_eq_zero ha)).symm⟩
  obtain ⟨a, rfl⟩ : ∃ a, x = P * (2 * q) + a := ⟨x - P * 2 * q, by rw [← Nat.mul_assoc]; omega⟩
  obtain ⟨b, rfl⟩ : ∃ b, y = P * (2 * q + 1) + b := ⟨y - P * 2 * q - P, by rw [Nat.mul_add, ← Nat.mul_assoc]; omega⟩
  rw [← Nat.mul_assoc] at h2
  rw [Nat.mul_add, ← Nat.mul_assoc] at h4
  rw [Nat.mul_add_div hp, Nat.mul_add_div hp, Nat.div_eq_of_lt (by omega), Nat.div_eq_of_lt (by omega)] at e2
  omega

theorem missP_nn (key h : Nat) : ∀ t, 0 ≤ missP key h t ∧ missP key h t ≤ (h : Int) + 1 := by
  induction h with
  | zero => intro t; cases t <;> simp [missP]
  | succ h ih => intro t; cases t with
    | nil => simp [missP]; omega
    | node i a k l r =>
      show 0 ≤ (if rgt key h then missP key h r else missP key h l) ∧ (if rgt key h then missP key h r else missP key h l) ≤ _
      split
      · have := ih r; omega
      · have := ih l; omega

theorem missP_spec (key : Nat) (h : Nat) : ∀ (t : PT) (lo : Nat), Sh h t → lo % 2 ^ h = 0 → lo ≤ key → key < lo + 2 ^ h → ∀ d, d ≤ h → (missP key h t ≤ (d : Int) ↔ ∃ k ∈ keys h t lo, k / 2 ^ d = key / 2 ^ d) := by
  induction h with
  | zero =>
    intro t lo hs ha h1 h2 d hd
    obtain rfl : d = 0 := by omega
    cases t with
    | nil => simp [missP, keys]
    | node i a k l r =>
      have : lo = key := by simp at h2; omega
      simp [missP, keys, this]
  | succ h ih =>
    intro t lo hs ha h1 h2 d hd
    cases t with
    | nil => simp [missP, keys]; omega
    | node i a k l r =>
      obtain ⟨s1, s2, s3⟩ := id hs
      by_cases hdh : d = h + 1
      · subst hdh
        refine ⟨fun _ => ?_, fun _ => ?_⟩
        · obtain ⟨k', hk'⟩ := List.exists_mem_of_ne_nil _ (keys_some (h + 1) _ lo hs (by simp))
          have := keys_in (h + 1) _ lo k' hk'
          exact ⟨k', hk', div_block ha this.1 this.2 h1 h2⟩
        · show (if rgt key h then missP key h r else missP key h l) ≤ _
          split
          · have := (missP_nn key h r).2; omega
          · have := (missP_nn key h l).2; omega
      · have hl1 : lo % 2 ^ h = 0 := by
          have ha' := ha
          rw [Nat.pow_succ] at ha'
          exact Nat.mod_eq_zero_of_dvd (Nat.dvd_trans ⟨2, rfl⟩ (Nat.dvd_of_mod_eq_zero ha'))
        have hl2 : (lo + 2 ^ h) % 2 ^ h = 0 := by rw [Nat.add_mod_right]; exact hl1
        have side := rgt_side ha h1 h2
        have h2' : key < lo + 2 ^ h + 2 ^ h := by rw [Nat.pow_succ] at h2; omega
        simp only [keys, List.mem_append]
        cases hb : rgt key h with
        | true =>
          have e : missP key (h + 1) (.node i a k l r) = missP key h r := if_pos hb
          have hge := side.1 hb
          rw [e, ih r _ s3 hl2 hge h2' d (by omega)]
          refine ⟨fun ⟨k', hk, he⟩ => ⟨k', .inr hk, he⟩, fun ⟨k', hk, he⟩ => ?_⟩
          rcases hk with hk | hk
          · have := keys_in h l lo k' hk
            exact absurd he (div_sides (by omega) ha this.1 this.2 hge h2')
          · exact ⟨k', hk, he⟩
        | false =>
          have e : missP key (h + 1) (.node i a k l r) = missP key h l := if_neg (by rw [hb]; simp)
          have hge : key < lo + 2 ^ h := by
            rcases Nat.lt_or_ge key (lo + 2 ^ h) with k | k
            · exact k
            · rw [side.2 k] at hb; cases hb
          rw [e, ih l _ s2 hl1 h1 hge d (by omega)]
          refine ⟨fun ⟨k', hk, he⟩ => ⟨k', .inl hk, he⟩, fun ⟨k', hk, he⟩ => ?_⟩
          rcases hk with hk | hk
          · exact ⟨k', hk, he⟩
          · have := keys_in h r _ k' hk
            exact absurd he.symm (div_sides (by omega) ha h1 hge this.1 this.2)

/-- How many nodes a key lacks, the keys being those that were ever put. -/
def Lacks (ever : Nat → Prop) (key m : Nat) : Prop := m ≤ 33 ∧ ∀ d, d ≤ 32 → (m ≤ d ↔ ∃ k, ever k ∧ k / 2 ^ d = key / 2 ^ d)

/-- What a tree holds. -/
def TI (ns : List Nd) (root : Int) (row : List (Nat × Int)) (ever : Nat → Prop) : Prop :=
  ∃ t, Rep ns t ∧ t.idx = root ∧ t.ids.Nodup ∧ Sh 32 t ∧ Wf 32 t ∧ items 32 t 0 = row ∧ (∀ k, k ∈ keys 32 t 0 ↔ ever k) ∧ OkN ns

theorem TI.root {ns : List Nd} {root : Int} {row : List (Nat × Int)} {ever : Nat → Prop} (h : TI ns root row ever) : OkN ns ∧ 0 ≤ root ∧ root ≤ ns.length := by
  obtain ⟨t, h1, rfl, -, -, -, -, -, h8⟩ := h
  exact ⟨h8, h1.idx0.1, h1.idx0.2⟩
theorem TI.miss {ns : List Nd} {root : Int} {row : List (Nat × Int)} {ever : Nat → Prop} (h : TI ns root row ever) {key m : Nat} (hk : key < 4294967296) (hm : Lacks ever key m) : missN ns key 32 root = m := by
  obtain ⟨t, h1, rfl, -, h4, -, -, h7, -⟩ := h
  rw [missN_law ns key 32 t h1]
  have hs := missP_spec key 32 t 0 h4 (by decide) (Nat.zero_le _) (by simpa using hk)
  have hn := missP_nn key 32 t
  obtain ⟨m', hm'⟩ : ∃ m' : Nat, missP key 32 t = m' := ⟨(missP key 32 t).toNat, by omega⟩
  rw [hm'] at hs hn ⊢
  have e : ∀ d, d ≤ 32 → (m' ≤ d ↔ m ≤ d) := fun d hd => by
    rw [hm.2 d hd]
    have := hs d hd
    rw [show ((m' : Int) ≤ (d : Int) ↔ m' ≤ d) by omega] at this
    rw [this]
    exact ⟨fun ⟨k, a, b⟩ => ⟨k, (h7 k).1 a, b⟩, fun ⟨k, a, b⟩ => ⟨k, (h7 k).2 a, b⟩⟩
  have h33 := hm.1
  by_cases c1 : m' ≤ 32
  · have := (e m' c1).1 (Nat.le_refl _)
    have := (e m (by omega)).2 (Nat.le_refl _)
    omega
  · by_cases c2 : m ≤ 32
    · have := (e m c2).2 (Nat.le_refl _); omega
    · omega
theorem TI.fold {ns : List Nd} {root : Int} {row : List (Nat × Int)} {ever : Nat → Prop} (h : TI ns root row ever) (slo shi : Nat) :
    (foldT slo shi 32 ns root 0).1 = agV (vals (row.filter (inS slo shi))) ∧ TI (foldT slo shi 32 ns root 0).2 root row ever ∧ (foldT slo shi 32 ns root 0).2.length = ns.length := by
  obtain ⟨t, h1, rfl, h3, h4, h5, rfl, h7, h8⟩ := h
  obtain ⟨t', x1, x2, x3, x4, x5, x6⟩ := fold_law slo shi 32 (Nat.le_refl _) ns t 0 h1 h3 h4 h5
  exact ⟨x5, ⟨t', x1, x2.idx, x2.ids ▸ h3, x2.sh, x3, x4 0, fun k => by rw [x2.keys]; exact h7 k, (foldT_ok slo shi 32 ns t.idx 0 h8).1⟩, x6.1⟩
theorem TI.cut {ns : List Nd} {root : Int} {row : List (Nat × Int)} {ever : Nat → Prop} (h : TI ns root row ever) (slo shi : Nat) :
    TI (cutT slo shi 32 ns root 0) root (row.filter (fun x => !inS slo shi x)) ever ∧ (cutT slo shi 32 ns root 0).length = ns.length := by
  obtain ⟨t, h1, rfl, h3, h4, h5, rfl, h7, h8⟩ := h
  obtain ⟨t', x1, x2, x3, x4, x6⟩ := cut_law slo shi 32 (Nat.le_refl _) ns t 0 h1 h3 h4 h5
  exact ⟨⟨t', x1, x2.idx, x2.ids ▸ h3, x2.sh, x3, x4, fun k => by rw [x2.keys]; exact h7 k, (cutT_ok slo shi 32 ns t.idx 0 h8).1⟩, x6.1⟩
theorem TI.walk {ns : List Nd} {root : Int} {row : List (Nat × Int)} {ever : Nat → Prop} (h : TI ns root row ever) :
    (walkT 32 ns root 0).1 = row ∧ TI (walkT 32 ns root 0).2 root row ever ∧ (walkT 32 ns root 0).2.length = ns.length := by
  obtain ⟨t, h1, rfl, h3, h4, h5, rfl, h7, h8⟩ := h
  obtain ⟨t', x1, x2, x3, x4, x5, x6⟩ := walk_law 32 (Nat.le_refl _) ns t 0 h1 h3 h4 h5
  exact ⟨x5, ⟨t', x1, x2.idx, x2.ids ▸ h3, x2.sh, x3, x4 0, fun k => by rw [x2.keys]; exact h7 k, (walkT_ok 32 ns t.idx 0 h8).1⟩, x6.1⟩
theorem TI.set {ns : List Nd} {root : Int} {row : List (Nat × Int)} {ever : Nat → Prop} (h : TI ns root row ever) {key m : Nat} {v lim : Int} (hk : key < 4294967296) (hv : wrap64 v = v) (hm : Lacks ever key m) (hl : (ns.length : Int) + m ≤ lim) :
    setOk lim key (Ag.one v) 32 ns root ∧ TI (setT key (Ag.one v) 32 ns root).2 (setT key (Ag.one v) 32 ns root).1 (putL key v row) (fun k => k = key ∨ ever k) ∧ ((setT key (Ag.one v) 32 ns root).2.length : Int) = ns.length + m := by
  have hmi := h.miss hk hm
  obtain ⟨t, h1, rfl, h3, h4, h5, rfl, h7, h8⟩ := h
  rw [missN_law ns key 32 t h1] at hmi
  obtain ⟨t', L⟩ := set_law key v hv 32 (Nat.le_refl _) ns t 0 h1 h3 h4 h5 (by decide) (Nat.zero_le _) (by simpa using hk)
  obtain ⟨k1, k2⟩ := set_ok key v lim hv 32 (Nat.le_refl _) ns t 0 h8 h1 h3 h4 h5 (by decide) (Nat.zero_le _) (by simpa using hk) (by rw [hmi]; exact hl)
  exact ⟨k1, ⟨t', L.rep, L.idx, L.nodup, L.sh, L.wf, L.items, fun k => by rw [L.keys, h7], k2⟩, by rw [L.len, hmi]⟩
theorem TI.new : TI [] 0 [] (fun _ => False) := ⟨.nil, trivial, rfl, by simp [PT.ids], trivial, trivial, rfl, fun k => by simp [keys], fun n hn => by simp at hn⟩
theorem TI.len {ns : List Nd} {root : Int} {row : List (Nat × Int)} {ever : Nat → Prop} (h : TI ns root row ever) : row.length ≤ 4294967296 ∧ row.Pairwise (fun x y => x.1 < y.1) ∧ ∀ x ∈ row, x.1 < 4294967296 := by
  obtain ⟨t, h1, rfl, h3, h4, h5, rfl, h7, h8⟩ := h
  exact ⟨by simpa using items_len 32 t 0, items_sorted 32 t 0, fun x hx => by simpa using (items_in 32 t 0 x hx).2⟩
end Go.Proofs.Ytcdldjiogoapkaa
