import Derived.Test.YtpchodnknkdlgaaInX
namespace Go.Proofs.Ytpchodnknkdlgaa
open Go.RowKit
attribute [local go_sem] World.cell?_alloc_some

/-! Rows of whole numbers, shrunk. -/
def gcdF : Nat → Int → Int → Int
  | 0, a, _ => a
  | f + 1, a, n => if n = 0 then a else gcdF f n (a.tmod n)
def gcdI (a n : Int) : Int := gcdF (n.natAbs + 1) a n
def gcdL (xs : List Int) : Int := xs.foldl gcdI 0
def shrinkL (xs : List Int) : List Int := if gcdL xs = 0 then xs else xs.map fun x => x.tdiv (gcdL xs)
/-- numbers of bounded size. -/
def Bd (m : Nat) (xs : List Int) : Prop := ∀ x ∈ xs, x.natAbs ≤ m
theorem gcdF_bd : ∀ (f : Nat) (a n : Int) (m : Nat), a.natAbs ≤ m → n.natAbs ≤ m → (gcdF f a n).natAbs ≤ m
  | 0, a, _, _, h, _ => h
  | f + 1, a, n, m, h, h2 => by
    unfold gcdF
    split
    · exact h
    · exact gcdF_bd f n _ m h2 (by rw [Int.natAbs_tmod]; exact Nat.le_trans (Nat.mod_le _ _) h)
theorem gcdL_bd {m : Nat} {xs : List Int} (h : Bd m xs) : (gcdL xs).natAbs ≤ m := by
  unfold gcdL
  suffices ∀ (ys : List Int) (a : Int), Bd m ys → a.natAbs ≤ m → (ys.foldl gcdI a).natAbs ≤ m from this xs 0 h (by simp)
  intro ys
  induction ys with
  | nil => intro a _ h; exact h
  | cons y ys ih => intro a h h2; exact ih _ (fun x hx => h x (List.mem_cons_of_mem _ hx)) (gcdF_bd _ _ _ _ h2 (h y (by simp)))
theorem gcdL_take (xs : List Int) (k : Nat) (hk : k < xs.length) : gcdL (xs.take (k + 1)) = gcdI (gcdL (xs.take k)) xs[k] := by
  unfold gcdL; rw [List.take_succ_eq_append_getElem hk, List.foldl_append]; rfl

theorem owns_frozen {w : World} {base e sz n g cap : Nat} {xs : List Value} (h : w.ownsRow base e sz (.slice (some ⟨g, 0, none⟩) n cap) n xs) (k : Nat) : w.frozen? ⟨g, k, none⟩ = false := by
  obtain ⟨_, (⟨e, _⟩ | ⟨g', cap', cur, e, hg, hh, _⟩)⟩ := h
  · cases e
  · cases e
    unfold World.frozen?; rw [hh]; rfl
set_option maxRecDepth 100000 in
set_option maxHeartbeats 4000000 in
theorem shrink_calls (W : World) (base g n cap : Nat) (xs : List Int) (h : W.ownsRow base 2 1 (.slice (some ⟨g, 0, none⟩) n cap) n (xs.map vI)) (hn : n = xs.length) (hl : n ≤ 1000) (hb : Bd 1125899906842624 xs) :
    Calls Try.prog 43 #[.slice (some ⟨g, 0, none⟩) n cap] W fun e W' => e = .returned (.tuple #[]) ∧ W'.ownsRow base 2 1 (.slice (some ⟨g, 0, none⟩) n cap) n ((shrinkL xs).map vI) ∧ W.grownBy W' (some g) := by
  subst hn
  have H := Lib.hid h
  have HB := Lib.hid hb
  have hcell : ∀ k (hk : k < xs.length), W.cell? ⟨g, k, none⟩ = some (.int .i64 xs[k]) := fun k hk => by
    have := h.cells (g := g) rfl k (.int .i64 xs[k]) (by simp [hk, vI])
    rwa [show (⟨g, 0, none⟩ : Addr).add k = ⟨g, k, none⟩ by unfold Addr.add; split <;> simp_all] at this
  have HC := Lib.hid hcell
  clear h hb hcell
  go_enter Try.func43, Try.ntmps43
  go_wp2
  go_loopw [2, 8] (fun a i wr => ∃ k : Nat, k ≤ xs.length ∧ i = .int .i64 k ∧ a = .int .i64 (gcdL (xs.take k)) ∧ ∃ d, wr = W.drewN d) (fun _ i _ => xs.length - (intOf i).toNat)
  case atStart => exact ⟨0, by omega, rfl, rfl, 0, rfl⟩
  case round =>
    obtain ⟨k, hk, rfl, rfl, d, rfl⟩ := hrel
    by_cases hlt : k < xs.length
    · have hc : (W.drewN d).cell? ⟨g, k, none⟩ = some (.int .i64 xs[k]) := HC.out k hlt
      have HG := Lib.hid (gcdL_take xs k hlt)
      have hxb := HB.out _ (List.getElem_mem hlt)
      have hgb : (gcdL (xs.take k)).natAbs ≤ 1125899906842624 := gcdL_bd fun x hx => HB.out x (List.mem_of_mem_take hx)
      obtain ⟨x, hx⟩ : ∃ x, x = xs[k] := ⟨_, rfl⟩
      obtain ⟨a, ha⟩ : ∃ a, a = gcdL (xs.take k) := ⟨_, rfl⟩
      rw [← hx] at hc HG hxb
      rw [← ha] at HG hgb ⊢
      clear hx ha
      go_wp2
      go_loopw [2, 4] (fun s t wr => ∃ (a b : Int) (f : Nat), s = .int .i64 a ∧ t = .int .i64 b ∧ a.natAbs ≤ 1125899906842624 ∧ b.natAbs ≤ 1125899906842624 ∧ b.natAbs < f ∧ Hid (gcdF f a b = gcdL (xs.take (k + 1))) ∧ ∃ d, wr = W.drewN d) (fun _ t _ => (intOf t).natAbs)
      case atStart => exact ⟨a, x, x.natAbs + 1, rfl, rfl, hgb, hxb, by omega, HG.out.symm, d, rfl⟩
      case round =>
        obtain ⟨a, b, f, rfl, rfl, h1, h2, h3, HF, d2, rfl⟩ := hrel
        by_cases h0 : b = 0
        · obtain rfl := h0
          have HA : Hid (gcdL (xs.take (k + 1)) = a) := by
            show _ = _
            rw [← HF.out]
            cases f with
            | zero => omega
            | succ f => simp [gcdF]
          clear HF HG
          go_wp2
          exact ⟨⟨k + 1, hlt, by go_num, by rw [HA.out], d2, rfl⟩, by simp [intOf]; omega⟩
        · have HA : Hid (gcdF (f - 1) b (a.tmod b) = gcdL (xs.take (k + 1))) := by
            show _ = _
            rw [← HF.out]
            cases f with
            | zero => omega
            | succ f => simp [gcdF, h0]
          have hm1 : (a.tmod b).natAbs < b.natAbs := by rw [Int.natAbs_tmod]; exact Nat.mod_lt _ (by omega)
          clear HF HG
          go_wp2
          go_quiet (fail)
          go_wp2
          exact ⟨⟨b, a.tmod b, f - 1, rfl, rfl, h2, by omega, by omega, HA, _, World.drewN_drewN _ _ _⟩, by have := Nat.mod_lt a.natAbs (show 0 < b.natAbs by omega); simp [intOf]; omega⟩
    · have hke : k = xs.length := by omega
      subst hke
      rw [List.take_length]
      obtain ⟨a, ha⟩ : ∃ a, a = gcdL xs := ⟨_, rfl⟩
      have HA := Lib.hid ha
      have hab : a.natAbs ≤ 1125899906842624 := by rw [ha]; exact gcdL_bd HB.out
      rw [← ha]
      clear ha
      have hD : W.grownBy (W.drewN d) (some g) := ⟨rfl, rfl, rfl, Nat.le_refl _, fun _ _ _ => rfl⟩
      have hO : (W.drewN d).ownsRow base 2 1 (.slice (some ⟨g, 0, none⟩) xs.length cap) xs.length (xs.map vI) := owns_same H.out fun _ _ => rfl
      go_wp2
      go_loopw [21] (fun i wr => ∃ (k : Nat) (ys : List Int), k ≤ xs.length ∧ i = .int .i64 k ∧ Hid (ys = (shrinkL xs).take k ++ xs.drop k) ∧ Hid (wr.ownsRow base 2 1 (.slice (some ⟨g, 0, none⟩) xs.length cap) xs.length (ys.map vI)) ∧ W.grownBy wr (some g)) (fun i _ => xs.length - (intOf i).toNat)
      case atStart => exact ⟨0, xs, by omega, rfl, by show _ = _; simp, hO, hD⟩
      case round =>
        obtain ⟨k, ys, hk, rfl, HY, HO, hgr⟩ := hrel
        have hsl : (shrinkL xs).length = xs.length := by unfold shrinkL; split <;> simp
        by_cases hlt : k < xs.length
        · by_cases h0 : a = 0
          · have hys : Hid (ys = (shrinkL xs).take (k + 1) ++ xs.drop (k + 1)) := by
              show _ = _
              have e : shrinkL xs = xs := by unfold shrinkL; rw [← HA.out, if_pos h0]
              rw [HY.out, e, List.take_append_drop, List.take_append_drop]
            obtain rfl := h0
            clear HY
            go_wp2
            exact ⟨⟨k + 1, ys, hlt, by go_num, hys, HO, hgr⟩, by simp [intOf]; omega⟩
          · have hx : ys[k]? = some xs[k] := by
              rw [HY.out, List.getElem?_append_right (by rw [List.length_take, hsl]; omega), List.length_take, hsl, Nat.min_eq_left (by omega), Nat.sub_self, List.getElem?_drop]
              simp [hlt]
            have hc : wr.cell? ⟨g, k, none⟩ = some (.int .i64 xs[k]) := by
              have := HO.out.cells (g := g) rfl k (.int .i64 xs[k]) (by rw [List.getElem?_map, hx]; rfl)
              rwa [show (⟨g, 0, none⟩ : Addr).add k = ⟨g, k, none⟩ by unfold Addr.add; split <;> simp_all] at this
            have hf : wr.frozen? ⟨g, k, none⟩ = false := owns_frozen HO.out k
            have hxb := HB.out _ (List.getElem_mem hlt)
            have HS := Lib.hid (owns_setCell (o := k) (v := .int .i64 (xs[k].tdiv a)) HO.out)
            have hys : Hid ((ys.map vI).set k (.int .i64 (xs[k].tdiv a)) = ((shrinkL xs).take (k + 1) ++ xs.drop (k + 1)).map vI) := by
              show _ = _
              have e : (shrinkL xs)[k]? = some (xs[k].tdiv a) := by unfold shrinkL; rw [← HA.out, if_neg h0]; simp [hlt]
              rw [HY.out]
              apply List.ext_getElem?
              intro j
              rw [List.getElem?_set]
              by_cases hj : k = j
              · subst hj
                rw [if_pos rfl, List.getElem?_map, List.getElem?_append_left (by rw [List.length_take, hsl]; omega), List.getElem?_take_of_lt (by omega), e]
                simp [hsl, vI]; omega
              · rw [if_neg hj, List.getElem?_map, List.getElem?_map]
                congr 1
                rcases Nat.lt_or_ge j k with h1 | h1
                · rw [List.getElem?_append_left (by rw [List.length_take, hsl]; omega), List.getElem?_append_left (by rw [List.length_take, hsl]; omega), List.getElem?_take_of_lt h1, List.getElem?_take_of_lt (by omega)]
                · rw [List.getElem?_append_right (by rw [List.length_take, hsl]; omega), List.getElem?_append_right (by rw [List.length_take, hsl]; omega), List.length_take, List.length_take, hsl, List.getElem?_drop, List.getElem?_drop]
                  congr 1; omega
            have hg2 : W.grownBy (wr.setCell ⟨g, k, none⟩ (.int .i64 (xs[k].tdiv a))) (some g) := hgr.trans ⟨rfl, rfl, rfl, by simp [World.setCell], fun b _ hne => Below.heap_setCell _ _ _ _ (fun e => hne (by rw [e]))⟩
            obtain ⟨x, hxx⟩ : ∃ x, x = xs[k] := ⟨_, rfl⟩
            rw [← hxx] at hc hxb HS hys hg2
            clear hxx hx HY
            have hw : wrap64 (x.tdiv a) = x.tdiv a := by
              have h1 : (x.tdiv a).natAbs ≤ 1125899906842624 := by rw [Int.natAbs_tdiv]; exact Nat.le_trans (Nat.div_le_self _ _) hxb
              unfold wrap64; omega
            go_wp2
            exact ⟨⟨k + 1, _, hlt, by go_num, rfl, by show World.ownsRow _ _ _ _ _ _ _; rw [← hys.out]; exact HS.out, hg2⟩, by simp [intOf]; omega⟩
        · have hke : k = xs.length := by omega
          subst hke
          have hys : ys = shrinkL xs := by rw [HY.out, List.drop_length, List.append_nil, ← hsl, List.take_length]
          subst hys
          clear HY
          go_wp2
          go_end0
          exact ⟨rfl, HO.out, hgr⟩
end Go.Proofs.Ytpchodnknkdlgaa
