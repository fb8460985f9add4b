import Derived.Test.YtddpnldgfdooiaaTkG
namespace Go.Proofs.Ytddpnldgfdooiaa
open Go.RowKit Go.Maps
attribute [local go_sem] World.cell?_alloc_some frozen_alloc_some

/-! A short row is sorted by insertion. -/
set_option maxHeartbeats 2000000 in
set_option maxRecDepth 100000 in
theorem len64_calls (w : World) (x : Nat) (hx : x ≤ 12) : Calls Try.prog 41 #[.int .u64 x] w fun e w' => ∃ y, e = .returned (.int .i64 y) ∧ w' = w := by
  have h : x = 0 ∨ x = 1 ∨ x = 2 ∨ x = 3 ∨ x = 4 ∨ x = 5 ∨ x = 6 ∨ x = 7 ∨ x = 8 ∨ x = 9 ∨ x = 10 ∨ x = 11 ∨ x = 12 := by omega
  clear hx
  rcases h with rfl | rfl | rfl | rfl | rfl | rfl | rfl | rfl | rfl | rfl | rfl | rfl | rfl
  all_goals
    go_enter Try.func41, Try.ntmps41
    go_wp2
    go_ret
    exact ⟨_, rfl, rfl⟩
theorem blen_calls (w : World) (x : Nat) (hx : x ≤ 12) : Calls Try.prog 30 #[.int .u64 x] w fun e w' => ∃ y, e = .returned (.int .i64 y) ∧ w' = w := by
  have H := Lib.hid (fun W => len64_calls W x hx)
  go_enter Try.func30, Try.ntmps30
  go_wp2_with fail
  refine (H.out _).mono ?_
  rintro e w1 ⟨y, rfl, rfl⟩
  go_wp2
  go_ret
  exact ⟨_, rfl, rfl⟩
theorem nan_calls (w : World) (a : Int) : Calls Try.prog 47 #[.int .u64 a] w fun e w' => e = .returned (.bool false) ∧ w' = w := by
  have h : (a != a) = false := by simp
  go_enter Try.func47, Try.ntmps47
  go_wp2
  go_ret
  exact ⟨rfl, rfl⟩
theorem less_calls (w : World) (a b : Int) (q : Bool) (hq : decide (a < b) = q) : Calls Try.prog 37 #[.int .u64 a, .int .u64 b] w fun e w' => e = .returned (.bool q) ∧ w' = w := by
  go_enter Try.func37, Try.ntmps37
  go_wp2_with fail
  refine (nan_calls _ _).mono ?_
  rintro e w1 ⟨rfl, rfl⟩
  go_wp2
  go_ret
  exact ⟨rfl, rfl⟩
def swF2 (f : Nat → Int) (j : Nat) : Nat → Int := fun k => if k = j then f (j - 1) else if k = j - 1 then f j else f k
/-- The same numbers, in another order. -/
def Mix (n : Nat) (f f' : Nat → Int) : Prop := (∀ x, (∃ k, k < n ∧ f' k = x) ↔ ∃ k, k < n ∧ f k = x) ∧ ((∀ a b, a < b → b < n → f a ≠ f b) → ∀ a b, a < b → b < n → f' a ≠ f' b)
theorem Mix.refl (n : Nat) (f : Nat → Int) : Mix n f f := ⟨fun _ => Iff.rfl, id⟩
theorem Mix.swap {n : Nat} {f f' : Nat → Int} (h : Mix n f f') {j : Nat} (h0 : 0 < j) (hj : j < n) : Mix n f (swF2 f' j) := by
  refine ⟨fun x => ⟨?_, ?_⟩, fun hd a b hab hb => ?_⟩
  · rintro ⟨k, hk, rfl⟩
    unfold swF2
    refine (h.1 _).1 ?_
    split
    · exact ⟨j - 1, by omega, rfl⟩
    · split
      · exact ⟨j, hj, rfl⟩
      · exact ⟨k, hk, rfl⟩
  · intro hx
    obtain ⟨k, hk, rfl⟩ := (h.1 _).2 hx
    by_cases e1 : k = j
    · exact ⟨j - 1, by omega, by unfold swF2; rw [if_neg (by omega), if_pos rfl, e1]⟩
    · by_cases e2 : k = j - 1
      · exact ⟨j, hj, by unfold swF2; rw [if_pos rfl, e2]⟩
      · exact ⟨k, hk, by unfold swF2; rw [if_neg e1, if_neg e2]⟩
  · have hd2 := h.2 hd
    have hne : ∀ a b, a ≠ b → a < n → b < n → f' a ≠ f' b := fun a b h1 h2 h3 => by
      rcases Nat.lt_or_gt_of_ne h1 with h4 | h4
      · exact hd2 a b h4 h3
      · exact (hd2 b a h4 h2).symm
    unfold swF2
    split <;> split <;> (try split) <;> (try split) <;> exact hne _ _ (by omega) (by omega) (by omega)
def rowF (n : Nat) (f : Nat → Int) : List Value := (List.range n).map fun k => .int .u64 (f k)
theorem rowF_set (n : Nat) (f : Nat → Int) {j : Nat} (h0 : 0 < j) (hj : j < n) : ((rowF n f).set j (.int .u64 (f (j - 1)))).set (j - 1) (.int .u64 (f j)) = rowF n (swF2 f j) := by
  apply List.ext_getElem (by simp [rowF])
  intro k h1 h2
  have hk : k < n := by simpa [rowF] using h2
  rw [List.getElem_set, List.getElem_set]
  simp only [rowF, List.getElem_map, List.getElem_range, swF2]
  by_cases e1 : k = j
  · subst e1; rw [if_neg (by omega), if_pos rfl, if_pos rfl]
  · by_cases e2 : k = j - 1
    · rw [if_pos e2.symm, if_neg e1, if_pos e2]
    · rw [if_neg (Ne.symm e2), if_neg (Ne.symm e1), if_neg e1, if_neg e2]
theorem add0t (b k : Nat) : (⟨b, 0, none⟩ : Addr).add k = ⟨b, k, none⟩ := by unfold Addr.add; split <;> simp_all
theorem owns_frz {w : World} {base e sz n g cap : Nat} {xs : List Value} (h : w.ownsRow base e sz (.slice (some ⟨g, 0, none⟩) n cap) n xs) (k : Nat) : w.frozen? ⟨g, k, none⟩ = false := by
  obtain ⟨_, (⟨e, _⟩ | ⟨g', cap', cur, e, hg, hh, _⟩)⟩ := h
  · cases e
  · cases e
    unfold World.frozen?; rw [hh]; rfl
theorem rowF_at {n : Nat} {f : Nat → Int} {k : Nat} (hk : k < n) : (rowF n f)[k]? = some (.int .u64 (f k)) := by simp [rowF, hk]
set_option maxHeartbeats 4000000 in
set_option maxRecDepth 100000 in
theorem ins_calls (w : World) (base g n cap : Nat) (f : Nat → Int) (hn : 1 ≤ n ∧ n ≤ 12) (ho : w.ownsRow base 31 1 (.slice (some ⟨g, 0, none⟩) n cap) n (rowF n f)) :
    Calls Try.prog 31 #[.slice (some ⟨g, 0, none⟩) n cap, .int .i64 0, .int .i64 n] w fun e w' => (∃ v, e = .returned v) ∧ ∃ f', Mix n f f' ∧ (∀ a b, a < b → b < n → f' a ≤ f' b) ∧ w'.ownsRow base 31 1 (.slice (some ⟨g, 0, none⟩) n cap) n (rowF n f') ∧ w.grownBy w' (some g) := by
  have HO := Lib.hid ho
  clear ho
  go_enter Try.func31, Try.ntmps31
  go_wp2
  go_loopw [6] (fun i wr => ∃ (k : Nat) (f' : Nat → Int), 1 ≤ k ∧ k ≤ n ∧ i = .int .i64 k ∧ Hid (Mix n f f' ∧ ∀ a b, a < b → b < k → f' a ≤ f' b) ∧ Hid (wr.ownsRow base 31 1 (.slice (some ⟨g, 0, none⟩) n cap) n (rowF n f')) ∧ w.grownBy wr (some g)) (fun i _ => n - (intOf i).toNat)
  case atStart => exact ⟨1, f, Nat.le_refl _, hn.1, rfl, ⟨Mix.refl _ _, fun a b h1 h2 => by omega⟩, HO.out, ⟨rfl, rfl, rfl, Nat.le_refl _, fun _ _ _ => rfl⟩⟩
  case round =>
    obtain ⟨k, f1, hk1, hk, rfl, HF, HR, hg⟩ := hrel
    obtain ⟨wo, rfl⟩ : ∃ wo, wo = wr := ⟨_, rfl⟩
    by_cases hlt : k < n
    · go_wp2
      go_loopw [7] (fun i wr => ∃ (j : Nat) (f' : Nat → Int), j ≤ k ∧ i = .int .i64 j ∧ Hid (Mix n f f' ∧ (∀ a b, a < b → b ≤ k → a ≠ j → b ≠ j → f' a ≤ f' b) ∧ ∀ b, j < b → b ≤ k → f' j ≤ f' b) ∧ Hid (wr.ownsRow base 31 1 (.slice (some ⟨g, 0, none⟩) n cap) n (rowF n f')) ∧ w.grownBy wr (some g)) (fun i _ => (intOf i).toNat)
      case atStart => exact ⟨k, f1, Nat.le_refl _, rfl, ⟨HF.out.1, fun a b h1 h2 h3 h4 => HF.out.2 a b h1 (by omega), fun b h1 h2 => by omega⟩, HR.out, hg⟩
      case round =>
        clear HF HR hg
        obtain ⟨j, f2, hj, rfl, HF, HR, hg⟩ := hrel
        obtain ⟨w2, rfl⟩ : ∃ w2, w2 = wr := ⟨_, rfl⟩
        by_cases h0 : 0 < j
        · have hc1 := HR.out.cells (g := g) rfl j _ (rowF_at (show j < n by omega))
          have hc2 := HR.out.cells (g := g) rfl (j - 1) _ (rowF_at (show j - 1 < n by omega))
          rw [add0t] at hc1 hc2
          have hf1 := owns_frz HR.out j
          have hf2 := owns_frz HR.out (j - 1)
          have hj1 : ((j : Int) - 1) = ((j - 1 : Nat) : Int) := by omega
          have HS := Lib.hid (rowF_set n f2 h0 (show j < n by omega))
          have HMs := Lib.hid (HF.out.1.swap h0 (show j < n by omega))
          obtain ⟨x, hx⟩ : ∃ x, x = f2 j := ⟨_, rfl⟩
          obtain ⟨y, hy⟩ : ∃ y, y = f2 (j - 1) := ⟨_, rfl⟩
          obtain ⟨i, hi⟩ : ∃ i, i = j - 1 := ⟨_, rfl⟩
          rw [← hi] at hj1 hc2 hf2 HS
          rw [← hi] at hy
          rw [← hx] at hc1 HS
          rw [← hy] at hc2 HS
          have HXY : Hid (x = f2 j ∧ y = f2 i ∧ i = j - 1) := ⟨hx, hy, hi⟩
          have hin : i < n := by omega
          have hjn : j < n := by omega
          have hij : i + 1 = j := by omega
          clear hx hy hi
          have c1 : ∀ d, (w2.drewN d).cell? ⟨g, j, none⟩ = some (.int .u64 x) := fun d => hc1
          have c2 : ∀ d, (w2.drewN d).cell? ⟨g, i, none⟩ = some (.int .u64 y) := fun d => hc2
          by_cases hl : x < y
          · have HL := fun W => less_calls W x y true (by simpa using hl)
            have HL := Lib.hid HL
            have HLT := Lib.hid hl
            clear hl
            go_wp2
            go_quiet ((go_at_call 37; exact Calls.quiet_of_same (HL.out _)))
            go_wp2
            have c3 : ∀ d, ((w2.drewN d).setCell ⟨g, j, none⟩ (.int .u64 y)).cell? ⟨g, i, none⟩ = some (.int .u64 y) := fun d => (World.cell?_setCell_other _ _ _ _ (fun e => by injection e; omega)).trans hc2
            have c4 : ∀ d, ((w2.drewN d).setCell ⟨g, j, none⟩ (.int .u64 y)).frozen? ⟨g, i, none⟩ = false := fun d => by rw [World.frozen?_setCell]; exact hf2
            have c5 : ∀ d, (w2.drewN d).frozen? ⟨g, j, none⟩ = false := fun d => hf1
            have k3 := c3 (nq + 1)
            have k4 := c4 (nq + 1)
            have k5 := c5 (nq + 1)
            have k1 := c1 (nq + 1)
            have k2 := c2 (nq + 1)
            have hR3 : Hid (((w2.drewN (nq + 1)).setCell ⟨g, j, none⟩ (.int .u64 y)).setCell ⟨g, i, none⟩ (.int .u64 x) |>.ownsRow base 31 1 (.slice (some ⟨g, 0, none⟩) n cap) n (rowF n (swF2 f2 j))) := by
              show World.ownsRow _ _ _ _ _ _ _
              rw [← HS.out]
              exact owns_setCell (owns_setCell (owns_same HR.out fun _ _ => rfl))
            have hg3 : w.grownBy (((w2.drewN (nq + 1)).setCell ⟨g, j, none⟩ (.int .u64 y)).setCell ⟨g, i, none⟩ (.int .u64 x)) (some g) :=
              ⟨hg.os, hg.tape, hg.output, by have := hg.size; simp [World.setCell]; omega, fun b hb hne => (Below.heap_setCell _ _ _ _ (fun e => hne (by rw [e]))).trans ((Below.heap_setCell _ _ _ _ (fun e => hne (by rw [e]))).trans (hg.block b hb hne))⟩
            have hO3 : Hid (Mix n f (swF2 f2 j) ∧ (∀ a b, a < b → b ≤ k → a ≠ i → b ≠ i → swF2 f2 j a ≤ swF2 f2 j b) ∧ ∀ b, i < b → b ≤ k → swF2 f2 j i ≤ swF2 f2 j b) := by
              obtain ⟨ex, ey, -⟩ := HXY.out
              have hlt2 := HLT.out
              have sj : swF2 f2 j j = f2 i := by unfold swF2; rw [if_pos rfl, show j - 1 = i by omega]
              have si : swF2 f2 j i = f2 j := by unfold swF2; rw [if_neg (by omega), if_pos (by omega)]
              have so : ∀ a, a ≠ j → a ≠ i → swF2 f2 j a = f2 a := fun a h1 h2 => by unfold swF2; rw [if_neg h1, if_neg (by omega)]
              refine ⟨HMs.out, fun a b h1 h2 h3 h4 => ?_, fun b h1 h2 => ?_⟩
              · by_cases e1 : a = j
                · subst e1; rw [sj, so b (by omega) h4]; exact HF.out.2.1 i b (by omega) h2 (by omega) (by omega)
                · by_cases e2 : b = j
                  · subst e2; rw [sj, so a e1 h3]; exact HF.out.2.1 a i (by omega) (by omega) e1 (by omega)
                  · rw [so a e1 h3, so b e2 h4]; exact HF.out.2.1 a b h1 h2 e1 e2
              · rw [si]
                by_cases e2 : b = j
                · subst e2; rw [sj, ← ex, ← ey]; omega
                · rw [so b e2 (by omega)]; exact HF.out.2.2 b (by omega) h2
            clear HF HR hg HMs HS c1 c2 hc1 hc2 hf1 hf2 c3 c4 c5
            go_region
            go_wp2
            exact ⟨⟨i, _, by omega, by go_num, hO3, hR3, hg3⟩, by simp [intOf]; omega⟩
          · have HL := fun W => less_calls W x y false (by simpa using hl)
            have HL := Lib.hid HL
            have hO3 : Hid (Mix n f f2 ∧ ∀ a b, a < b → b < k + 1 → f2 a ≤ f2 b) := by
              obtain ⟨ex, ey, -⟩ := HXY.out
              refine ⟨HF.out.1, fun a b h1 h2 => ?_⟩
              by_cases e1 : a = j
              · subst e1; exact HF.out.2.2 b h1 (by omega)
              · by_cases e2 : b = j
                · subst e2
                  by_cases e3 : a = i
                  · subst e3; omega
                  · have := HF.out.2.1 a i (by omega) (by omega) e1 (by omega); omega
                · exact HF.out.2.1 a b h1 (by omega) e1 e2
            clear hl
            go_wp2
            go_quiet ((go_at_call 37; exact Calls.quiet_of_same (HL.out _)))
            go_wp2
            exact ⟨⟨k + 1, f2, by omega, hlt, by go_num, hO3, owns_same HR.out fun _ _ => rfl, ⟨hg.os, hg.tape, hg.output, hg.size, hg.block⟩⟩, by simp [intOf]; omega⟩
        · have hj0 : j = 0 := by omega
          subst hj0
          have hO3 : Hid (Mix n f f2 ∧ ∀ a b, a < b → b < k + 1 → f2 a ≤ f2 b) := by
            refine ⟨HF.out.1, fun a b h1 h2 => ?_⟩
            by_cases e1 : a = 0
            · subst e1; exact HF.out.2.2 b h1 (by omega)
            · exact HF.out.2.1 a b h1 (by omega) e1 (by omega)
          go_wp2
          go_quiet (fail)
          go_wp2
          exact ⟨⟨k + 1, f2, by omega, hlt, by go_num, hO3, owns_same HR.out fun _ _ => rfl, ⟨hg.os, hg.tape, hg.output, hg.size, hg.block⟩⟩, by simp [intOf]; omega⟩
    · have hke : k = n := by omega
      subst hke
      go_wp2
      go_end0
      exact ⟨⟨_, rfl⟩, f1, HF.out.1, HF.out.2, HR.out, hg⟩
end Go.Proofs.Ytddpnldgfdooiaa
