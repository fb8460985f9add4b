import Derived.Test.YtddpnldgfdooiaaTkM
namespace Go.Proofs.Ytddpnldgfdooiaa
open Go.RowKit Go.Maps
attribute [local go_sem] World.cell?_alloc_some frozen_alloc_some

/-! The document's example. -/
def nilF : Int → Option Ses := fun _ => none
def uno (x : Int) (s : Ses) : Int → Option Ses := fun y => if y = x then some s else none
theorem swF_nil (i a n : Int) : swF nilF i a n = nilF := rfl
theorem swF_uno (x : Int) (s : Ses) (i a n : Int) : swF (uno x s) i a n = if endM i a s n = true then nilF else uno x s := by
  funext y
  by_cases h : endM i a s n = true <;> by_cases e : y = x <;> simp [swF, delF, uno, nilF, h, e, Option.filter]
theorem upd_nil (x : Int) (s : Ses) : upd nilF x s = uno x s := rfl
theorem upd_uno (x : Int) (s t : Ses) : upd (uno x s) x t = uno x t := by
  funext y
  unfold upd uno
  split <;> rfl
theorem era_uno (x : Int) (s : Ses) : era (uno x s) x = nilF := by
  funext y
  unfold era uno nilF
  split <;> rfl
theorem era_nil (x : Int) : era nilF x = nilF := by
  funext y
  unfold era nilF
  split <;> rfl
theorem uno_at (x : Int) (s : Ses) : uno x s x = some s := if_pos rfl
theorem uno_ne {x y : Int} (s : Ses) (h : y ≠ x) : uno x s y = none := if_neg h
theorem fin_uno (x : Int) (s : Ses) : FinK (uno x s) [x] := ⟨by simp, fun y => by unfold uno; by_cases e : y = x <;> simp [e]⟩
theorem fin_nil : FinK nilF [] := ⟨List.nodup_nil, fun y => by simp [nilF]⟩
theorem card_uno (x : Int) (s : Ses) : Card (uno x s) 1 := (fin_uno x s).card
theorem card_nil : Card nilF 0 := fin_nil.card
theorem grownS {N mb : Nat} {w W W' : World} (h : Below N w W) (hg : W.grownBy W' (some mb)) (hm : N ≤ mb) (hN : N ≤ w.heap.size) : Below N w W' :=
  h.trans ⟨hg.os, hg.tape, hg.output, hg.size, fun b hb => hg.block b (by have := h.size; omega) (fun e => by have := Option.some.inj e; omega)⟩
set_option maxRecDepth 100000 in
set_option maxHeartbeats 4000000 in
theorem alive_calls (w : World) : Calls Try.prog 7 #[] w fun e w' => e = .returned (.bool true) ∧ Below w.heap.size w w' := by
  go_enter Try.func7, Try.ntmps7
  go_wp2_with fail
  refine (new_yes _ 1 5 100 (by unfold newOk; omega)).mono ?_
  rintro e w1 ⟨rfl, rfl⟩
  have T := tab_new w (most := 1) (idle := 5) (abs := 100) (by unfold newOk; omega)
  have B1 : Below w.heap.size w ((w.alloc (.map #[] 0)).alloc (.cells #[.map (some w.heap.size), .int .i64 1, .int .i64 5, .int .i64 100] 54)) := ((Below.refl _ _).alloc (Nat.le_refl _) _).alloc (by simp) _
  obtain ⟨W1, hW1⟩ : ∃ W1, W1 = (w.alloc (.map #[] 0)).alloc (.cells #[.map (some w.heap.size), .int .i64 1, .int .i64 5, .int .i64 100] 54) := ⟨_, rfl⟩
  obtain ⟨tb, htb⟩ : ∃ tb, tb = w.heap.size + 1 := ⟨_, rfl⟩
  obtain ⟨mb, hmb⟩ : ∃ mb, mb = w.heap.size := ⟨_, rfl⟩
  rw [← hW1, ← htb, ← hmb] at T
  rw [← hW1] at B1
  rw [← hW1, ← htb]
  have hmm : w.heap.size ≤ mb := by omega
  clear hW1 htb hmb
  have T : TabAt W1 tb mb 0 1 5 100 nilF := T
  go_wp2_with fail
  refine (open_yes _ T (by omega) 3 9 0 (by unfold I64; omega) (by decide) (by unfold I64; omega) (by omega) rfl (by rw [swF_nil]; exact card_nil) (by omega)).mono ?_
  rintro e w2 ⟨rfl, T2, g2⟩
  rw [swF_nil, upd_nil] at T2
  have B2 := grownS B1 g2 hmm (Nat.le_refl _)
  clear T g2 B1
  go_wp2_with fail
  refine (open_many _ T2 (by omega) 4 8 1 (by decide) (by unfold I64; omega) (by omega) (by rw [swF_uno, if_neg (by decide)]; exact uno_ne _ (by omega)) (by rw [swF_uno, if_neg (by decide)]; exact card_uno _ _) (by omega)).mono ?_
  rintro e w3 ⟨rfl, T3, g3⟩
  rw [swF_uno, if_neg (by decide)] at T3
  have B3 := grownS B2 g3 hmm (Nat.le_refl _)
  clear T2 g3 B2
  go_wp2_with fail
  refine (use_yes _ T3 9 (by decide) 4 (by unfold I64; omega) (by omega) 3 0 0 (uno_at _ _) (by decide)).mono ?_
  rintro e w4 ⟨rfl, T4, g4⟩
  rw [upd_uno] at T4
  have B4 := grownS B3 g4 hmm (Nat.le_refl _)
  clear T3 g4 B3
  go_wp2_with fail
  refine (use_yes _ T4 9 (by decide) 8 (by unfold I64; omega) (by omega) 3 0 4 (uno_at _ _) (by decide)).mono ?_
  rintro e w5 ⟨rfl, T5, g5⟩
  rw [upd_uno] at T5
  have B5 := grownS B4 g5 hmm (Nat.le_refl _)
  clear T4 g5 B4
  go_wp2_with fail
  refine (use_no _ T5 9 (by decide) 13 (by unfold I64; omega) (fun s hs => by rw [uno_at] at hs; cases hs; decide)).mono ?_
  rintro e w6 ⟨rfl, T6, g6⟩
  rw [era_uno] at T6
  have B6 := grownS B5 g6 hmm (Nat.le_refl _)
  clear T5 g6 B5
  go_wp2_with fail
  refine (open_tok _ T6 (by omega) 4 0 13 (by decide) (by unfold I64; omega) (.inl rfl)).mono ?_
  rintro e w7 ⟨rfl, T7, g7⟩
  rw [swF_nil] at T7
  have B7 := grownS B6 g7 hmm (Nat.le_refl _)
  clear T6 g7 B6
  go_wp2_with fail
  refine (open_yes _ T7 (by omega) 4 8 13 (by unfold I64; omega) (by decide) (by unfold I64; omega) (by omega) rfl (by rw [swF_nil]; exact card_nil) (by omega)).mono ?_
  rintro e w8 ⟨rfl, T8, g8⟩
  rw [swF_nil, upd_nil] at T8
  have B8 := grownS B7 g8 hmm (Nat.le_refl _)
  clear T7 g8 B7
  go_wp2_with fail
  refine (sessions_calls _ tb mb _ 9 T8 (by omega) [8] (fin_uno _ _) (by simp) (by simp) (by omega)).mono ?_
  rintro e w9 ⟨vx, vy, rfl, hx, hy, hb9⟩
  have T9 := T8.below hb9
  have B9 := B8.trans (hb9.mono B8.size)
  obtain ⟨Ax, cx, rfl⟩ := hx.form
  obtain ⟨Ay, cy, rfl⟩ := hy.form
  have hy1 := hy.1
  clear T8 hb9 B8 hx
  obtain ⟨g, rfl⟩ : ∃ g, Ay = some ⟨g, 0, none⟩ := by
    rcases owns_cases hy1 with rfl | h
    · obtain ⟨-, (⟨e, h00⟩ | ⟨g, cap', cur, e, -⟩)⟩ := id hy1
      · simp [pairF] at h00
      · cases e
    · exact h
  have hcell : w9.cell? ⟨g, 0, none⟩ = some (.int .i64 4) := by
    have := hy1.cells (g := g) rfl 0 (.int .i64 4) (by simp [nums, pairF, perF, uno])
    rw [add0t] at this
    exact this
  have hlx : (List.map (fun x => x.1) ((pairF (uno 8 (4, 13, 13)) [8]).take (9 : Int).toNat)).length = 1 := by simp [pairF]
  have hly : (List.map (fun x => x.2) ((pairF (uno 8 (4, 13, 13)) [8]).take (9 : Int).toNat)).length = 1 := by simp [pairF]
  rw [hlx, hly]
  clear hlx hly hy1 hy
  have HSW : Hid (Calls Try.prog 14 #[.pointer (some ⟨tb, 0, none⟩), .int .i64 18] w9 fun e w' => e = .returned (.int .i64 1) ∧ TabAt w' tb mb _ 1 5 100 nilF ∧ Below w.heap.size w w') := (sweep_calls _ T9 (by omega) 18 (by unfold I64; omega)).mono fun e w' ⟨c, c', h1, h2, h3, h4, h5⟩ => by
    rw [swF_uno, if_pos (by decide)] at h2 h4
    have e1 := h1.uniq (card_uno _ _) fun _ => rfl
    have e2 := h2.uniq card_nil fun _ => rfl
    rw [h3, e1, e2]
    exact ⟨rfl, h4, grownS B9 h5 hmm (Nat.le_refl _)⟩
  clear T9
  go_wp2_with fail
  refine (new_no _ 0 1 1 (by omega)).mono ?_
  rintro e w10 ⟨rfl, rfl⟩
  go_wp2_with fail
  refine HSW.out.mono ?_
  rintro e w11 ⟨rfl, T11, B11⟩
  go_wp2_with fail
  refine (close_calls _ T11 8 (by decide)).mono ?_
  rintro e w12 ⟨rfl, T12, g12⟩
  rw [era_nil] at T12
  have B12 := grownS B11 g12 hmm (Nat.le_refl _)
  clear T11 g12 B11
  have HLN : Hid (Calls Try.prog 13 #[.pointer (some ⟨tb, 0, none⟩)] w12 fun e w' => e = .returned (.int .i64 0) ∧ w' = w12) := (len_calls _ T12).mono fun e w' ⟨c, h1, _, h3, h4⟩ => by
    have e1 := h1.uniq card_nil fun _ => rfl
    rw [h3, e1]
    exact ⟨rfl, h4⟩
  clear T12
  go_wp2_with fail
  refine HLN.out.mono ?_
  rintro e w13 ⟨rfl, rfl⟩
  go_wp2
  go_ret
  exact ⟨rfl, B12⟩
end Go.Proofs.Ytddpnldgfdooiaa
