import Derived.Test.YtddpnldgfdooiaaTkD
namespace Go.Proofs.Ytddpnldgfdooiaa
open Go.RowKit Go.Maps
attribute [local go_sem] World.cell?_alloc_some frozen_alloc_some

/-! Sweep, Open. -/
theorem sw1_calls (w : World) (tb bt bn : Nat) (m : Value) (most idle abs now : Int) (hc : w.heap[tb]? = some (.cells #[m, .int .i64 most, .int .i64 idle, .int .i64 abs] 54)) (hi : 1 ≤ idle ∧ idle ≤ 9223372036854775807) (ha : 1 ≤ abs ∧ abs ≤ 9223372036854775807)
    (hbt : w.cell? ⟨bt, 0, none⟩ = some (.pointer (some ⟨tb, 0, none⟩))) (hbn : w.cell? ⟨bn, 0, none⟩ = some (.int .i64 now)) (hn : I64 now) (x p b l : Int) (hs : I64 b ∧ I64 l) :
    Calls Try.prog 19 #[.int .u64 x, .agg #[.int .i64 p, .int .i64 b, .int .i64 l], .pointer (some ⟨bt, 0, none⟩), .pointer (some ⟨bn, 0, none⟩)] w fun e w' => e = .returned (.bool (endM idle abs (p, b, l) now)) ∧ Below w.heap.size w w' := by
  have hb1 := (Below.refl w.heap.size w).alloc (Nat.le_refl _) (.cells #[.int .i64 p, .int .i64 b, .int .i64 l] 56)
  have HE := ended_calls (w.alloc (.cells #[.int .i64 p, .int .i64 b, .int .i64 l] 56)) tb m most idle abs ((hb1.block _ (Array.getElem?_eq_some_iff.1 hc).1).trans hc) hi ha (p, b, l) hs now hn
  simp only [sesV] at HE
  obtain ⟨q, hq⟩ : ∃ q, q = endM idle abs (p, b, l) now := ⟨_, rfl⟩
  rw [← hq] at HE ⊢
  have HE := Lib.hid HE
  clear hq hc
  go_enter Try.func19, Try.ntmps19
  go_wp2_with fail
  refine HE.out.mono ?_
  rintro e w2 ⟨rfl, hb2⟩
  go_wp2
  go_ret
  exact ⟨rfl, hb1.trans (hb2.mono (by simp))⟩
theorem delF_card {F : Int → Option Ses} {p : Int → Ses → Bool} {m m' : Nat} (h : Card F m) (h' : Card (delF F p) m') : m' ≤ m :=
  h'.le h fun x hx => by unfold delF at hx; cases hF : F x with
    | none => rw [hF] at hx; simp at hx
    | some s => rfl
def swF (F : Int → Option Ses) (idle abs now : Int) : Int → Option Ses := delF F fun _ s => endM idle abs s now
theorem swF_ses {F : Int → Option Ses} {idle abs now : Int} (h : ∀ x s, F x = some s → I64 s.1 ∧ I64 s.2.1 ∧ I64 s.2.2) : ∀ x s, swF F idle abs now x = some s → I64 s.1 ∧ I64 s.2.1 ∧ I64 s.2.2 := fun x s e => by
  unfold swF delF at e
  cases hF : F x with
  | none => rw [hF] at e; simp at e
  | some t =>
    rw [hF] at e
    have : t = s := by
      simp only [Option.filter] at e
      split at e
      · exact Option.some.inj e
      · cases e
    rw [← this]; exact h x t hF
set_option maxHeartbeats 2000000 in
theorem sweep_calls (w : World) {tb mb n : Nat} {most idle abs : Int} {F : Int → Option Ses} (h : TabAt w tb mb n most idle abs F) (hnl : n ≤ 1000000) (now : Int) (hn : I64 now) :
    Calls Try.prog 14 #[.pointer (some ⟨tb, 0, none⟩), .int .i64 now] w fun e w' => ∃ c c' : Nat, Card F c ∧ Card (swF F idle abs now) c' ∧ e = .returned (.int .i64 ((c : Int) - c')) ∧ TabAt w' tb mb n most idle abs (swF F idle abs now) ∧ w.grownBy w' (some mb) := by
  have htl := (Array.getElem?_eq_some_iff.1 h.cells).1
  have hml := h.map.lt
  have hne := h.ne
  have hr := h.rng
  have HT := Lib.hid h
  have hb2 : Below w.heap.size w ((w.alloc (.cells #[.pointer (some ⟨tb, 0, none⟩)] 25)).alloc (.cells #[.int .i64 now] 2)) := ((Below.refl w.heap.size w).alloc (Nat.le_refl _) _).alloc (by simp) _
  have k1 : ((w.alloc (.cells #[.pointer (some ⟨tb, 0, none⟩)] 25)).alloc (.cells #[.int .i64 now] 2)).cell? ⟨w.heap.size, 0, none⟩ = some (.pointer (some ⟨tb, 0, none⟩)) := by
    rw [World.cell?_of_block (Below.heap_alloc _ _ _ (by simp))]; simp
  have k2 : ((w.alloc (.cells #[.pointer (some ⟨tb, 0, none⟩)] 25)).alloc (.cells #[.int .i64 now] 2)).cell? ⟨w.heap.size + 1, 0, none⟩ = some (.int .i64 now) := by
    have : (w.alloc (.cells #[.pointer (some ⟨tb, 0, none⟩)] 25)).heap.size = w.heap.size + 1 := by simp
    rw [← this]; simp
  obtain ⟨W2, hW2⟩ : ∃ W2, W2 = (w.alloc (.cells #[.pointer (some ⟨tb, 0, none⟩)] 25)).alloc (.cells #[.int .i64 now] 2) := ⟨_, rfl⟩
  rw [← hW2] at hb2 k1 k2
  have T2 := h.below hb2
  have hs2 : W2.heap.size = w.heap.size + 2 := by rw [hW2]; simp
  have HD : Hid (Calls Try.prog 18 #[.map (some mb), .func (.func 19) #[] #[.pointer (some ⟨w.heap.size, 0, none⟩), .pointer (some ⟨w.heap.size + 1, 0, none⟩)]] W2 fun e w' => e = .returned (.tuple #[]) ∧ MapF krU erS w' mb n (swF F idle abs now) ∧ W2.grownBy w' (some mb)) := by
    refine delf_calls W2 w.heap.size (w.heap.size + 1) mb n F (fun _ s => endM idle abs s now) T2.map fun W x p b l hg hx hF => ?_
    have ht := (hg.block tb (by omega) (fun e => hne (Option.some.inj e))).trans T2.cells
    have e1 : W.cell? ⟨w.heap.size, 0, none⟩ = some (.pointer (some ⟨tb, 0, none⟩)) := (World.cell?_of_block (hg.block w.heap.size (by omega) (fun e => by have := Option.some.inj e; omega))).trans k1
    have e2 : W.cell? ⟨w.heap.size + 1, 0, none⟩ = some (.int .i64 now) := (World.cell?_of_block (hg.block (w.heap.size + 1) (by omega) (fun e => by have := Option.some.inj e; omega))).trans k2
    have hS := h.ses x _ hF
    exact sw1_calls W tb w.heap.size (w.heap.size + 1) _ most idle abs now ht hr.2.1 hr.2.2 e1 e2 hn x p b l hS.2
  have HM2 := Lib.hid T2.map
  have HT2 := Lib.hid T2
  have hb2' := Lib.hid hb2
  obtain ⟨⟨c0, c1, c2, c3⟩, -, -, -, -⟩ := cells4 h.cells
  clear h T2 hr hb2 k1 k2
  subst hW2
  have HK : Hid (∀ W, ((w.alloc (.cells #[.pointer (some ⟨tb, 0, none⟩)] 25)).alloc (.cells #[.int .i64 now] 2)).grownBy W (some mb) → W.heap[tb]? = some (.cells #[.map (some mb), .int .i64 most, .int .i64 idle, .int .i64 abs] 54) ∧ W.cell? ⟨w.heap.size, 0, none⟩ = some (.pointer (some ⟨tb, 0, none⟩))) := fun W hg => by
    refine ⟨(hg.block tb (by simp; omega) (fun e => hne (Option.some.inj e))).trans HT2.out.cells, (World.cell?_of_block (hg.block w.heap.size (by simp; omega) (fun e => by have := Option.some.inj e; omega))).trans ?_⟩
    rw [World.cell?_of_block (Below.heap_alloc _ _ _ (by simp))]; simp
  have T0 : True := trivial
  clear hs2
  go_enter Try.func14, Try.ntmps14
  go_wp2_with (first | (at_len; clear T0; refine wpList_len rfl _ rfl Try.underlying52 rfl HM2.out ?_; intro c hc hcn) | (go_at_call 18; refine HD.out.mono ?_; rintro e w3 ⟨rfl, hm3, hg3⟩; obtain ⟨k3, k4⟩ := HK.out w3 hg3; obtain ⟨⟨d0, d1, d2, d3⟩, -, -, -, -⟩ := cells4 k3) | (at_len; refine wpList_len rfl _ rfl Try.underlying52 rfl hm3 ?_; intro c' hc' hcn'))
  have hw : wrap64 ((c : Int) - c') = c - c' := by
    have := delF_card hc hc'
    unfold wrap64; omega
  have hg := grown_trans (below_grown hb2'.out (some mb)) hg3
  go_ret
  exact ⟨c, c', hc, hc', by first | rfl | rw [hw], HT.out.turn hm3 hg (swF_ses HT.out.ses), hg⟩
set_option maxHeartbeats 2000000 in
/-- Whoever may be let in. -/
theorem open_yes (w : World) {tb mb n : Nat} {most idle abs : Int} {F : Int → Option Ses} (h : TabAt w tb mb n most idle abs F) (hnl : n ≤ 1000000) (p x now : Int) (hp : I64 p) (hx : (Lit.int .u64 x).wf = true) (hn : I64 now) (hx0 : x ≠ 0) (hno : swF F idle abs now x = none) {m : Nat} (hc : Card (swF F idle abs now) m) (hm : (m : Int) ≠ most) :
    Calls Try.prog 10 #[.pointer (some ⟨tb, 0, none⟩), .int .i64 p, .int .u64 x, .int .i64 now] w fun e w' => e = .returned (.int .i64 0) ∧ TabAt w' tb mb (n + 1) most idle abs (upd (swF F idle abs now) x (p, now, now)) ∧ w.grownBy w' (some mb) := by
  have HSW := Lib.hid (sweep_calls w h hnl now hn)
  have hx00 : (x == 0) = false := by simpa using hx0
  have HX : Hid (krU.ok x) := hx
  have HV : Hid (erS.val ((swF F idle abs now x).getD (0, 0, 0)) = .agg #[.int .i64 0, .int .i64 0, .int .i64 0]) := by show _ = _; rw [hno]; rfl
  have HQ : Hid ((swF F idle abs now x).isSome = false) := by show _ = _; rw [hno]; rfl
  have HC := Lib.hid hc
  have hmb : ((m : Int) == most) = false := by simpa using hm
  have HP : Hid (I64 p ∧ I64 now) := ⟨hp, hn⟩
  obtain ⟨G, hG⟩ : ∃ G, G = swF F idle abs now := ⟨_, rfl⟩
  rw [← hG] at HSW HV HQ HC ⊢
  clear hno hc hx hp hn hG hx0 hm
  go_enter Try.func10, Try.ntmps10
  go_wp2_with fail
  refine HSW.out.mono ?_
  rintro e w2 ⟨c, c', -, -, rfl, T2, hg2⟩
  obtain ⟨⟨c0, c1, c2, c3⟩, -, -, -, -⟩ := cells4 T2.cells
  have HM := Lib.hid T2.map
  have hb3 := (Below.refl w2.heap.size w2).alloc (Nat.le_refl _) (.cells #[.int .i64 0, .int .i64 0, .int .i64 0] 56)
  have hlen : ∀ d ty, (Builtin.len_ #[52] ty #[.map (some mb)]).run Try.prog ((w2.alloc (.cells #[.int .i64 0, .int .i64 0, .int .i64 0] 56)).drewN d) = .ok (.int .i64 m) ((w2.alloc (.cells #[.int .i64 0, .int .i64 0, .int .i64 0] 56)).drewN d) := fun d ty => by
    obtain ⟨m', hm', -, hl⟩ := (MapF.below (w' := (w2.alloc (.cells #[.int .i64 0, .int .i64 0, .int .i64 0] 56)).drewN d) T2.map (hb3.block _ T2.map.lt)).len Try.underlying52
    rw [← hm'.uniq HC.out fun _ => rfl]; exact hl ty
  go_wp2_with (first | (at_lookup; refine wpList_lookV rfl _ _ rfl Try.underlying52 (0, 0, 0) (zeroS _) rfl HM.out x rfl HX.out _ _ HV.out HQ.out ?_))
  go_quiet (fail)
  have hM3 : MapF krU erS ((w2.alloc (.cells #[.int .i64 0, .int .i64 0, .int .i64 0] 56)).drewN nq) mb n G := MapF.below HM.out (hb3.block _ HM.out.lt)
  go_wp2_with (at_mapUpdate; refine wpList_put rfl _ _ _ rfl Try.underlying52 rfl hM3 (by unfold maxLen; omega) x (p, now, now) rfl rfl HX.out ?_; intro w4 hm4 hg4)
  go_ret
  have hb4 : Below w2.heap.size w2 ((w2.alloc (.cells #[.int .i64 0, .int .i64 0, .int .i64 0] 56)).drewN nq) := hb3.trans (below_drewN _ _ _)
  have hg5 := grown_trans (below_grown hb4 (some mb)) hg4
  exact ⟨rfl, T2.turn hm4 hg5 (upd_ses T2.ses x (p, now, now) ⟨HP.out.1, HP.out.2, HP.out.2⟩), grown_trans hg2 hg5⟩
set_option maxHeartbeats 2000000 in
theorem open_tok (w : World) {tb mb n : Nat} {most idle abs : Int} {F : Int → Option Ses} (h : TabAt w tb mb n most idle abs F) (hnl : n ≤ 1000000) (p x now : Int) (hx : (Lit.int .u64 x).wf = true) (hn : I64 now) (hno : x = 0 ∨ (swF F idle abs now x).isSome = true) :
    Calls Try.prog 10 #[.pointer (some ⟨tb, 0, none⟩), .int .i64 p, .int .u64 x, .int .i64 now] w fun e w' => e = .returned (.int .i64 41) ∧ TabAt w' tb mb n most idle abs (swF F idle abs now) ∧ w.grownBy w' (some mb) := by
  have HSW := Lib.hid (sweep_calls w h hnl now hn)
  have HX : Hid (krU.ok x) := hx
  obtain ⟨G, hG⟩ : ∃ G, G = swF F idle abs now := ⟨_, rfl⟩
  rw [← hG] at HSW hno ⊢
  obtain ⟨⟨p', b', l'⟩, hs⟩ : ∃ s : Ses, s = (G x).getD (0, 0, 0) := ⟨_, rfl⟩
  obtain ⟨q, hq⟩ : ∃ q, q = (G x).isSome := ⟨_, rfl⟩
  have HV : Hid (erS.val ((G x).getD (0, 0, 0)) = .agg #[.int .i64 p', .int .i64 b', .int .i64 l']) := by show _ = _; rw [← hs]; rfl
  have HQ : Hid ((G x).isSome = q) := hq.symm
  rw [← hq] at hno
  clear hx hn hG hs hq
  go_enter Try.func10, Try.ntmps10
  go_wp2_with fail
  refine HSW.out.mono ?_
  rintro e w2 ⟨c, c', -, -, rfl, T2, hg2⟩
  obtain ⟨⟨c0, c1, c2, c3⟩, -, -, -, -⟩ := cells4 T2.cells
  have HM := Lib.hid T2.map
  have hb3 := (Below.refl w2.heap.size w2).alloc (Nat.le_refl _) (.cells #[.int .i64 p', .int .i64 b', .int .i64 l'] 56)
  have hg3 := grown_trans hg2 (below_grown hb3 (some mb))
  have T3 := T2.below hb3
  rcases hno with hx0 | hq1
  · have hx00 : (x == 0) = true := by simpa using hx0
    clear hx0
    go_wp2_with (first | (at_lookup; refine wpList_lookV rfl _ _ rfl Try.underlying52 (0, 0, 0) (zeroS _) rfl HM.out x rfl HX.out _ _ HV.out HQ.out ?_))
    go_ret
    exact ⟨rfl, T3, hg3⟩
  · subst hq1
    by_cases hx0 : x = 0
    · have hx00 : (x == 0) = true := by simpa using hx0
      clear hx0
      go_wp2_with (first | (at_lookup; refine wpList_lookV rfl _ _ rfl Try.underlying52 (0, 0, 0) (zeroS _) rfl HM.out x rfl HX.out _ _ HV.out HQ.out ?_))
      go_ret
      exact ⟨rfl, T3, hg3⟩
    · have hx00 : (x == 0) = false := by simpa using hx0
      clear hx0
      go_wp2_with (first | (at_lookup; refine wpList_lookV rfl _ _ rfl Try.underlying52 (0, 0, 0) (zeroS _) rfl HM.out x rfl HX.out _ _ HV.out HQ.out ?_))
      go_ret
      exact ⟨rfl, T3, hg3⟩
set_option maxHeartbeats 2000000 in
theorem open_many (w : World) {tb mb n : Nat} {most idle abs : Int} {F : Int → Option Ses} (h : TabAt w tb mb n most idle abs F) (hnl : n ≤ 1000000) (p x now : Int) (hx : (Lit.int .u64 x).wf = true) (hn : I64 now) (hx0 : x ≠ 0) (hno : swF F idle abs now x = none) {m : Nat} (hc : Card (swF F idle abs now) m) (hm : (m : Int) = most) :
    Calls Try.prog 10 #[.pointer (some ⟨tb, 0, none⟩), .int .i64 p, .int .u64 x, .int .i64 now] w fun e w' => e = .returned (.int .i64 3) ∧ TabAt w' tb mb n most idle abs (swF F idle abs now) ∧ w.grownBy w' (some mb) := by
  have HSW := Lib.hid (sweep_calls w h hnl now hn)
  have hx00 : (x == 0) = false := by simpa using hx0
  have HX : Hid (krU.ok x) := hx
  have HV : Hid (erS.val ((swF F idle abs now x).getD (0, 0, 0)) = .agg #[.int .i64 0, .int .i64 0, .int .i64 0]) := by show _ = _; rw [hno]; rfl
  have HQ : Hid ((swF F idle abs now x).isSome = false) := by show _ = _; rw [hno]; rfl
  have HC := Lib.hid hc
  have hmb : ((m : Int) == most) = true := by simpa using hm
  obtain ⟨G, hG⟩ : ∃ G, G = swF F idle abs now := ⟨_, rfl⟩
  rw [← hG] at HSW HV HQ HC ⊢
  clear hno hc hx hn hG hx0 hm
  go_enter Try.func10, Try.ntmps10
  go_wp2_with fail
  refine HSW.out.mono ?_
  rintro e w2 ⟨c, c', -, -, rfl, T2, hg2⟩
  obtain ⟨⟨c0, c1, c2, c3⟩, -, -, -, -⟩ := cells4 T2.cells
  have HM := Lib.hid T2.map
  have hb3 := (Below.refl w2.heap.size w2).alloc (Nat.le_refl _) (.cells #[.int .i64 0, .int .i64 0, .int .i64 0] 56)
  have hlen : ∀ d ty, (Builtin.len_ #[52] ty #[.map (some mb)]).run Try.prog ((w2.alloc (.cells #[.int .i64 0, .int .i64 0, .int .i64 0] 56)).drewN d) = .ok (.int .i64 m) ((w2.alloc (.cells #[.int .i64 0, .int .i64 0, .int .i64 0] 56)).drewN d) := fun d ty => by
    obtain ⟨m', hm', -, hl⟩ := (MapF.below (w' := (w2.alloc (.cells #[.int .i64 0, .int .i64 0, .int .i64 0] 56)).drewN d) T2.map (hb3.block _ T2.map.lt)).len Try.underlying52
    rw [← hm'.uniq HC.out fun _ => rfl]; exact hl ty
  go_wp2_with (first | (at_lookup; refine wpList_lookV rfl _ _ rfl Try.underlying52 (0, 0, 0) (zeroS _) rfl HM.out x rfl HX.out _ _ HV.out HQ.out ?_))
  go_quiet (fail)
  go_wp2
  go_ret
  have hb4 : Below w2.heap.size w2 ((w2.alloc (.cells #[.int .i64 0, .int .i64 0, .int .i64 0] 56)).drewN nq) := hb3.trans (below_drewN _ _ _)
  exact ⟨rfl, T2.below hb4, grown_trans hg2 (below_grown hb4 (some mb))⟩
end Go.Proofs.Ytddpnldgfdooiaa
