import Derived.Test.YtddpnldgfdooiaaTkB
import Derived.Carry
namespace Go.Proofs.Ytddpnldgfdooiaa
open Go.RowKit Go.Maps
attribute [local go_sem] World.cell?_alloc_some frozen_alloc_some

/-! New, Len, Close, Use. -/
theorem erS_val (s : Ses) : erS.val s = sesV s := rfl
theorem zeroS (w : World) : (zeroValue 56).run Try.prog w = .ok (erS.val (0, 0, 0)) w := by rw [erS_val]; kernel_rfl
theorem below_grown {w w' : World} (h : Below w.heap.size w w') (row : Option Nat) : w.grownBy w' row := ⟨h.os, h.tape, h.output, h.size, fun k hk _ => h.block k hk⟩
theorem grown_below0 {w w' : World} (h : w.grownBy w' none) : Below w.heap.size w w' := ⟨h.os, h.tape, h.output, h.size, fun k hk => h.block k hk (by simp)⟩
theorem grown_trans {a b c : World} {row : Option Nat} (h : a.grownBy b row) (k : b.grownBy c row) : a.grownBy c row :=
  ⟨k.os.trans h.os, k.tape.trans h.tape, k.output.trans h.output, Nat.le_trans h.size k.size, fun i hi hn => (k.block i (Nat.lt_of_lt_of_le hi h.size) hn).trans (h.block i hi hn)⟩
theorem span_calls (w : World) (x : Int) (q : Bool) (hq : decide (1 ≤ x ∧ x ≤ 1125899906842624) = q) : Calls Try.prog 16 #[.int .i64 x] w fun e w' => e = .returned (.bool q) ∧ w' = w := by
  go_enter Try.func16, Try.ntmps16
  by_cases h1 : 1 ≤ x
  · have g : decide (x ≤ 1125899906842624) = q := by rw [← hq]; simp [h1]
    clear hq
    go_wp2
    go_ret
    exact ⟨rfl, rfl⟩
  · have hq' : q = false := by rw [← hq]; simp; omega
    subst hq'
    clear hq
    go_wp2
    go_ret
    exact ⟨rfl, rfl⟩
def newOk (most idle abs : Int) : Prop := (1 ≤ most ∧ most ≤ 64) ∧ (1 ≤ idle ∧ idle ≤ 1125899906842624) ∧ (1 ≤ abs ∧ abs ≤ 1125899906842624)
theorem new_yes (w : World) (most idle abs : Int) (h : newOk most idle abs) : Calls Try.prog 9 #[.int .i64 most, .int .i64 idle, .int .i64 abs] w fun e w' =>
    e = .returned (.tuple #[.pointer (some ⟨w.heap.size + 1, 0, none⟩), .int .i64 0]) ∧ w' = (w.alloc (.map #[] 0)).alloc (.cells #[.map (some w.heap.size), .int .i64 most, .int .i64 idle, .int .i64 abs] 54) := by
  obtain ⟨⟨h1, h2⟩, h3, h4⟩ := h
  have hmm := @run_makeMap Try.prog
  have H3 := Lib.hid (fun W => span_calls W idle true (by simpa using h3))
  have H4 := Lib.hid (fun W => span_calls W abs true (by simpa using h4))
  clear h3 h4
  go_enter Try.func9, Try.ntmps9
  go_wp2_with fail
  refine (H3.out _).mono ?_
  rintro e w1 ⟨rfl, rfl⟩
  go_wp2_with fail
  refine (H4.out _).mono ?_
  rintro e w2 ⟨rfl, rfl⟩
  go_wp2
  exact bodyPost_ret (v := .tuple #[.pointer (some ⟨w2.heap.size + 1, 0, none⟩), .int .i64 0]) (by simp [results, Try.results9, go_sem, *]) rfl ⟨rfl, rfl⟩
theorem new_no (w : World) (most idle abs : Int) (h : most < 1) : Calls Try.prog 9 #[.int .i64 most, .int .i64 idle, .int .i64 abs] w fun e w' =>
    e = .returned (.tuple #[.pointer none, .int .i64 1]) ∧ w' = w := by
  go_enter Try.func9, Try.ntmps9
  go_wp2
  exact bodyPost_ret (v := .tuple #[.pointer none, .int .i64 1]) (by simp [results, Try.results9, go_sem, *]) rfl ⟨rfl, rfl⟩
theorem tab_new (w : World) {most idle abs : Int} (h : newOk most idle abs) :
    TabAt ((w.alloc (.map #[] 0)).alloc (.cells #[.map (some w.heap.size), .int .i64 most, .int .i64 idle, .int .i64 abs] 54)) (w.heap.size + 1) w.heap.size 0 most idle abs fun _ => none := by
  obtain ⟨h1, h2, h3⟩ := h
  refine ⟨?_, (MapF.made w).below (Below.heap_alloc _ _ _ (by simp)), ⟨h1, by omega, by omega⟩, fun x s e => by simp at e⟩
  have := heap_alloc_at (w.alloc (.map #[] 0)) (.cells #[.map (some w.heap.size), .int .i64 most, .int .i64 idle, .int .i64 abs] 54)
  rwa [World.size_alloc] at this
theorem len_calls (w : World) {tb mb n : Nat} {most idle abs : Int} {F : Int → Option Ses} (h : TabAt w tb mb n most idle abs F) : Calls Try.prog 13 #[.pointer (some ⟨tb, 0, none⟩)] w fun e w' => ∃ c : Nat, Card F c ∧ c ≤ n ∧ e = .returned (.int .i64 c) ∧ w' = w := by
  obtain ⟨⟨c0, c1, c2, c3⟩, -, -, -, -⟩ := cells4 h.cells
  have HM := Lib.hid h.map
  clear h
  go_enter Try.func13, Try.ntmps13
  go_wp2_with (first | (at_len; refine wpList_len rfl _ rfl Try.underlying52 rfl HM.out ?_; intro c hc hcn) | fail)
  go_ret
  exact ⟨c, hc, hcn, rfl, rfl⟩
/-- the table behind a call that turned its map alone. -/
theorem TabAt.turn {w w' : World} {tb mb n n' : Nat} {most idle abs : Int} {F G : Int → Option Ses} (h : TabAt w tb mb n most idle abs F) (hm : MapF krU erS w' mb n' G) (hg : w.grownBy w' (some mb)) (hs : ∀ x s, G x = some s → I64 s.1 ∧ I64 s.2.1 ∧ I64 s.2.2) : TabAt w' tb mb n' most idle abs G :=
  ⟨(hg.block _ (Array.getElem?_eq_some_iff.1 h.cells).1 (fun e => h.ne (Option.some.inj e))).trans h.cells, hm, h.rng, hs⟩
theorem TabAt.getD {w : World} {tb mb n : Nat} {most idle abs : Int} {F : Int → Option Ses} (h : TabAt w tb mb n most idle abs F) (x : Int) : I64 ((F x).getD (0, 0, 0)).1 ∧ I64 ((F x).getD (0, 0, 0)).2.1 ∧ I64 ((F x).getD (0, 0, 0)).2.2 := by
  cases e : F x with
  | none => exact ⟨by unfold I64; simp, by unfold I64; simp, by unfold I64; simp⟩
  | some s => exact h.ses x s e
theorem era_ses {F : Int → Option Ses} (h : ∀ x s, F x = some s → I64 s.1 ∧ I64 s.2.1 ∧ I64 s.2.2) (y : Int) : ∀ x s, era F y x = some s → I64 s.1 ∧ I64 s.2.1 ∧ I64 s.2.2 := fun x s e => by
  unfold era at e
  split at e
  · cases e
  · exact h x s e
theorem upd_ses {F : Int → Option Ses} (h : ∀ x s, F x = some s → I64 s.1 ∧ I64 s.2.1 ∧ I64 s.2.2) (y : Int) (t : Ses) (ht : I64 t.1 ∧ I64 t.2.1 ∧ I64 t.2.2) : ∀ x s, upd F y t x = some s → I64 s.1 ∧ I64 s.2.1 ∧ I64 s.2.2 := fun x s e => by
  unfold upd at e
  split at e
  · cases e; exact ht
  · exact h x s e
set_option maxHeartbeats 1000000 in
theorem close_calls (w : World) {tb mb n : Nat} {most idle abs : Int} {F : Int → Option Ses} (h : TabAt w tb mb n most idle abs F) (x : Int) (hx : (Lit.int .u64 x).wf = true) :
    Calls Try.prog 11 #[.pointer (some ⟨tb, 0, none⟩), .int .u64 x] w fun e w' => e = .returned (.bool (F x).isSome) ∧ TabAt w' tb mb n most idle abs (era F x) ∧ w.grownBy w' (some mb) := by
  obtain ⟨⟨c0, c1, c2, c3⟩, -, -, -, -⟩ := cells4 h.cells
  obtain ⟨⟨p, b, l⟩, hs⟩ : ∃ s : Ses, s = (F x).getD (0, 0, 0) := ⟨_, rfl⟩
  obtain ⟨q, hq⟩ : ∃ q, q = (F x).isSome := ⟨_, rfl⟩
  have HM := Lib.hid h.map
  have HT := Lib.hid h
  have HV : Hid (erS.val ((F x).getD (0, 0, 0)) = .agg #[.int .i64 p, .int .i64 b, .int .i64 l]) := by show _ = _; rw [← hs]; rfl
  have HQ : Hid ((F x).isSome = q) := hq.symm
  have HX : Hid (krU.ok x) := hx
  rw [← hq]
  clear h hs hq hx
  have T0 : True := trivial
  go_enter Try.func11, Try.ntmps11
  go_wp2_with (first | (at_lookup; refine wpList_lookV rfl _ _ rfl Try.underlying52 (0, 0, 0) (zeroS _) rfl HM.out x rfl HX.out _ _ HV.out HQ.out ?_) | (at_delete; refine wpList_del rfl _ _ rfl Try.underlying52 rfl (HM.out.below (Below.heap_alloc _ _ _ HM.out.lt)) x rfl HX.out ?_; intro w1 hm1 hg1))
  go_ret
  have hg := grown_trans (below_grown ((Below.refl w.heap.size w).alloc (Nat.le_refl _) (.cells #[.int .i64 p, .int .i64 b, .int .i64 l] 56)) (some mb)) hg1
  exact ⟨rfl, HT.out.turn hm1 hg (era_ses HT.out.ses x), hg⟩
set_option maxHeartbeats 2000000 in
/-- A session that is not there, or has ended. -/
theorem use_no (w : World) {tb mb n : Nat} {most idle abs : Int} {F : Int → Option Ses} (h : TabAt w tb mb n most idle abs F) (x : Int) (hx : (Lit.int .u64 x).wf = true) (now : Int) (hn : I64 now) (hno : ∀ s, F x = some s → endM idle abs s now = true) :
    Calls Try.prog 12 #[.pointer (some ⟨tb, 0, none⟩), .int .u64 x, .int .i64 now] w fun e w' => e = .returned (.tuple #[.int .i64 0, .int .i64 41]) ∧ TabAt w' tb mb n most idle abs (era F x) ∧ w.grownBy w' (some mb) := by
  obtain ⟨⟨c0, c1, c2, c3⟩, -, -, -, -⟩ := cells4 h.cells
  have hr := h.rng
  have hS := h.getD x
  obtain ⟨⟨p, b, l⟩, hs⟩ : ∃ s : Ses, s = (F x).getD (0, 0, 0) := ⟨_, rfl⟩
  obtain ⟨q, hq⟩ : ∃ q, q = (F x).isSome := ⟨_, rfl⟩
  have HM := Lib.hid h.map
  have HT := Lib.hid h
  have HV : Hid (erS.val ((F x).getD (0, 0, 0)) = .agg #[.int .i64 p, .int .i64 b, .int .i64 l]) := by show _ = _; rw [← hs]; rfl
  have HQ : Hid ((F x).isSome = q) := hq.symm
  have HX : Hid (krU.ok x) := hx
  have hb1 := (Below.refl w.heap.size w).alloc (Nat.le_refl _) (.cells #[.int .i64 p, .int .i64 b, .int .i64 l] 56)
  have HM1 := Lib.hid (HM.out.below (hb1.block _ HM.out.lt))
  have HE : Hid (q = true → Calls Try.prog 17 #[.pointer (some ⟨tb, 0, none⟩), .agg #[.int .i64 p, .int .i64 b, .int .i64 l], .int .i64 now] (w.alloc (.cells #[.int .i64 p, .int .i64 b, .int .i64 l] 56)) fun e w' => e = .returned (.bool true) ∧ Below (w.heap.size + 1) (w.alloc (.cells #[.int .i64 p, .int .i64 b, .int .i64 l] 56)) w') := fun hqt => by
    obtain ⟨s, hs2⟩ := Option.isSome_iff_exists.1 (hq.symm.trans hqt)
    have e1 : s = (p, b, l) := by rw [hs, hs2]; rfl
    have := ended_calls (w.alloc (.cells #[.int .i64 p, .int .i64 b, .int .i64 l] 56)) tb (.map (some mb)) most idle abs ((hb1.block _ (Array.getElem?_eq_some_iff.1 h.cells).1).trans h.cells) hr.2.1 hr.2.2 (p, b, l) (by rw [← hs] at hS; exact hS.2) now hn
    rw [← e1, hno s hs2] at this
    rw [e1] at this
    simpa [sesV] using this
  have htl := (Array.getElem?_eq_some_iff.1 h.cells).1
  clear h hs hq hx hno hS
  go_enter Try.func12, Try.ntmps12
  cases q
  · go_wp2_with (first | (at_lookup; refine wpList_lookV rfl _ _ rfl Try.underlying52 (0, 0, 0) (zeroS _) rfl HM.out x rfl HX.out _ _ HV.out HQ.out ?_) | (at_delete; refine wpList_del rfl _ _ rfl Try.underlying52 rfl HM1.out x rfl HX.out ?_; intro w1 hm1 hg1))
    have hg := grown_trans (below_grown hb1 (some mb)) hg1
    exact bodyPost_ret (v := .tuple #[.int .i64 0, .int .i64 41]) (by simp [results, Try.results12, go_sem, *]) rfl ⟨rfl, HT.out.turn hm1 hg (era_ses HT.out.ses x), hg⟩
  · have HE2 := Lib.hid (HE.out rfl)
    clear HE
    go_wp2_with (first | (at_lookup; refine wpList_lookV rfl _ _ rfl Try.underlying52 (0, 0, 0) (zeroS _) rfl HM.out x rfl HX.out _ _ HV.out HQ.out ?_) | (go_at_call 17; refine HE2.out.mono ?_; rintro e w2 ⟨rfl, hb2⟩; obtain ⟨⟨d0, d1, d2, d3⟩, -, -, -, -⟩ := cells4 ((hb2.block _ (by omega)).trans ((hb1.block _ htl).trans HT.out.cells))) | (at_delete; refine wpList_del rfl _ _ rfl Try.underlying52 rfl (HM1.out.below (hb2.block _ (by have := HM.out.lt; omega))) x rfl HX.out ?_; intro w1 hm1 hg1))
    have hg := grown_trans (below_grown (hb1.trans (hb2.mono (by omega))) (some mb)) hg1
    exact bodyPost_ret (v := .tuple #[.int .i64 0, .int .i64 41]) (by simp [results, Try.results12, go_sem, *]) rfl ⟨rfl, HT.out.turn hm1 hg (era_ses HT.out.ses x), hg⟩
set_option maxHeartbeats 2000000 in
/-- A session that is there, and has not ended. -/
theorem use_yes (w : World) {tb mb n : Nat} {most idle abs : Int} {F : Int → Option Ses} (h : TabAt w tb mb n most idle abs F) (x : Int) (hx : (Lit.int .u64 x).wf = true) (now : Int) (hn : I64 now) (hnl : n ≤ 1000000) (p b l : Int) (hs : F x = some (p, b, l)) (hno : endM idle abs (p, b, l) now = false) :
    Calls Try.prog 12 #[.pointer (some ⟨tb, 0, none⟩), .int .u64 x, .int .i64 now] w fun e w' => e = .returned (.tuple #[.int .i64 p, .int .i64 0]) ∧ TabAt w' tb mb (n + 1) most idle abs (upd F x (p, b, now)) ∧ w.grownBy w' (some mb) := by
  obtain ⟨⟨c0, c1, c2, c3⟩, -, -, -, -⟩ := cells4 h.cells
  have hr := h.rng
  have hS := h.ses x _ hs
  have HM := Lib.hid h.map
  have HT := Lib.hid h
  have HV : Hid (erS.val ((F x).getD (0, 0, 0)) = .agg #[.int .i64 p, .int .i64 b, .int .i64 l]) := by show _ = _; rw [hs]; rfl
  have HQ : Hid ((F x).isSome = true) := by show _ = _; rw [hs]; rfl
  have HX : Hid (krU.ok x) := hx
  have HS := Lib.hid hS
  have hb1 := (Below.refl w.heap.size w).alloc (Nat.le_refl _) (.cells #[.int .i64 p, .int .i64 b, .int .i64 l] 56)
  have HE : Hid (Calls Try.prog 17 #[.pointer (some ⟨tb, 0, none⟩), .agg #[.int .i64 p, .int .i64 b, .int .i64 l], .int .i64 now] (w.alloc (.cells #[.int .i64 p, .int .i64 b, .int .i64 l] 56)) fun e w' => e = .returned (.bool false) ∧ Below (w.heap.size + 1) (w.alloc (.cells #[.int .i64 p, .int .i64 b, .int .i64 l] 56)) w') := by
    have := ended_calls (w.alloc (.cells #[.int .i64 p, .int .i64 b, .int .i64 l] 56)) tb (.map (some mb)) most idle abs ((hb1.block _ (Array.getElem?_eq_some_iff.1 h.cells).1).trans h.cells) hr.2.1 hr.2.2 (p, b, l) hS.2 now hn
    rw [hno] at this
    show Calls _ _ _ _ _
    simpa [sesV] using this
  have htl := (Array.getElem?_eq_some_iff.1 h.cells).1
  have hml := h.map.lt
  have hne : tb ≠ w.heap.size := by omega
  have hnm : mb ≠ w.heap.size := by omega
  have hnew := heap_alloc_at w (.cells #[.int .i64 p, .int .i64 b, .int .i64 l] 56)
  have hn2 := Lib.hid hn
  clear h hs hx hno hS hr hn
  go_enter Try.func12, Try.ntmps12
  go_wp2_with (first | (at_lookup; refine wpList_lookV rfl _ _ rfl Try.underlying52 (0, 0, 0) (zeroS _) rfl HM.out x rfl HX.out _ _ HV.out HQ.out ?_) | (go_at_call 17; refine HE.out.mono ?_; rintro e w2 ⟨rfl, hb2⟩; obtain ⟨⟨d0, d1, d2, d3⟩, -, -, -, -⟩ := cells4 ((hb2.block _ (by omega)).trans ((hb1.block _ htl).trans HT.out.cells)); obtain ⟨⟨e0, e1, e2⟩, f0, f1, f2⟩ := cells3 ((hb2.block _ (Nat.lt_succ_self _)).trans hnew)))
  have hg3 : w.grownBy (w2.setCell ⟨w.heap.size, 2, none⟩ (.int .i64 now)) (some mb) := below_grown ((hb1.trans (hb2.mono (by omega))).setCell (Nat.le_refl _) _) _
  have hM3 := Lib.hid (HM.out.below ((Below.heap_setCell w2 ⟨w.heap.size, 2, none⟩ (.int .i64 now) mb hnm).trans ((hb2.block _ (by omega)).trans (hb1.block _ hml))))
  have k3 : (w2.setCell ⟨w.heap.size, 2, none⟩ (.int .i64 now)).heap[w.heap.size]? = some (.cells #[.int .i64 p, .int .i64 b, .int .i64 now] 56) := by
    have := hset ((hb2.block _ (Nat.lt_succ_self _)).trans hnew) 2 (.int .i64 now)
    simpa using this
  have t3 := (Below.heap_setCell w2 ⟨w.heap.size, 2, none⟩ (.int .i64 now) tb hne).trans ((hb2.block _ (by omega)).trans ((hb1.block _ htl).trans HT.out.cells))
  obtain ⟨W3, hW3⟩ : ∃ W3, W3 = w2.setCell ⟨w.heap.size, 2, none⟩ (.int .i64 now) := ⟨_, rfl⟩
  rw [← hW3] at hg3 hM3 k3 t3 ⊢
  have hs3 := hg3.size
  clear hW3 e0 e1 e2 f0 f1 f2 d0 d1 d2 d3
  obtain ⟨⟨d0, d1, d2, d3⟩, -, -, -, -⟩ := cells4 t3
  obtain ⟨⟨e0, e1, e2⟩, -, -, -⟩ := cells3 k3
  obtain ⟨W4, hrun, hm4, hg4⟩ := MapF.put_run (w := W3.drew) (hM3.out.below rfl) Try.underlying52 (by unfold maxLen; omega) HX.out (p, b, now)
  have hrun : (Instr.mapUpdate 52 (.map (some mb)) (.int .u64 x) (.agg #[.int .i64 p, .int .i64 b, .int .i64 now])).run Try.prog W3.drew = .ok () W4 := hrun
  have k4 := (hg4.block _ (Array.getElem?_eq_some_iff.1 k3).1 (fun e => hnm (Option.some.inj e).symm)).trans k3
  obtain ⟨⟨g0, g1, g2⟩, -, -, -⟩ := cells3 k4
  have hg5 : w.grownBy W4 (some mb) := grown_trans (b := W3.drew) ⟨hg3.os, hg3.tape, hg3.output, hg3.size, hg3.block⟩ hg4
  have hT5 := HT.out.turn hm4 hg5 (upd_ses HT.out.ses x (p, b, now) ⟨HS.out.1, HS.out.2.1, hn2.out⟩)
  go_region_law (fail)
  all_goals
    go_wp2
    exact bodyPost_ret (v := .tuple #[.int .i64 p, .int .i64 0]) (by simp [results, Try.results12, go_sem, *]) rfl ⟨rfl, hT5, hg5⟩
end Go.Proofs.Ytddpnldgfdooiaa
