import Derived.Test.YtddpnldgfdooiaaTkA
namespace Go.Proofs.Ytddpnldgfdooiaa
open Go.RowKit Go.Maps
attribute [local go_sem] World.cell?_alloc_some frozen_alloc_some

/-! A table of sessions. -/
structure TabAt (w : World) (tb mb n : Nat) (most idle abs : Int) (F : Int → Option Ses) : Prop where
  cells : w.heap[tb]? = some (.cells #[.map (some mb), .int .i64 most, .int .i64 idle, .int .i64 abs] 54)
  map : MapF krU erS w mb n F
  rng : (1 ≤ most ∧ most ≤ 64) ∧ (1 ≤ idle ∧ idle ≤ 9223372036854775807) ∧ (1 ≤ abs ∧ abs ≤ 9223372036854775807)
  ses : ∀ x s, F x = some s → I64 s.1 ∧ I64 s.2.1 ∧ I64 s.2.2
def endM (idle abs : Int) (s : Ses) (now : Int) : Bool := goneM s.2.2 now idle || goneM s.2.1 now abs
theorem TabAt.below {w w' : World} {tb mb n : Nat} {most idle abs : Int} {F : Int → Option Ses} (h : TabAt w tb mb n most idle abs F) (hb : Below w.heap.size w w') : TabAt w' tb mb n most idle abs F :=
  ⟨(hb.block _ (Array.getElem?_eq_some_iff.1 h.cells).1).trans h.cells, h.map.below (hb.block _ h.map.lt), h.rng, h.ses⟩
theorem TabAt.mono {w : World} {tb mb n n' : Nat} {most idle abs : Int} {F : Int → Option Ses} (h : TabAt w tb mb n most idle abs F) (hn : n ≤ n') : TabAt w tb mb n' most idle abs F := ⟨h.cells, h.map.mono hn, h.rng, h.ses⟩
theorem TabAt.ne {w : World} {tb mb n : Nat} {most idle abs : Int} {F : Int → Option Ses} (h : TabAt w tb mb n most idle abs F) : tb ≠ mb := by
  intro e
  obtain ⟨D, ⟨es, clock, h1, -⟩, -⟩ := h.map
  rw [← e, h.cells] at h1; cases h1
set_option maxHeartbeats 1000000 in
theorem ended_calls (w : World) (tb : Nat) (m : Value) (most idle abs : Int) (hc : w.heap[tb]? = some (.cells #[m, .int .i64 most, .int .i64 idle, .int .i64 abs] 54)) (hi : 1 ≤ idle ∧ idle ≤ 9223372036854775807) (ha : 1 ≤ abs ∧ abs ≤ 9223372036854775807) (s : Ses) (hs : I64 s.2.1 ∧ I64 s.2.2) (now : Int) (hn : I64 now) :
    Calls Try.prog 17 #[.pointer (some ⟨tb, 0, none⟩), sesV s, .int .i64 now] w fun e w' => e = .returned (.bool (endM idle abs s now)) ∧ Below w.heap.size w w' := by
  obtain ⟨p, b, l⟩ := s
  simp only [sesV, endM] at *
  have HG1 := fun W => gone_calls W l now idle hs.2 hn hi
  have HG2 := fun W => gone_calls W b now abs hs.1 hn ha
  obtain ⟨q1, hq1⟩ : ∃ q, q = goneM l now idle := ⟨_, rfl⟩
  obtain ⟨q2, hq2⟩ : ∃ q, q = goneM b now abs := ⟨_, rfl⟩
  rw [← hq1] at HG1 ⊢
  rw [← hq2] at HG2 ⊢
  have HG1 := Lib.hid HG1
  have HG2 := Lib.hid HG2
  obtain ⟨⟨c0, c1, c2, c3⟩, -, -, -, -⟩ := cells4 hc
  have hb : Below w.heap.size w (w.alloc (.cells #[.int .i64 p, .int .i64 b, .int .i64 l] 56)) := (Below.refl _ _).alloc (Nat.le_refl _) _
  clear hq1 hq2 hs hn hi ha hc
  go_enter Try.func17, Try.ntmps17
  cases q1
  · go_wp2
    go_quiet (first | (go_at_call 21; with_reducible exact Calls.quiet_of_same (HG1.out _)) | (go_at_call 21; with_reducible exact Calls.quiet_of_same (HG2.out _)))
    go_wp2
    go_ret
    exact ⟨rfl, hb.trans (below_drewN _ _ _)⟩
  · go_wp2
    go_quiet (first | (go_at_call 21; exact Calls.quiet_of_same (HG1.out _)))
    go_wp2
    go_ret
    exact ⟨rfl, hb.trans (below_drewN _ _ _)⟩
end Go.Proofs.Ytddpnldgfdooiaa
