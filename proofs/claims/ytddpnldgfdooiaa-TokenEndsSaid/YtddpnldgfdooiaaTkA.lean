import Derived.Test.YtddpnldgfdooiaaMpA
import Derived.Test.YtddpnldgfdooiaaCel
namespace Go.Proofs.Ytddpnldgfdooiaa
open Go.RowKit Go.Maps
attribute [local go_sem] World.cell?_alloc_some

/-! Sessions. -/
abbrev Ses := Int × Int × Int
def sesV (s : Ses) : Value := .agg #[.int .i64 s.1, .int .i64 s.2.1, .int .i64 s.2.2]
noncomputable def erS : Er Ses := Er.of sesV fun s t h => by
  obtain ⟨a, b, c⟩ := s
  obtain ⟨a', b', c'⟩ := t
  simp only [sesV] at h
  cases h; rfl
def krU : Kr Int 31 := krInt .u64 _ Try.underlying31
def I64 (x : Int) : Prop := -9223372036854775808 ≤ x ∧ x ≤ 9223372036854775807
def goneM (a b s : Int) : Bool := decide (s ≤ b - a)
theorem gone_calls (w : World) (a b s : Int) (ha : I64 a) (hb : I64 b) (hs : 1 ≤ s ∧ s ≤ 9223372036854775807) :
    Calls Try.prog 21 #[.int .i64 a, .int .i64 b, .int .i64 s] w fun e w' => e = .returned (.bool (goneM a b s)) ∧ w' = w := by
  unfold I64 at ha hb
  obtain ⟨q, hq⟩ : ∃ q, q = goneM a b s := ⟨_, rfl⟩
  unfold goneM at hq
  rw [show goneM a b s = q by rw [hq]; rfl]
  go_enter Try.func21, Try.ntmps21
  by_cases h1 : b - a < -9223372036854775808
  · have hw : wrap64 (b - a) = b - a + 18446744073709551616 := by unfold wrap64; omega
    have hq' : q = false := by rw [hq]; simp; omega
    subst hq'
    clear hq
    have g : decide (a < b) = false := by simp; omega
    have g1 : decide (b < a) = true := by simp; omega
    have g2 : decide (b - a + 18446744073709551616 < 0) = false := by simp; omega
    go_wp2
    go_ret
    exact ⟨rfl, rfl⟩
  by_cases h2 : 9223372036854775807 < b - a
  · have hw : wrap64 (b - a) = b - a - 18446744073709551616 := by unfold wrap64; omega
    have hq' : q = true := by rw [hq]; simp; omega
    subst hq'
    clear hq
    have g : decide (a < b) = true := by simp; omega
    have g1 : decide (b < a) = false := by simp; omega
    have g2 : decide (b - a - 18446744073709551616 < 0) = true := by simp; omega
    go_wp2
    go_ret
    exact ⟨rfl, rfl⟩
  · have hw : wrap64 (b - a) = b - a := by unfold wrap64; omega
    by_cases h3 : b < a
    · have hq' : q = false := by rw [hq]; simp; omega
      subst hq'
      clear hq
      have g1 : decide (b < a) = true := by simp; omega
      have g2 : decide (b - a < 0) = true := by simp; omega
      have g : decide (s ≤ b - a) = false := by simp; omega
      go_wp2
      go_ret
      exact ⟨rfl, rfl⟩
    · have g1 : decide (b < a) = false := by simp; omega
      have g2 : decide (b - a < 0) = false := by simp; omega
      have g : decide (s ≤ b - a) = q := by rw [hq]
      clear hq
      go_wp2
      go_ret
      exact ⟨rfl, rfl⟩
end Go.Proofs.Ytddpnldgfdooiaa
