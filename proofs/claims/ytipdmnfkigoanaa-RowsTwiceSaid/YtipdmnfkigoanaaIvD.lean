import Derived.Test.YtipdmnfkigoanaaIvC
import Derived.Shelf.Spec.SlicesGrow
namespace Go.Proofs.Ytipdmnfkigoanaa
open Go.RowKit
attribute [local go_sem] World.cell?_alloc_some frozen_alloc_some

def inSp (s : Sp) (key : Nat) : Bool := decide (s.1 ≤ key) && decide (key ≤ s.2)
set_option maxHeartbeats 1000000 in
theorem has1_calls (w : World) (s : Sp) (key kb : Nat) (hk : w.cell? ⟨kb, 0, none⟩ = some (.int .u32 key)) :
    Calls Try.prog 45 #[.agg #[.int .u32 s.1, .int .u32 s.2], .pointer (some ⟨kb, 0, none⟩)] w fun e w' => e = .returned (.bool (inSp s key)) ∧ Below w.heap.size w w' := by
  have hb := (Below.refl w.heap.size w).alloc (Nat.le_refl _) (.cells #[.int .u32 s.1, .int .u32 s.2] 63)
  by_cases c1 : s.1 ≤ key
  · by_cases c2 : key ≤ s.2
    · have HE : Hid (inSp s key = true) := by show _ = _; unfold inSp; simp [c1, c2]
      go_enter Try.func45, Try.ntmps45
      go_wp2
      go_ret
      exact ⟨ret_bool HE.out.symm, hb⟩
    · have HE : Hid (inSp s key = false) := by show _ = _; unfold inSp; simp [c1, c2]
      go_enter Try.func45, Try.ntmps45
      go_wp2
      go_ret
      exact ⟨ret_bool HE.out.symm, hb⟩
  · have HE : Hid (inSp s key = false) := by show _ = _; unfold inSp; simp [c1]
    go_enter Try.func45, Try.ntmps45
    go_wp2
    go_ret
    exact ⟨ret_bool HE.out.symm, hb⟩

set_option maxRecDepth 100000 in
set_option maxHeartbeats 4000000 in
theorem index_calls (w : World) (v : Value) (l : List Sp) (key kb : Nat) (hr : RdS w v l) (hk : w.cell? ⟨kb, 0, none⟩ = some (.int .u32 key)) :
    Calls Try.prog 57 #[v, .func (.func 45) #[] #[.pointer (some ⟨kb, 0, none⟩)]] w fun e w' => ∃ r : Int, e = .returned (.int .i64 r) ∧ decide (0 ≤ r) = memB key l ∧ Below w.heap.size w w' := by
  obtain ⟨A, cap, rfl, a1, a2, a3, -⟩ := id hr
  unfold maxLen at a2
  have HR := Lib.hid hr
  clear hr
  have hkl := World.block_lt_of_cell? w _ hk
  go_enter Try.func57, Try.ntmps57
  go_wp2
  go_loopw [8] (fun i wr => ∃ k : Nat, k ≤ l.length ∧ i = .int .i64 k ∧ Hid (memB key (l.take k) = false) ∧ Below w.heap.size w wr) (fun i _ => l.length - (intOf i).toNat)
  case atStart => exact ⟨0, by omega, rfl, rfl, Below.refl _ _⟩
  case round =>
    obtain ⟨k, hk', rfl, HM, hb⟩ := hrel
    by_cases hlt : k < l.length
    · obtain ⟨gb, go, rfl, p0, p1, -⟩ := (HR.out.keep hb).get k hlt
      have HT : Hid (l.take (k + 1) = l.take k ++ [l[k]]) := List.take_succ_eq_append_getElem hlt
      have HD := Lib.hid (split_at l k hlt)
      obtain ⟨s, hs⟩ : ∃ s, s = l[k] := ⟨_, rfl⟩
      rw [← hs] at p0 p1 HT HD
      clear hs
      have hkc : wr.cell? ⟨kb, 0, none⟩ = some (.int .u32 key) := (hb.cell hkl).trans hk
      have HKC := Lib.hid hkc
      obtain ⟨q, hq⟩ : ∃ q, q = inSp s key := ⟨_, rfl⟩
      have HQ := Lib.hid hq
      clear hq hkc
      go_wp2_with fail
      refine (has1_calls _ _ _ _ HKC.out).mono ?_
      rw [← HQ.out]
      rintro e w1 ⟨rfl, hb1⟩
      cases q with
      | true =>
        have HE : Hid (memB key l = true) := by
          show _ = _; rw [HD.out]; unfold memB; rw [List.any_append, List.any_cons]
          have := HQ.out; unfold inSp at this; rw [← this]; simp
        have hbb := hb.trans (hb1.mono hb.size)
        go_wp2
        go_ret
        exact ⟨_, rfl, by rw [HE.out]; simp, hbb⟩
      | false =>
        have HM2 : Hid (memB key (l.take (k + 1)) = false) := by
          show _ = _; rw [HT.out]; unfold memB at *; rw [List.any_append, HM.out]
          have := HQ.out; unfold inSp at this; simp [← this]
        go_wp2
        refine ⟨⟨k + 1, hlt, by go_num, HM2, hb.trans (hb1.mono hb.size)⟩, by simp [intOf]; omega⟩
    · have HE : Hid (memB key l = false) := by
        show _ = _; have := HM.out; rwa [List.take_of_length_le (by omega)] at this
      go_wp2
      go_ret
      exact ⟨-1, rfl, by rw [HE.out]; rfl, hb⟩

set_option maxHeartbeats 1000000 in
theorem has_calls (w : World) (v : Value) (l : List Sp) (key : Nat) (hr : RdS w v l) :
    Calls Try.prog 37 #[v, .int .u32 key] w fun e w' => e = .returned (.bool (memB key l)) ∧ Below w.heap.size w w' := by
  have HC := Lib.hid fun (W : World) (kb : Nat) (h1 : RdS W v l) (h2 : W.cell? ⟨kb, 0, none⟩ = some (.int .u32 key)) => index_calls W v l key kb h1 h2
  have hC : ∀ (W : World) (kb : Nat), RdS W v l → W.cell? ⟨kb, 0, none⟩ = some (.int .u32 key) → Calls Try.prog 44 #[v, .func (.func 45) #[] #[.pointer (some ⟨kb, 0, none⟩)]] W fun e w' => e = .returned (.bool (memB key l)) ∧ Below W.heap.size W w' := by
    intro W kb h1 h2
    have H1 := Lib.hid h1
    have H2 := Lib.hid h2
    clear h1 h2
    go_enter Try.func44, Try.ntmps44
    go_wp2_with fail
    refine (HC.out _ _ H1.out H2.out).mono ?_
    rintro e w1 ⟨r, rfl, hr2, hb⟩
    have HR2 := Lib.hid hr2
    clear hr2
    go_wp2
    go_ret
    exact ⟨ret_bool HR2.out, hb⟩
  have HC2 := Lib.hid hC
  have HR := Lib.hid (hr.keep ((Below.refl w.heap.size w).alloc (Nat.le_refl _) (.cells #[.int .u32 key] 34)))
  clear hC hr
  go_enter Try.func37, Try.ntmps37
  go_wp2_with fail
  refine (HC2.out _ _ HR.out (by simp)).mono ?_
  rintro e w1 ⟨rfl, hb⟩
  go_wp2
  go_ret
  exact ⟨rfl, below_lit hb⟩

end Go.Proofs.Ytipdmnfkigoanaa
