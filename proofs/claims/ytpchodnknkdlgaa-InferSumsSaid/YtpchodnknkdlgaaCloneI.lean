import Derived.Test.YtpchodnknkdlgaaBase
namespace Go.Proofs.Ytpchodnknkdlgaa
open Go.RowKit
theorem infoI : (Try.prog.info? 3).map (fun i => (i.zero, i.size, i.bytes)) = some (some (.int .i64 0), 1, 8) := by kernel_rfl

theorem isI_owns {c base e : Nat} {χ : Col} {w : World} {v : Value} {xs : List Int}
    (h : w.ownsRow base e 1 v xs.length (xs.map (Value.int .i64))) (hl : xs.length ≤ 9223372036854775807) (hc : ∀ b, v.ownBlock = some b → χ b = c) : IsI c χ w v xs :=
  IsL.of_owns (by omega) h hl hc fun i hi => by
    show _ = _
    rw [show i * 1 = i by omega, ← List.map_drop, ← List.map_take, List.drop_eq_getElem_cons hi]; rfl

theorem cellsI {c : Nat} {χ : Col} {w : World} {b o n cap : Nat} {xs : List Int} (h : IsI c χ w (.slice (some ⟨b, o, none⟩) n cap) xs) :
    (xs.map (Value.int .i64)).length = n * 1 ∧ (∀ j u, (xs.map (Value.int .i64))[j]? = some u → w.cell? ((⟨b, o, none⟩ : Addr).add j) = some u) ∧ ∀ u ∈ xs.map (Value.int .i64), u.oneCell' = true := by
  obtain ⟨A, cap', e, h1, h2, h3, h4⟩ := id h
  have hn : n = xs.length := by cases e; rfl
  refine ⟨by simp [hn], fun j u hj => ?_, fun u hu => ?_⟩
  · simp only [List.getElem?_map, Option.map_eq_some_iff] at hj
    obtain ⟨x, hx, rfl⟩ := hj
    obtain ⟨hlt, rfl⟩ := List.getElem?_eq_some_iff.1 hx
    obtain ⟨b', o', e, hc⟩ := h.getI j hlt
    cases e
    have : (⟨b, o, none⟩ : Addr).add j = ⟨b, o + j, none⟩ := by simp only [Addr.add]; split <;> simp_all
    rw [this]; exact hc
  · obtain ⟨x, _, rfl⟩ := List.mem_map.1 hu; rfl

set_option maxHeartbeats 1000000 in
theorem cloneI_calls (w : World) (v : Value) (xs : List Int) {c : Nat} {χ : Col} (h : IsI c χ w v xs) (hl : xs.length ≤ 1000000) :
    Calls Try.prog 37 #[v] w fun e w' => ∃ A' cap', e = .returned (.slice A' xs.length cap') ∧ w'.ownsRow w.heap.size 3 1 (.slice A' xs.length cap') xs.length (xs.map (Value.int .i64)) ∧ Below w.heap.size w w' := by
  obtain ⟨A, cap, rfl, h1, h2, h3, h4⟩ := id h
  have hq : ∀ (w : World) (a : Option Addr) (n c n' c' : Nat), (binOp .eql 24 (.slice a n c) (.slice none n' c')).run Try.prog w = .ok (.bool a.isNone) w := fun w a n c n' c' => Lib.run_eql_slice_nil w _ _ a n c n' c' Try.underlying24
  obtain ⟨i0, hi, hz0, hz1, hz2⟩ := info_parts infoI
  cases A with
  | none =>
    have hx : xs = [] := by
      cases xs with
      | nil => rfl
      | cons x xs => obtain ⟨b, o, cs, e, _⟩ := h4 0 (by simp); cases e
    subst hx
    go_enter Try.func37, Try.ntmps37
    go_wp2
    go_ret
    exact ⟨_, _, rfl, World.ownsRow_nil _ _ _ _, Below.refl _ _⟩
  | some a =>
    by_cases hx : xs = []
    · subst hx
      have HA : Aside (IsI c χ w (.slice (some a) 0 cap) []) := h
      clear h h4
      go_enter Try.func37, Try.ntmps37
      go_wp2_with (at_builtin; refine wpList_append_own _ rfl _ _ 24 rfl w.heap.size 3 i0 (.int .i64 0) 1 8 Try.underlying24 hi hz0 hz1 hz2 rfl (by decide) _ _ _ rfl (World.ownsRow_made w #[] 0 (Nat.le_refl _) (Nat.zero_le _) rfl) a 0 cap [] rfl rfl (by simp) (by simp) (by simp) (by simp) (by simp) ?_)
      intro v' w1 hown hgrow hnil
      obtain ⟨A', cap', rfl⟩ := owns_form hown
      go_wp2
      go_ret
      exact ⟨_, _, rfl, hown, ((Below.refl _ w).alloc (Nat.le_refl _) _).grown hgrow (by simp) (fun k e => by cases e; simp)⟩
    · obtain ⟨b, o, e, -⟩ := h.getI 0 (List.length_pos_iff.2 hx)
      cases e
      have HC := cellsI h
      have HA : Aside ((∀ j u, (xs.map (Value.int .i64))[j]? = some u → w.cell? ((⟨b, o, none⟩ : Addr).add j) = some u) ∧ ∀ u ∈ xs.map (Value.int .i64), u.oneCell' = true) := HC.2
      clear h h4 HC hx
      go_enter Try.func37, Try.ntmps37
      go_wp2_with (at_builtin; refine wpList_append_own _ rfl _ _ 24 rfl w.heap.size 3 i0 (.int .i64 0) 1 8 Try.underlying24 hi hz0 hz1 hz2 rfl (by decide) _ _ _ rfl (World.ownsRow_made w #[] 0 (Nat.le_refl _) (Nat.zero_le _) rfl) ⟨b, o, none⟩ xs.length cap (xs.map (Value.int .i64)) rfl (by simp) ?qc2 HA.out.2 ?qc4 ?qc5 (by simp) ?_)
      case qc2 => exact fun j u hj => Lib.cell?_alloc_some _ (HA.out.1 j u hj)
      case qc4 => unfold maxLen; omega
      case qc5 => omega
      intro v' w1 hown hgrow hnil
      obtain ⟨A', cap', rfl⟩ := owns_form hown
      go_wp2
      go_ret
      exact ⟨_, _, rfl, hown, ((Below.refl _ w).alloc (Nat.le_refl _) _).grown hgrow (by simp) (fun k e => by cases e; simp)⟩
end Go.Proofs.Ytpchodnknkdlgaa
