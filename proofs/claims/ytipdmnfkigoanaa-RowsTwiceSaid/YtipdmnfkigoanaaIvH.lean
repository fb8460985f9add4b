import Derived.Test.YtipdmnfkigoanaaIvG
namespace Go.Proofs.Ytipdmnfkigoanaa
open Go.RowKit
attribute [local go_sem] World.cell?_alloc_some frozen_alloc_some

theorem growL_wf {o : List Sp} {f t : Nat} (h : WfS o) (hf : f < 4294967296) (ht : t ≤ 4294967296) (h0 : 0 < t) : WfS (growL o f t) := by
  rcases List.eq_nil_or_concat o with rfl | ⟨o, l, rfl⟩
  · rw [growL_nil]; intro s hs; simp at hs; subst hs; exact ⟨hf, by show t - 1 < _; omega⟩
  · rw [List.concat_eq_append] at *
    rw [growL_snoc]
    split
    · intro s hs
      rcases List.mem_append.1 hs with e | e
      · exact h s (List.mem_append_left _ e)
      · simp at e; subst e; exact ⟨(h l (by simp)).1, by show t - 1 < _; omega⟩
    · intro s hs
      rcases List.mem_append.1 hs with e | e
      · exact h s e
      · simp at e; subst e; exact ⟨hf, by show t - 1 < _; omega⟩

set_option maxRecDepth 100000 in
set_option maxHeartbeats 4000000 in
theorem grow_calls (w : World) (v : Value) (o : List Sp) (f t base : Nat) (V : w.ownsRow base 63 2 v o.length (o.flatMap spc)) (hw : WfS o) (hbase : base ≤ w.heap.size) (hl : o.length ≤ 100000) (hf : f < t) (ht : t ≤ 4294967296) :
    Calls Try.prog 40 #[v, .int .i64 f, .int .i64 t] w fun e w' => ∃ v', e = .returned v' ∧ w'.ownsRow base 63 2 v' (growL o f t).length ((growL o f t).flatMap spc) ∧ Below base w w' := by
  have k1 : ((t : Int) - 1) = ((t - 1 : Nat) : Int) := by omega
  have K1 := Lib.hid k1
  clear k1
  have HV := Lib.hid V
  obtain ⟨A6, cap6, rfl⟩ := owns_form V
  obtain ⟨i0, hi, hz0, hz1, hz2⟩ := info_parts infoSp
  rcases List.eq_nil_or_concat o with rfl | ⟨o, l, rfl⟩
  · rw [growL_nil]
    simp only [List.length_nil] at V
    go_enter Try.func40, Try.ntmps40
    go_wp2_with (at_builtin; refine push_sp rfl _ _ rfl base [] _ rfl V (by simp) hbase f (t - 1) _ _ _ rfl rfl rfl K1.out ?_; intro v' w6 V6 hb6 ho6)
    go_ret
    exact ⟨_, rfl, V6, hb6⟩
  · rw [List.concat_eq_append] at *
    rw [growL_snoc]
    obtain ⟨g, rfl⟩ : ∃ g, A6 = some ⟨g, 0, none⟩ := by
      obtain ⟨_, (⟨e, h0⟩ | ⟨g, cap, cur, e, _⟩)⟩ := id V
      · simp at h0
      · cases e; exact ⟨g, rfl⟩
    obtain ⟨⟨c0, c1⟩, cf⟩ := own_last V
    obtain ⟨t0, t1⟩ := hw l (by simp)
    have HR := Lib.hid (RdS.own V hw (by omega))
    have hln : o.length + 1 ≤ 100000 := by simpa using hl
    have hcap : o.length + 1 ≤ cap6 ∧ cap6 ≤ 9223372036854775807 := by
      obtain ⟨_, _, e, g1, g2, _⟩ := id HR.out
      cases e; unfold maxLen at g2; simp only [List.length_append, List.length_cons, List.length_nil] at g1; omega
    by_cases hk : l.2 + 1 = f
    · rw [if_pos hk]
      have hkb : (((l.2 : Int) + 1) == (f : Int)) = true := by simp; omega
      have HTK := Lib.hid ((HR.out.takeL o.length (by simp)))
      have hto : (o ++ [l]).take o.length = o := by simp
      have HTO := Lib.hid hto
      have HTK2 : Hid (RdS w (.slice (some ⟨g, 0, none⟩) o.length cap6) o) := by
        have := HTK.out; rw [HTO.out] at this; exact this
      have HK := Lib.hid hk
      have k2 : ((o.length : Int) + 1 - 1) = o.length := by omega
      clear hk hto
      go_enter Try.func40, Try.ntmps40
      have hb0 := (Below.refl w.heap.size w).alloc (Nat.le_refl _) (.cells #[.int .u32 l.1, .int .u32 ((t : Int) - 1)] 63)
      have o9 := World.ownsRow_made (base := base) (e := 63) (size := 2) (w.alloc (.cells #[.int .u32 l.1, .int .u32 ((t : Int) - 1)] 63)) #[] 0 (by simp; omega) (Nat.zero_le _) rfl
      simp only [World.size_alloc] at o9
      have HTK3 := Lib.hid (HTK2.out.keep (hb0.alloc (by simp) (.cells #[] 63)))
      have G0 : True := trivial
      go_wp2_with (at_builtin; first
        | (have hS := V1; go_loud (refine push_sp rfl _ _ rfl base o _ rfl V1 (by omega) hz1' l.1 (t - 1) _ _ _ rfl rfl rfl K1.out ?_); intro v' w6 V6 hb6 ho6)
        | (clear G0
           go_loud (refine wpList_append_L 64 63 i0 _ Try.underlying64 hi hz0 hz1 hz2 rfl (by omega) (by omega) spc rSpan_enc rSpan_one rfl _ _ rfl base (.slice (some ⟨w.heap.size + 1, 0, none⟩) 0 0) _ _ rfl o9 _ o rfl HTK3.out (by omega) (by simp; omega) ?_)
           intro v1 w1 hown1 hgrow1 hat1
           rw [Nat.zero_add, List.nil_append] at hown1
           have V1 := hown1
           have hz1' : base ≤ w1.heap.size := by have := hgrow1.size; simp at this; omega
           have hb1 := (hb0.mono hbase).trans (((Below.refl base _).alloc (by simp; omega) (.cells #[] 63)).trans (own_grown o9 hgrow1 (N := base) (Nat.le_refl _) (by simp; omega)))
           obtain ⟨⟨c2, c3⟩, -⟩ := cells2 (((hgrow1.block w.heap.size (by simp <;> omega) (by simp [Value.ownBlock])).trans (Below.heap_alloc _ _ _ (by simp))).trans (heap_alloc_at w (.cells #[.int .u32 l.1, .int .u32 ((t : Int) - 1)] 63)))
           clear hgrow1 hown1))
      go_ret
      exact ⟨_, rfl, V6, hb1.trans hb6⟩
    · rw [if_neg hk]
      have hkb : (((l.2 : Int) + 1) == (f : Int)) = false := by simp; omega
      clear hk
      go_enter Try.func40, Try.ntmps40
      go_wp2_with (at_builtin; refine push_sp rfl _ _ rfl base (o ++ [l]) _ rfl V (by omega) hbase f (t - 1) _ _ _ rfl rfl rfl K1.out ?_; intro v' w6 V6 hb6 ho6)
      go_ret
      exact ⟨_, rfl, V6, hb6⟩
end Go.Proofs.Ytipdmnfkigoanaa
