import Derived.Test.YtcdldjiogoapkaaSgM
namespace Go.Proofs.Ytcdldjiogoapkaa
open Go.RowKit

theorem OkN.setN {ns : List Nd} (h : OkN ns) (i : Int) {n : Nd} (hn : 0 ≤ n.l ∧ n.l ≤ ns.length ∧ 0 ≤ n.r ∧ n.r ≤ ns.length) : OkN (setN ns i n) := by
  intro m hm
  rw [setN_len]
  unfold Proofs.Ytcdldjiogoapkaa.setN at hm
  split at hm
  · exact h m hm
  · rcases List.mem_or_eq_of_mem_set hm with e | e
    · exact h m e
    · rw [e]; exact hn
theorem OkN.kill {ns : List Nd} (h : OkN ns) (i : Int) : OkN (killN ns i) := by
  unfold killN
  split
  · exact h
  · exact h.setN i (h.get i)
theorem OkN.push {ns : List Nd} (h : OkN ns) (i : Int) : OkN (pushN ns i).2 := by
  unfold pushN
  split
  · exact ((h.kill _).kill _).setN i (by simpa [killN_len] using h.get i)
  · exact h
theorem pushN_kids (ns : List Nd) (i : Int) : (pushN ns i).1.l = (getN ns i).l ∧ (pushN ns i).1.r = (getN ns i).r := by unfold pushN; split <;> exact ⟨rfl, rfl⟩
theorem OkN.join {ns : List Nd} (h : OkN ns) (i : Int) {n : Nd} (hn : 0 ≤ n.l ∧ n.l ≤ ns.length ∧ 0 ≤ n.r ∧ n.r ≤ ns.length) : OkN (joinN ns i n) := h.setN i hn
theorem joinN_len (ns : List Nd) (i : Int) (n : Nd) : (joinN ns i n).length = ns.length := setN_len _ _ _

theorem foldT_ok (slo shi : Nat) (h : Nat) : ∀ (ns : List Nd) (i : Int) (lo : Nat), OkN ns → OkN (foldT slo shi h ns i lo).2 ∧ (foldT slo shi h ns i lo).2.length = ns.length := by
  induction h with
  | zero => intro ns i lo ok; unfold foldT; split <;> exact ⟨ok, rfl⟩
  | succ h ih =>
    intro ns i lo ok
    unfold foldT
    split
    · exact ⟨ok, rfl⟩
    · split
      · exact ⟨ok, rfl⟩
      · have h1 := ih (pushN ns i).2 (pushN ns i).1.l lo (ok.push i)
        have h2 := ih _ (pushN ns i).1.r (lo + 2 ^ h) h1.1
        exact ⟨h2.1, h2.2.trans (h1.2.trans (pushN_len ns i))⟩
theorem fold_ok (slo shi : Nat) (h : Nat) : ∀ (ns : List Nd) (i : Int) (lo : Nat), OkN ns → 0 ≤ i → i ≤ ns.length → lo + 2 ^ h ≤ 4294967296 → foldOk slo shi h ns i lo := by
  induction h with
  | zero => intro ns i lo ok i0 i1 hl; exact ⟨i0, i1, hl⟩
  | succ h ih =>
    intro ns i lo ok i0 i1 hl
    refine ⟨i0, i1, ok, hl, fun _ => ?_⟩
    have hp := ok.push i
    have hk := pushN_kids ns i
    have hg := ok.get i
    have hlen := pushN_len ns i
    have h1 := foldT_ok slo shi h (pushN ns i).2 (pushN ns i).1.l lo hp
    rw [Nat.pow_succ] at hl
    refine ⟨ih _ _ _ hp ?_ ?_ (by omega), ih _ _ _ h1.1 ?_ ?_ (by omega)⟩
    · rw [hk.1]; exact hg.1
    · rw [hk.1, hlen]; exact hg.2.1
    · rw [hk.2]; exact hg.2.2.1
    · rw [hk.2, h1.2, hlen]; exact hg.2.2.2

theorem out_in0 {lo slo shi : Nat} (h : ¬ outB lo 0 slo shi = true) : inB lo 0 slo shi = true := by
  unfold outB at h; unfold inB
  simp at h ⊢; omega

theorem fold_calls (slo shi : Nat) {lim : Int} (h : Nat) : h ≤ 32 → ∀ (w : World) {pt : Nat} (i : Int) (lo : Nat) {c : Nat} {χ : Col} {ns : List Nd} {root : Int}, TrAt c χ w pt ns root lim → foldOk slo shi h ns i lo →
    Calls Try.prog 36 #[.pointer (some ⟨pt, 0, none⟩), .int .i32 i, blk lo h, spn slo shi] w fun e w' =>
      e = .returned (foldT slo shi h ns i lo).1.val ∧ TrTo c χ w w' pt (foldT slo shi h ns i lo).2 root lim := by
  induction h with
  | zero =>
    intro hh w pt i lo c χ ns root hT hok
    obtain ⟨i0, i1, hl⟩ := hok
    unfold foldT
    by_cases hi : i = 0
    · subst hi; rw [if_pos (Or.inl rfl)]; exact fold_none w pt lo 0 slo shi hT
    · by_cases ho : outB lo 0 slo shi = true
      · rw [if_pos (Or.inr ho)]; exact fold_out w pt lo 0 slo shi i hT (by omega) hh hl (Lib.hid ho)
      · rw [if_neg (by simp [hi, ho])]
        exact fold_in w pt lo 0 slo shi i hT (by omega) i1 hh hl (Lib.hid (by simpa using ho)) (Lib.hid (out_in0 ho))
  | succ h ih =>
    intro hh w pt i lo c χ ns root hT hok
    obtain ⟨i0, i1, ok, hl, hr⟩ := hok
    unfold foldT
    by_cases hi : i = 0
    · subst hi; rw [if_pos (Or.inl rfl)]; exact fold_none w pt lo (h + 1) slo shi hT
    · by_cases ho : outB lo (h + 1) slo shi = true
      · rw [if_pos (Or.inr ho)]; exact fold_out w pt lo (h + 1) slo shi i hT (by omega) hh hl (Lib.hid ho)
      · rw [if_neg (by simp [hi, ho])]
        by_cases hin : inB lo (h + 1) slo shi = true
        · rw [if_pos hin]; exact fold_in w pt lo (h + 1) slo shi i hT (by omega) i1 hh hl (Lib.hid (by simpa using ho)) (Lib.hid hin)
        · rw [if_neg hin]
          obtain ⟨okA, okB⟩ := hr hi
          exact foldS slo shi h (by omega) (ih (by omega)) w pt i lo hT (by omega) i1 ok hl (Lib.hid (by simpa using ho)) (Lib.hid (by simpa using hin)) (Lib.hid rfl) (Lib.hid rfl) (Lib.hid rfl) (Lib.hid rfl) okA okB
end Go.Proofs.Ytcdldjiogoapkaa
