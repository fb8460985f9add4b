import Derived.Test.YtddpnldgfdooiaaTkH
import Derived.LoopN
namespace Go.Proofs.Ytddpnldgfdooiaa
open Go.RowKit Go.Maps
attribute [local go_sem] World.cell?_alloc_some frozen_alloc_some

/-! slices.Sorted of the keys of a map of up to 12. -/
theorem ins0_calls (w : World) (v : Value) : Calls Try.prog 31 #[v, .int .i64 0, .int .i64 0] w fun e w' => (∃ v, e = .returned v) ∧ w' = w := by
  go_enter Try.func31, Try.ntmps31
  go_wp2
  refine wp_loop_rounds 1 ?_
  rw [rounds_succ]
  go_wp2
  go_end0
  exact ⟨⟨_, rfl⟩, rfl⟩
theorem pdq_calls (w : World) (v : Value) (n : Nat) (hn : n ≤ 12) (y : Int) {Q : World → Prop} (H : Calls Try.prog 31 #[v, .int .i64 0, .int .i64 n] w fun e w' => (∃ v, e = .returned v) ∧ Q w') :
    Calls Try.prog 29 #[v, .int .i64 0, .int .i64 n, .int .i64 y] w fun e w' => (∃ v, e = .returned v) ∧ Q w' := by
  have HH := Lib.hid H
  clear H
  go_enter Try.func29, Try.ntmps29
  go_wp2
  refine wp_loop_rounds 1 ?_
  rw [rounds_succ]
  go_wp2_with fail
  refine HH.out.mono ?_
  rintro e w1 ⟨⟨v1, rfl⟩, hq⟩
  go_wp2
  exact bodyPost_ret (results_none rfl _ _ _) rfl ⟨⟨_, rfl⟩, hq⟩
theorem sort_calls (w : World) (A : Option Addr) (n cap : Nat) (hn : n ≤ 12) {Q : World → Prop} (H : Calls Try.prog 31 #[.slice A n cap, .int .i64 0, .int .i64 n] w fun e w' => (∃ v, e = .returned v) ∧ Q w') :
    Calls Try.prog 26 #[.slice A n cap] w fun e w' => (∃ v, e = .returned v) ∧ Q w' := by
  have HH := Lib.hid (fun y => pdq_calls w (.slice A n cap) n hn y H)
  have HB := Lib.hid (fun W => blen_calls W n hn)
  clear H
  go_enter Try.func26, Try.ntmps26
  go_wp2_with fail
  refine (HB.out _).mono ?_
  rintro e w1 ⟨y, rfl, rfl⟩
  go_wp2_with fail
  refine (HH.out _).mono ?_
  rintro e w2 ⟨⟨v2, rfl⟩, hq⟩
  go_wp2
  go_end0
  exact ⟨⟨_, rfl⟩, hq⟩
theorem collect_calls (w : World) (bx mb m : Nat) {F : Int → Option Ses} (hm : MapF krU erS w mb m F) (hbox : w.cell? ⟨bx, 0, none⟩ = some (.map (some mb))) (hmm : m ≤ 1000) :
    Calls Try.prog 25 #[.func (.func 27) #[] #[.pointer (some ⟨bx, 0, none⟩)]] w fun e w' =>
      ∃ v xs, e = .returned v ∧ FinK F xs ∧ w'.ownsRow w.heap.size 31 1 v xs.length (xs.map (Value.int .u64)) ∧ Below w.heap.size w w' := by
  have H := Lib.hid (appendSeq_calls w bx mb m hm hbox hmm)
  clear hm
  go_enter Try.func25, Try.ntmps25
  go_wp2_with fail
  refine H.out.mono ?_
  rintro e w1 ⟨v, xs, rfl, h1, h2, h3⟩
  go_wp2
  go_ret
  exact ⟨v, xs, rfl, h1, h2, h3⟩
theorem rowF_of (xs : List Int) : xs.map (Value.int .u64) = rowF xs.length fun k => xs.getD k 0 := by
  apply List.ext_getElem (by simp [rowF])
  intro k k1 k2
  have hk : k < xs.length := by simpa using k1
  simp [rowF, List.getD, hk]
/-- What is behind a sort. -/
def SrtQ (F : Int → Option Ses) (w : World) (v : Value) (n : Nat) (w' : World) : Prop := ∃ ys, FinK F ys ∧ ys.Pairwise (· < ·) ∧ ys.length = n ∧ w'.ownsRow w.heap.size 31 1 v n (ys.map (Value.int .u64)) ∧ Below w.heap.size w w'
theorem srtQ_mix {F : Int → Option Ses} {w w1 w2 : World} {g cap : Nat} {xs : List Int} (h1 : FinK F xs) (h3 : Below w.heap.size w w1) (hgb : w.heap.size ≤ g) {f' : Nat → Int} (hmix : Mix xs.length (fun k => xs.getD k 0) f') (hsort : ∀ a b, a < b → b < xs.length → f' a ≤ f' b)
    (ho : w2.ownsRow w.heap.size 31 1 (.slice (some ⟨g, 0, none⟩) xs.length cap) xs.length (rowF xs.length f')) (hg : w1.grownBy w2 (some g)) : SrtQ F w (.slice (some ⟨g, 0, none⟩) xs.length cap) xs.length w2 := by
  have hd : ∀ a b, a < b → b < xs.length → xs.getD a 0 ≠ xs.getD b 0 := fun a b hab hb => by
    have h5 := List.pairwise_iff_getElem.1 h1.1 a b (by omega) hb hab
    have e1 : xs.getD a 0 = xs[a] := by simp [List.getD, show a < xs.length by omega]
    have e2 : xs.getD b 0 = xs[b] := by simp [List.getD, hb]
    rw [e1, e2]; exact h5
  have hd2 := hmix.2 hd
  refine ⟨(List.range xs.length).map f', ⟨?_, fun x => ?_⟩, ?_, by simp, ?_, ?_⟩
  · rw [List.nodup_iff_pairwise_ne, List.pairwise_iff_getElem]
    intro a b ha hb hab
    simp only [List.getElem_map, List.getElem_range]
    exact hd2 a b hab (by simpa using hb)
  · rw [← h1.2 x, List.mem_map]
    constructor
    · rintro ⟨k, hk, rfl⟩
      obtain ⟨j, hj, e⟩ := (hmix.1 _).1 ⟨k, List.mem_range.1 hk, rfl⟩
      rw [← e]
      simp [List.getD, hj]
    · intro hx
      obtain ⟨j, hj, e⟩ := List.getElem_of_mem hx
      obtain ⟨k, hk, e2⟩ := (hmix.1 x).2 ⟨j, hj, by simp [List.getD, hj, e]⟩
      exact ⟨k, List.mem_range.2 hk, e2⟩
  · rw [List.pairwise_iff_getElem]
    intro a b ha hb hab
    simp only [List.getElem_map, List.getElem_range]
    have hb' : b < xs.length := by simpa using hb
    have h5 := hsort a b hab hb'
    have h6 := hd2 a b hab hb'
    omega
  · rw [List.map_map]
    exact ho
  · exact h3.trans ⟨hg.os, hg.tape, hg.output, hg.size, fun b hb => hg.block b (by have := h3.size; omega) (fun e => by have := Option.some.inj e; omega)⟩
theorem sort_row {F : Int → Option Ses} {w w1 : World} {A : Option Addr} {cap : Nat} {xs : List Int} (h1 : FinK F xs) (h2 : w1.ownsRow w.heap.size 31 1 (.slice A xs.length cap) xs.length (xs.map (Value.int .u64))) (h3 : Below w.heap.size w w1) (hxl : xs.length ≤ 12) :
    Calls Try.prog 26 #[.slice A xs.length cap] w1 fun e w' => (∃ v, e = .returned v) ∧ SrtQ F w (.slice A xs.length cap) xs.length w' := by
  by_cases h0 : xs.length = 0
  · refine sort_calls w1 A xs.length cap hxl (Q := SrtQ F w (.slice A xs.length cap) xs.length) ?_
    have hins := ins0_calls w1 (.slice A xs.length cap)
    rw [show (((xs.length : Nat) : Int)) = 0 by omega]
    refine hins.mono ?_
    rintro e w2 ⟨hv, rfl⟩
    have hnil : xs = [] := List.length_eq_zero_iff.1 h0
    subst hnil
    exact ⟨hv, [], h1, List.Pairwise.nil, rfl, h2, h3⟩
  · obtain ⟨g, rfl⟩ : ∃ g, A = some ⟨g, 0, none⟩ := by
      rcases owns_cases h2 with rfl | h
      · obtain ⟨-, (⟨e, h00⟩ | ⟨g, cap', cur, e, -⟩)⟩ := id h2
        · omega
        · cases e
      · exact h
    refine sort_calls w1 _ xs.length cap hxl (Q := SrtQ F w (.slice (some ⟨g, 0, none⟩) xs.length cap) xs.length) ?_
    have h2' := h2
    rw [rowF_of] at h2'
    refine (ins_calls w1 w.heap.size g xs.length cap _ ⟨by omega, hxl⟩ h2').mono ?_
    rintro e w2 ⟨hv, f', hmix, hsort, ho, hg⟩
    exact ⟨hv, srtQ_mix h1 h3 (h2.lt g rfl).1 hmix hsort ho hg⟩
theorem sorted_calls (w : World) (bx mb m : Nat) {F : Int → Option Ses} (hm : MapF krU erS w mb m F) (hbox : w.cell? ⟨bx, 0, none⟩ = some (.map (some mb))) (hmm : m ≤ 1000) {c : Nat} (hc : Card F c) (hc12 : c ≤ 12) :
    Calls Try.prog 23 #[.func (.func 27) #[] #[.pointer (some ⟨bx, 0, none⟩)]] w fun e w' =>
      ∃ v xs, e = .returned v ∧ FinK F xs ∧ xs.Pairwise (· < ·) ∧ w'.ownsRow w.heap.size 31 1 v xs.length (xs.map (Value.int .u64)) ∧ Below w.heap.size w w' := by
  have H := Lib.hid (collect_calls w bx mb m hm hbox hmm)
  have HC := Lib.hid hc
  clear hm hc
  go_enter Try.func23, Try.ntmps23
  go_wp2_with fail
  refine H.out.mono ?_
  rintro e w1 ⟨v, xs, rfl, h1, h2, h3⟩
  have hxl : xs.length = c := h1.card.uniq HC.out fun _ => rfl
  obtain ⟨A, cap, rfl⟩ := owns_form h2
  have HS := Lib.hid (sort_row h1 h2 h3 (by omega))
  clear h2 h1 h3 hxl H HC
  go_wp2_with fail
  refine HS.out.mono ?_
  rintro e w2 ⟨⟨v2, rfl⟩, ys, k1, k2, k3, k4, k5⟩
  go_wp2
  go_ret
  exact ⟨_, ys, rfl, k1, k2, by rw [k3]; exact k4, k5⟩
end Go.Proofs.Ytddpnldgfdooiaa
