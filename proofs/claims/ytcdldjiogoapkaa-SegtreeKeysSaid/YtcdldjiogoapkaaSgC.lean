import Derived.Test.YtcdldjiogoapkaaSgB
import Derived.Maps.AppendAt
import Derived.RangeFuncBox
import Derived.Deep.AppendLies
import Derived.Deep.QuietTactic
import Derived.BigQuiet
namespace Go.Proofs.Ytcdldjiogoapkaa
open Go.RowKit
attribute [local go_sem] World.cell?_alloc_some frozen_alloc_some

theorem infoNd : (Try.prog.info? 95).map (fun i => (i.zero, i.size, i.bytes)) = some (some Nd.zero.val, 7, 48) := by kernel_rfl

theorem len_calls (w : World) (qa : Nat) {c : Nat} {χ : Col} {ns : List Nd} {lim : Int} (h : ArAt c χ w qa ns lim) :
    Calls Try.prog 37 #[.pointer (some ⟨qa, 0, none⟩)] w fun e w' => e = .returned (.int .i64 ns.length) ∧ w' = w := by
  obtain ⟨rv, h0, h1, h2, h3, h4, h5, h6, h7, h8⟩ := h
  obtain ⟨A, cap, rfl⟩ := owns_form h5
  go_enter Try.func37, Try.ntmps37
  go_wp2
  go_ret
  exact ⟨rfl, rfl⟩

theorem room_calls (w : World) (qa : Nat) {c : Nat} {χ : Col} {ns : List Nd} {lim : Int} (h : ArAt c χ w qa ns lim) (hl : 0 ≤ lim) :
    Calls Try.prog 31 #[.pointer (some ⟨qa, 0, none⟩)] w fun e w' => e = .returned (.int .i64 (lim - ns.length)) ∧ ∃ d, w' = w.drewN d := by
  obtain ⟨rv, h0, h1, h2, h3, h4, h5, h6, h7, h8⟩ := h
  obtain ⟨A, cap, rfl⟩ := owns_form h5
  go_enter Try.func31, Try.ntmps31
  go_wp2
  go_quiet (fail)
  go_wp2
  go_ret
  exact ⟨rfl, (by first | exact ⟨_, rfl⟩ | exact drewN_ex _ _ _ | exact drew_ex _ _)⟩

theorem alloc_close {w w1 w5 : World} {qa g' cap cap' c : Nat} {A : Option Addr} {χ : Col} {ns : List Nd} {lim : Int} {o : Obj} (hbq : Below w.heap.size w w1) (h0 : χ qa = c)
    (h1 : w1.cell? ⟨qa, 0, none⟩ = some (.slice A ns.length cap)) (h2 : w1.frozen? ⟨qa, 0, none⟩ = false) (h3 : w1.cell? ⟨qa, 1, none⟩ = some (.int .i64 lim)) (h4 : w1.frozen? ⟨qa, 1, none⟩ = false)
    (h5 : w1.ownsRow 0 95 7 (.slice A ns.length cap) ns.length (ns.flatMap Nd.cells)) (h6 : ∀ b, (Value.slice A ns.length cap).ownBlock = some b → χ b = c + 1)
    (h7 : ns.length + 1 ≤ 4194304) (h8 : lim ≤ 4194304) (_hqw : qa < w.heap.size)
    (hown : w5.ownsRow 0 95 7 (.slice (some ⟨g', 0, none⟩) (ns.length + 1) cap') (ns.length + 1) (ns.flatMap Nd.cells ++ Nd.zero.cells))
    (hgr : (w1.alloc o).grownBy w5 (Value.slice A ns.length cap).ownBlock) (hat : (Value.slice (some ⟨g', 0, none⟩) (ns.length + 1) cap').ownBlock = (Value.slice A ns.length cap).ownBlock ∨ (Value.slice (some ⟨g', 0, none⟩) (ns.length + 1) cap').ownBlock = some (w1.alloc o).heap.size) :
    ArTo c χ w (w5.setCell ⟨qa, 0, none⟩ (.slice (some ⟨g', 0, none⟩) (ns.length + 1) cap')) qa (ns ++ [Nd.zero]) lim := by
  obtain ⟨q1, q2⟩ := own_push (v' := .slice (some ⟨g', 0, none⟩) (ns.length + 1) cap') h5 h6 hgr hat
  have hx : ∀ b, b < w1.heap.size → paint χ w1.heap.size (c + 1) b = χ b := fun b hb => paint_low hb
  have hq1 : qa < w1.heap.size := World.block_lt_of_cell? w1 _ h1
  have hB : w5.heap[qa]? = w1.heap[qa]? := q2.blk qa hq1 (by omega)
  have hgc := q1 g' rfl
  have hgq : g' ≠ qa := fun e => by rw [e, hx qa hq1, h0] at hgc; omega
  have k1 := (World.cell?_of_block (a := ⟨qa, 0, none⟩) hB).trans h1
  have k3 := (World.cell?_of_block (a := ⟨qa, 1, none⟩) hB).trans h3
  have e5 : (ns ++ [Nd.zero]).length = ns.length + 1 := by simp
  refine ⟨paint χ w1.heap.size (c + 1), fun b hb => hx b (Nat.lt_of_lt_of_le hb hbq.size), ⟨.slice (some ⟨g', 0, none⟩) (ns.length + 1) cap', (hx qa hq1).trans h0, World.cell?_setCell_same _ _ _ k1, ?_, ?_, ?_, ?_, q1, ?_, h8⟩, ?_⟩
  · rw [World.frozen?_setCell]; exact (World.frozen?_of_block (a := ⟨qa, 0, none⟩) hB).trans h2
  · rw [World.cell?_setCell_other _ _ _ _ (by simp)]; exact k3
  · rw [World.frozen?_setCell]; exact (World.frozen?_of_block (a := ⟨qa, 1, none⟩) hB).trans h4
  · rw [e5]
    refine owns_same (w := w5) ?_ fun b e => Below.heap_setCell _ _ _ _ (by cases e; exact hgq)
    rw [List.flatMap_append]
    simpa using hown
  · rw [e5]; exact h7
  · exact ((Chg.of_below hbq).trans (χ' := χ) (fun _ _ => rfl) ⟨q2.os, q2.tape, q2.output, q2.size, fun b hb hc => q2.blk b hb (fun e => hc (.inr e))⟩).step (.setCell _ _ _ (.inl h0))

set_option maxRecDepth 10000 in
theorem alloc_calls (w : World) (qa : Nat) {c : Nat} {χ : Col} {ns : List Nd} {lim : Int} (h : ArAt c χ w qa ns lim) (hl : ns.length < lim) :
    Calls Try.prog 45 #[.pointer (some ⟨qa, 0, none⟩)] w fun e w' =>
      (∃ u, e = .returned (.tuple #[.int .i32 (ns.length + 1), u])) ∧ ArTo c χ w w' qa (ns ++ [Nd.zero]) lim := by
  obtain ⟨i0, hi, hz0, hz1, hz2⟩ := info_parts infoNd
  have hlim : lim ≤ 4194304 := by obtain ⟨_, _, _, _, _, _, _, _, _, h8⟩ := h; exact h8
  have hqw : qa < w.heap.size := by obtain ⟨_, _, h1, _⟩ := h; exact World.block_lt_of_cell? w _ h1
  go_enter Try.func45, Try.ntmps45
  go_wp2_with fail
  refine (room_calls _ _ h (by omega)).mono ?_
  rintro e w1 ⟨rfl, hq⟩
  have hbq := quiet_below hq
  clear hq
  have hk := h.keep (Same.below' hbq)
  clear h
  have hne : ((lim - (ns.length : Int)) == 0) = false := by simp; omega
  have hw1 : wrap32 ((ns.length : Int) + 1) = (ns.length : Int) + 1 := by unfold wrap32; omega
  obtain ⟨rv, h0, h1, h2, h3, h4, h5, h6, h7, h8⟩ := hk
  obtain ⟨A, cap, rfl⟩ := owns_form h5
  have hne2 : ∀ b, (Value.slice A ns.length cap).ownBlock = some b → b ≠ qa := fun b e he => by have := h6 b e; rw [he, h0] at this; omega
  have HN := Lib.hid hne2
  have H6 := Lib.hid h6
  clear hne2 h6
  go_wp2_with (at_builtin; refine wpList_append_own_at _ rfl _ _ 90 rfl 0 95 i0 _ 7 48 Try.underlying90 hi hz0 hz1 hz2 rfl (by decide) _ _ _ rfl (h5.alloc _) ⟨w1.heap.size, 0, none⟩ 1 1 [.int .i32 0, .int .i32 0, .int .i64 0, .int .i64 0, .int .i64 0, .int .i64 0, .bool false] rfl rfl (World.news_of_block (heap_alloc_new w1 _)) (by simp [Value.oneCell']) (by unfold maxLen; omega) (by omega) (Nat.zero_le _) ?_; intro v' w5 hown' hgrow _ hat; obtain ⟨g', cap', rfl⟩ := ownsRow_succ hown'; obtain ⟨hc1, hf1⟩ := keep_grown (a := ⟨qa, 0, none⟩) hgrow (fun e => (HN.out qa e.symm) rfl) (keep_alloc (a := ⟨qa, 0, none⟩) _ h1 h2).1 (keep_alloc (a := ⟨qa, 0, none⟩) _ h1 h2).2)
  refine bodyPost_ret (v := .tuple #[.int .i32 (ns.length + 1), .int .i64 0]) (by simp [results, Try.results45, go_sem]) rfl ⟨⟨_, rfl⟩, ?_⟩
  exact alloc_close hbq h0 h1 h2 h3 h4 h5 H6.out (by omega) h8 hqw hown' hgrow hat
end Go.Proofs.Ytcdldjiogoapkaa
