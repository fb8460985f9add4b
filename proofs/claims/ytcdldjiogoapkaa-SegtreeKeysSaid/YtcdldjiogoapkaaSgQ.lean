import Derived.Test.YtcdldjiogoapkaaSgP
namespace Go.Proofs.Ytcdldjiogoapkaa
open Go.RowKit
attribute [local go_sem] World.cell?_alloc_some frozen_alloc_some field_na field_ac field_as

set_option maxRecDepth 100000 in
set_option maxHeartbeats 4000000 in
theorem tkill_calls (w : World) (pt slo shi : Nat) {c : Nat} {χ : Col} {ns : List Nd} {root lim : Int} (h : TrAt c χ w pt ns root lim) (hok : OkN ns) (i0 : 0 ≤ root) (i1 : root ≤ ns.length) :
    Calls Try.prog 17 #[.pointer (some ⟨pt, 0, none⟩), spn slo shi] w fun e w' =>
      e = .returned (.int .i64 (foldT slo shi 32 ns root 0).1.c) ∧ TrTo c χ w w' pt (cutT slo shi 32 (foldT slo shi 32 ns root 0).2 root 0) root lim := by
  have hfo := foldT_ok slo shi 32 ns root 0 hok
  have hF := fun (W : World) (χ' : Col) (hT : TrAt c χ' W pt ns root lim) => tfold_calls W pt slo shi hT hok i0 i1
  obtain ⟨Z, hZ⟩ : ∃ Z, Z = foldT slo shi 32 ns root 0 := ⟨_, rfl⟩
  rw [← hZ] at hfo hF ⊢
  clear hZ
  obtain ⟨Y, hY⟩ : ∃ Y, Y = cutT slo shi 32 Z.2 root 0 := ⟨_, rfl⟩
  have HS : Hid (∀ (W : World) (χ' : Col), TrAt c χ' W pt Z.2 root lim → Calls Try.prog 34 #[.pointer (some ⟨pt, 0, none⟩), .int .i32 root, blk 0 32, spn slo shi] W fun e w' =>
      e = .returned (.tuple #[]) ∧ TrTo c χ' W w' pt Y root lim) := fun W χ' hT => by rw [hY]; exact cut_calls slo shi 32 (Nat.le_refl _) W root 0 hT hfo.1 i0 (by rw [hfo.2]; exact i1) (by decide)
  have HF := Lib.hid hF
  rw [← hY]
  clear hY hfo hF
  have K1 := (Trk.start h).below ((Below.refl _ w).alloc (Nat.le_refl _) (BoxS slo shi))
  have S1 := Loc.new (Trk.start h) (BoxS slo shi)
  go_enter Try.func17, Try.ntmps17
  go_wp2_with fail
  refine (HF.out _ _ K1.tr).mono ?_
  rintro e w2 ⟨rfl, hT2⟩
  obtain ⟨χ2, ag, K2, ch⟩ := K1.call hT2
  have S2 := S1.call ag ch
  simp only [Ag.val]
  go_wp2
  clear K1 S1 ag ch hT2
  obtain ⟨bs, hbs⟩ : ∃ bs, bs = w.heap.size := ⟨_, rfl⟩
  rw [← hbs] at S2 ⊢
  clear hbs
  have K3 := K2.drew
  have S3 := S2.drew
  have c3 := spanLoc K3 S3
  clear K2 S2
  first
    | (go_region_held3 (fun W => W.cell? ⟨pt, 1, none⟩ = some (.int .i32 root) ∧ W.cell? ⟨bs, 0, none⟩ = some (.int .u32 slo) ∧ W.cell? ⟨bs, 1, none⟩ = some (.int .u32 shi))
        (first | with_reducible exact c3 | with_reducible exact c4 | with_reducible exact c5)
        (first
          | (go_at_call 34; have hS := K4; refine (HS.out _ _ K4.tr).mono ?_; rintro e w5 ⟨rfl, hT5⟩; obtain ⟨χ5, ag, K5, ch⟩ := K4.call hT5; have S5 := S4.call ag ch; have c5 := spanLoc K5 S5)
          | (go_at_call 35; refine (whole_calls _).mono ?_; rintro e w4 ⟨rfl, hb4⟩; have K4 := K3.below hb4; have S4 := S3.below hb4; have c4 := spanLoc K4 S4)))
    | fail
  all_goals
    go_wp2
    go_ret
    exact ⟨rfl, K5.to⟩

set_option maxRecDepth 100000 in
theorem tdrop_calls (w : World) (pt key : Nat) {c : Nat} {χ : Col} {ns : List Nd} {root lim : Int} (h : TrAt c χ w pt ns root lim) (hok : OkN ns) (i0 : 0 ≤ root) (i1 : root ≤ ns.length) :
    Calls Try.prog 15 #[.pointer (some ⟨pt, 0, none⟩), .int .u32 key] w fun e w' =>
      e = .returned (.bool ((foldT key key 32 ns root 0).1.c == 1)) ∧ TrTo c χ w w' pt (cutT key key 32 (foldT key key 32 ns root 0).2 root 0) root lim := by
  have HK := Lib.hid (tkill_calls w pt key key h hok i0 i1)
  obtain ⟨Z, hZ⟩ : ∃ Z, Z = foldT key key 32 ns root 0 := ⟨_, rfl⟩
  rw [← hZ] at HK ⊢
  clear hZ
  obtain ⟨Y, hY⟩ : ∃ Y, Y = cutT key key 32 Z.2 root 0 := ⟨_, rfl⟩
  rw [← hY] at HK ⊢
  clear hY
  go_enter Try.func15, Try.ntmps15
  go_wp2_with fail
  refine HK.out.mono ?_
  rintro e w2 ⟨rfl, hT2⟩
  go_wp2
  go_ret
  exact ⟨rfl, hT2⟩

set_option maxRecDepth 100000 in
theorem tget_calls (w : World) (pt key : Nat) {c : Nat} {χ : Col} {ns : List Nd} {root lim : Int} (h : TrAt c χ w pt ns root lim) (hok : OkN ns) (i0 : 0 ≤ root) (i1 : root ≤ ns.length) :
    Calls Try.prog 19 #[.pointer (some ⟨pt, 0, none⟩), .int .u32 key] w fun e w' =>
      e = .returned (.tuple #[.int .i64 (foldT key key 32 ns root 0).1.s, .bool ((foldT key key 32 ns root 0).1.c == 1)]) ∧ TrTo c χ w w' pt (foldT key key 32 ns root 0).2 root lim := by
  have HK := Lib.hid (tfold_calls w pt key key h hok i0 i1)
  obtain ⟨Z, hZ⟩ : ∃ Z, Z = foldT key key 32 ns root 0 := ⟨_, rfl⟩
  rw [← hZ] at HK ⊢
  clear hZ
  go_enter Try.func19, Try.ntmps19
  go_wp2_with fail
  refine HK.out.mono ?_
  rintro e w2 ⟨rfl, hT2⟩
  obtain ⟨χ2, ag, K2, ch⟩ := (Trk.start h).call hT2
  have R3 := Loc.new K2 (BoxA Z.1)
  simp only [Ag.val]
  obtain ⟨⟨x0, x1, x2, x3⟩, y0, y1, y2, y3⟩ := cells4 R3.at_
  go_wp2
  go_quiet (fail)
  go_wp2
  go_ret2
  exact ⟨rfl, (K2.below (((Below.refl _ _).alloc (Nat.le_refl _) (BoxA Z.1)).trans (below_drewN _ _ _))).to⟩

theorem anew_calls (w : World) (l c : Nat) (χ : Col) (h1 : 1 ≤ l) (h2 : l ≤ 4194304) :
    Calls Try.prog 28 #[.int .i64 l] w fun e w' => ∃ qa χ', e = .returned (.tuple #[.pointer (some ⟨qa, 0, none⟩), .int .i64 0]) ∧ w.heap.size ≤ qa ∧ (∀ b, b < w.heap.size → χ' b = χ b) ∧ ArAt c χ' w' qa [] l ∧ Below w.heap.size w w' := by
  go_enter Try.func28, Try.ntmps28
  go_wp2
  go_ret2
  have hat := heap_alloc_at w (.cells #[.slice none 0 0, .int .i64 l] 92)
  obtain ⟨⟨x0, x1⟩, y0, y1⟩ := cells2 hat
  refine ⟨w.heap.size, paint χ w.heap.size c, rfl, Nat.le_refl _, fun b hb => paint_low hb, ⟨.slice none 0 0, paint_high (Nat.le_refl _), x0, y0, x1, y1, World.ownsRow_nil _ _ _ _, ?_, by simp, by omega⟩, (Below.refl _ w).alloc (Nat.le_refl _) _⟩
  intro b hb
  simp [Value.ownBlock] at hb
theorem anew_bad (w : World) (l : Int) (h : l < 1 ∨ 4194304 < l) :
    Calls Try.prog 28 #[.int .i64 l] w fun e w' => e = .returned (.tuple #[.pointer none, .int .i64 1]) ∧ w' = w := by
  by_cases h1 : l < 1
  · go_enter Try.func28, Try.ntmps28
    go_wp2
    go_ret2
    exact ⟨rfl, rfl⟩
  · have h2 : 4194304 < l := by omega
    go_enter Try.func28, Try.ntmps28
    go_wp2
    go_ret2
    exact ⟨rfl, rfl⟩

theorem tnew_calls (w : World) (l c : Nat) (χ : Col) (h1 : 1 ≤ l) (h2 : l ≤ 4194304) :
    Calls Try.prog 10 #[.int .i64 l] w fun e w' => ∃ pt χ', e = .returned (.tuple #[.pointer (some ⟨pt, 0, none⟩), .int .i64 0]) ∧ w.heap.size ≤ pt ∧ (∀ b, b < w.heap.size → χ' b = χ b) ∧ TrAt c χ' w' pt [] 0 l ∧ Below w.heap.size w w' := by
  go_enter Try.func10, Try.ntmps10
  go_wp2_with fail
  refine (anew_calls _ l c χ h1 h2).mono ?_
  rintro e w1 ⟨qa, χ1, rfl, hq, hχ, hA, hb⟩
  go_wp2
  go_ret2
  have hA' := hA.keep (w' := w1.alloc (.cells #[.pointer (some ⟨qa, 0, none⟩), .int .i32 0] 73)) (Same.below (c + 2) ((Below.refl _ w1).alloc (Nat.le_refl _) _))
  obtain ⟨⟨x0, x1⟩, y0, y1⟩ := cells2 (heap_alloc_at w1 (.cells #[.pointer (some ⟨qa, 0, none⟩), .int .i32 0] 73))
  refine ⟨w1.heap.size, paint χ1 w1.heap.size (c + 2), rfl, hb.size, fun b h => (paint_low (Nat.lt_of_lt_of_le h hb.size)).trans (hχ b h), ⟨qa, paint_high (Nat.le_refl _), x0, y0, x1, y1, hA'⟩, hb.alloc hb.size _⟩
theorem tnew_bad (w : World) (l : Int) (h : l < 1 ∨ 4194304 < l) :
    Calls Try.prog 10 #[.int .i64 l] w fun e w' => e = .returned (.tuple #[.pointer none, .int .i64 1]) ∧ w' = w := by
  go_enter Try.func10, Try.ntmps10
  go_wp2_with fail
  refine (anew_bad _ l h).mono ?_
  rintro e w1 ⟨rfl, rfl⟩
  go_wp2
  go_ret2
  exact ⟨rfl, rfl⟩
theorem tnodes_calls (w : World) (pt : Nat) {c : Nat} {χ : Col} {ns : List Nd} {root lim : Int} (h : TrAt c χ w pt ns root lim) :
    Calls Try.prog 20 #[.pointer (some ⟨pt, 0, none⟩)] w fun e w' => e = .returned (.int .i64 ns.length) ∧ w' = w := by
  obtain ⟨qa, h0, h1, h2, h3, h4, h5⟩ := h
  go_enter Try.func20, Try.ntmps20
  go_wp2_with fail
  refine (len_calls _ _ h5).mono ?_
  rintro e w1 ⟨rfl, rfl⟩
  go_wp2
  go_ret
  exact ⟨rfl, rfl⟩
end Go.Proofs.Ytcdldjiogoapkaa
