import Derived.Test.YtcdldjiogoapkaaSgAN
namespace Go.Proofs.Ytcdldjiogoapkaa
open Go.RowKit
attribute [local go_sem] World.cell?_alloc_some frozen_alloc_some field_na field_ac field_as

set_option maxRecDepth 100000 in
set_option maxHeartbeats 4000000 in
theorem refKill_calls (w : World) (rv : Value) (E : Option Addr) (en ecap : Nat) (lim : Int) (row : List (Nat × Int)) (slo shi : Nat) {c : Nat} {χ : Col} (hr : RdP c χ w rv row) (hn : row.length ≤ 1000000) :
    Calls Try.prog 16 #[tv rv (.slice E en ecap) lim, spn slo shi] w fun e w' => ∃ A' cap', e = .returned (tv (.slice A' (row.filter (fun x => !inS slo shi x)).length cap') (.slice E en ecap) lim) ∧ w'.ownsRow w.heap.size 61 2 (.slice A' (row.filter (fun x => !inS slo shi x)).length cap') (row.filter (fun x => !inS slo shi x)).length ((row.filter (fun x => !inS slo shi x)).flatMap pcells) ∧ Below w.heap.size w w' := by
  obtain ⟨A, cap, rfl, a1, a2, a3, -⟩ := id hr
  unfold maxLen at a2
  have HR := Lib.hid hr
  clear hr
  obtain ⟨i0, hi, hz0, hz1, hz2⟩ := info_parts infoPair
  go_enter Try.func16, Try.ntmps16
  go_wp2
  go_loopw [5, 6] (fun v i wr => ∃ j : Nat, j ≤ row.length ∧ i = .int .i64 j ∧ (wr.heap[w.heap.size]? = some (BoxT (.slice A row.length cap) (.slice E en ecap) lim) ∧ wr.heap[w.heap.size + 1]? = some (BoxS slo shi) ∧ wr.heap[w.heap.size + 1 + 1]? = some (BoxT (.slice none 0 0) (.slice none 0 0) 0)) ∧ w.heap.size + 3 ≤ wr.heap.size ∧
    wr.ownsRow (w.heap.size + 3) 61 2 v ((row.take j).filter (fun x => !inS slo shi x)).length (((row.take j).filter (fun x => !inS slo shi x)).flatMap pcells) ∧ Below w.heap.size w wr) (fun _ i _ => row.length - (intOf i).toNat)
  case atStart =>
    have o2 := World.ownsRow_made (base := w.heap.size + 3) (e := 61) (size := 2) (((w.alloc (BoxT (.slice A row.length cap) (.slice E en ecap) lim)).alloc (BoxS slo shi)).alloc (BoxT (.slice none 0 0) (.slice none 0 0) 0)) #[] 0 (by simp) (Nat.zero_le _) rfl
    have h0 := heap_alloc_at w (BoxT (.slice A row.length cap) (.slice E en ecap) lim)
    have h1 := heap_alloc_at (w.alloc (BoxT (.slice A row.length cap) (.slice E en ecap) lim)) (BoxS slo shi)
    have h2 := heap_alloc_at ((w.alloc (BoxT (.slice A row.length cap) (.slice E en ecap) lim)).alloc (BoxS slo shi)) (BoxT (.slice none 0 0) (.slice none 0 0) 0)
    simp only [World.size_alloc] at o2 h1 h2
    have b1 : ∀ (W : World) (o : Obj), Below W.heap.size W (W.alloc o) := fun W o => (Below.refl _ W).alloc (Nat.le_refl _) o
    refine ⟨0, by omega, rfl, ⟨kept_at (b1 _ _) (kept_at (b1 _ _) (kept_at (b1 _ _) h0)), kept_at (b1 _ _) (kept_at (b1 _ _) h1), kept_at (b1 _ _) h2⟩, by simp, o2, ?_⟩
    exact ((((Below.refl _ w).alloc (Nat.le_refl _) _).alloc (by simp) _).alloc (by simp; omega) _).alloc (by simp; omega) _
  case round =>
    obtain ⟨j, hj, rfl, ⟨k0, k1, k2⟩, hsz, V, hb⟩ := hrel
    by_cases hlt : j < row.length
    · obtain ⟨gb, go, rfl, p0, p1⟩ := (HR.out.keep (Same.below' hb)).getP j hlt
      have hfl0 : ((row.take j).filter (fun x => !inS slo shi x)).length ≤ j := Nat.le_trans (List.length_filter_le _ _) (by simp; omega)
      obtain ⟨xs0, hxs0⟩ : ∃ xs0, xs0 = (row.take j).filter (fun x => !inS slo shi x) := ⟨_, rfl⟩
      rw [← hxs0] at V hfl0
      have HV0 := Lib.hid hxs0
      clear hxs0
      obtain ⟨A5, cap5, rfl⟩ := owns_form V
      have hT : Hid ((row.take (j + 1)).filter (fun x => !inS slo shi x) = (row.take j).filter (fun x => !inS slo shi x) ++ [row[j]].filter (fun x => !inS slo shi x)) := by
        show _ = _; rw [List.take_succ_eq_append_getElem hlt, List.filter_append]
      obtain ⟨⟨x0, x1, x2⟩, -⟩ := cells3 k0
      obtain ⟨⟨z0, z1⟩, -⟩ := cells2 k1
      have hbd : Below wr.heap.size wr wr.drew := undrew_r (Below.refl _ _)
      have hin : ∃ b : Bool, b = inS slo shi row[j] := ⟨_, rfl⟩
      obtain ⟨b, hbb⟩ := hin
      have HIN : Hid (inS slo shi (row[j].1, 0) = b) := hbb.symm
      have HBB := Lib.hid hbb
      clear hbb
      go_wp2
      go_region_law (go_simp; go_at_call 29; refine (in_calls _ row[j].1 slo shi).mono ?_; rw [HIN.out]; rintro e w5 ⟨rfl, hb5⟩)
      all_goals
        have hbw : Below wr.heap.size wr w5 := hbd.trans hb5
        have q0 := kept_at hbw k0
        have q1 := kept_at hbw k1
        have q2 := kept_at hbw k2
        have V2 := owns_same V fun b e => hbw.block b (V.lt b e).2
        have r0 := below_cell hbw p0
        have r1 := below_cell hbw p1
        have hbl := hb.trans (hbw.mono hb.size)
        have hsz2 := hbw.size
        clear x0 x1 x2 z0 z1 p0 p1 k0 k1 k2 hb5 hbd V
        obtain ⟨⟨x0, x1, x2⟩, -⟩ := cells3 q0
        cases b with
        | false =>
          go_wp2_with (at_builtin; refine wpList_append_own_at _ rfl _ _ 28 rfl (w.heap.size + 3) 61 i0 _ 2 16 Try.underlying28 hi hz0 hz1 hz2 rfl (by decide) _ _ _ rfl (V2.alloc _) ⟨w5.heap.size, 0, none⟩ 1 1 [.int .u32 row[j].1, .int .i64 row[j].2] rfl rfl (World.news_of_block (heap_alloc_new w5 _)) (by simp [Value.oneCell']) (by unfold maxLen; omega) (by omega) (by simp; omega) ?_; intro v' w6 hown' hgrow _ hat)
          have hbp := push_base V2 hgrow (N := w.heap.size + 3) (Nat.le_refl _) (by omega)
          have kp : ∀ {b : Nat} {o : Obj}, w5.heap[b]? = some o → b < w.heap.size + 3 → w6.heap[b]? = some o := fun h hb => (hbp.block _ hb).trans h
          refine ⟨⟨j + 1, hlt, by go_num, ⟨kp q0 (by omega), kp q1 (by omega), kp q2 (by omega)⟩, by have := hbp.size; omega, ?_, hbl.trans (hbp.mono (by omega))⟩, by simp [intOf]; omega⟩
          have e : (row.take (j + 1)).filter (fun x => !inS slo shi x) = xs0 ++ [row[j]] := by
            rw [hT.out, List.filter_cons, if_pos (by rw [← HBB.out]; rfl), HV0.out]; rfl
          rw [e, List.length_append, List.flatMap_append]
          exact hown'
        | true =>
          go_wp2
          refine ⟨⟨j + 1, hlt, by go_num, ⟨q0, q1, q2⟩, by omega, ?_, hbl⟩, by simp [intOf]; omega⟩
          rw [hT.out, List.filter_cons, if_neg (by rw [← HBB.out]; simp), List.filter_nil, List.append_nil, ← HV0.out]
          exact V2
    · have hjj : j = row.length := by omega
      subst hjj
      rw [List.take_length] at V
      obtain ⟨xs, hxs⟩ : ∃ xs, xs = row.filter (fun x => !inS slo shi x) := ⟨_, rfl⟩
      rw [← hxs] at V
      have HX := Lib.hid hxs
      clear hxs
      obtain ⟨A5, cap5, rfl⟩ := owns_form V
      obtain ⟨⟨x0, x1, x2⟩, f0, f1, f2⟩ := cells3 k0
      obtain ⟨⟨y0, y1, y2⟩, g0, g1, g2⟩ := cells3 k2
      have hne : w.heap.size ≠ w.heap.size + 1 + 1 := by omega
      have hne2 : w.heap.size + 1 + 1 ≠ w.heap.size := by omega
      have n0 := (World.cell?_setCell_other wr ⟨w.heap.size, 0, none⟩ ⟨w.heap.size + 1 + 1, 0, none⟩ (.slice A5 xs.length cap5) (by simp)).trans y0
      have n1 := (World.cell?_setCell_other wr ⟨w.heap.size, 0, none⟩ ⟨w.heap.size + 1 + 1, 1, none⟩ (.slice A5 xs.length cap5) (by simp)).trans y1
      have n2 := (World.cell?_setCell_other wr ⟨w.heap.size, 0, none⟩ ⟨w.heap.size + 1 + 1, 2, none⟩ (.slice A5 xs.length cap5) (by simp)).trans y2
      have VH := Lib.hid V
      clear V
      go_wp2
      refine bodyPost_ret (v := tv (.slice A5 xs.length cap5) (.slice E en ecap) lim) (by simp [results, Try.results16, go_sem, *]) rfl ⟨A5, cap5, by rw [HX.out], ?_, ?_⟩
      · rw [← HX.out]
        refine owns_same (VH.out.mono_base (by omega)) fun b e => ?_
        have hbb := (VH.out.lt b e).1
        exact (Below.heap_setCell _ _ _ _ (by show b ≠ w.heap.size + 1 + 1; omega)).trans ((Below.heap_setCell _ _ _ _ (by show b ≠ w.heap.size + 1 + 1; omega)).trans ((Below.heap_setCell _ _ _ _ (by show b ≠ w.heap.size + 1 + 1; omega)).trans (Below.heap_setCell _ _ _ _ (by show b ≠ w.heap.size; omega))))
      · exact (((hb.setCell (by simp) _).setCell (by simp <;> omega) _).setCell (by simp <;> omega) _).setCell (by simp <;> omega) _

set_option maxRecDepth 100000 in
set_option maxHeartbeats 4000000 in
theorem refDrop_calls (w : World) (rv : Value) (E : Option Addr) (en ecap : Nat) (lim : Int) (row : List (Nat × Int)) (key : Nat) {c : Nat} {χ : Col} (hr : RdP c χ w rv row) (hn : row.length ≤ 1000000) :
    Calls Try.prog 14 #[tv rv (.slice E en ecap) lim, .int .u32 key] w fun e w' => ∃ A' cap', e = .returned (tv (.slice A' (row.filter (fun x => x.1 != key)).length cap') (.slice E en ecap) lim) ∧ A' ≠ none ∧ w'.ownsRow w.heap.size 61 2 (.slice A' (row.filter (fun x => x.1 != key)).length cap') (row.filter (fun x => x.1 != key)).length ((row.filter (fun x => x.1 != key)).flatMap pcells) ∧ Below w.heap.size w w' := by
  obtain ⟨A, cap, rfl, a1, a2, a3, -⟩ := id hr
  unfold maxLen at a2
  have HR := Lib.hid hr
  clear hr
  obtain ⟨i0, hi, hz0, hz1, hz2⟩ := info_parts infoPair
  go_enter Try.func14, Try.ntmps14
  go_wp2
  go_loopw [5, 6] (fun v i wr => ∃ j : Nat, j ≤ row.length ∧ i = .int .i64 j ∧ (wr.heap[w.heap.size]? = some (BoxT (.slice A row.length cap) (.slice E en ecap) lim) ∧ wr.heap[w.heap.size + 1]? = some (BoxT (.slice none 0 0) (.slice none 0 0) 0)) ∧ w.heap.size + 2 ≤ wr.heap.size ∧ (∃ g, v.ownBlock = some g) ∧
    wr.ownsRow (w.heap.size + 2) 61 2 v ((row.take j).filter (fun x => x.1 != key)).length (((row.take j).filter (fun x => x.1 != key)).flatMap pcells) ∧ Below w.heap.size w wr) (fun _ i _ => row.length - (intOf i).toNat)
  case atStart =>
    have o2 := World.ownsRow_made (base := w.heap.size + 2) (e := 61) (size := 2) ((w.alloc (BoxT (.slice A row.length cap) (.slice E en ecap) lim)).alloc (BoxT (.slice none 0 0) (.slice none 0 0) 0)) #[] 0 (by simp) (Nat.zero_le _) rfl
    have h0 := heap_alloc_at w (BoxT (.slice A row.length cap) (.slice E en ecap) lim)
    have h2 := heap_alloc_at (w.alloc (BoxT (.slice A row.length cap) (.slice E en ecap) lim)) (BoxT (.slice none 0 0) (.slice none 0 0) 0)
    simp only [World.size_alloc] at o2 h2
    have b1 : ∀ (W : World) (o : Obj), Below W.heap.size W (W.alloc o) := fun W o => (Below.refl _ W).alloc (Nat.le_refl _) o
    refine ⟨0, by omega, rfl, ⟨kept_at (b1 _ _) (kept_at (b1 _ _) h0), kept_at (b1 _ _) h2⟩, by simp, ⟨_, rfl⟩, o2, ?_⟩
    exact (((Below.refl _ w).alloc (Nat.le_refl _) _).alloc (by simp) _).alloc (by simp; omega) _
  case round =>
    obtain ⟨j, hj, rfl, ⟨k0, k2⟩, hsz, hgv, V, hb⟩ := hrel
    have HG := Lib.hid hgv
    clear hgv
    by_cases hlt : j < row.length
    · obtain ⟨gb, go, rfl, p0, p1⟩ := (HR.out.keep (Same.below' hb)).getP j hlt
      have hfl0 : ((row.take j).filter (fun x => x.1 != key)).length ≤ j := Nat.le_trans (List.length_filter_le _ _) (by simp; omega)
      obtain ⟨xs0, hxs0⟩ : ∃ xs0, xs0 = (row.take j).filter (fun x => x.1 != key) := ⟨_, rfl⟩
      rw [← hxs0] at V hfl0
      have HV0 := Lib.hid hxs0
      clear hxs0
      obtain ⟨A5, cap5, rfl⟩ := owns_form V
      have hT : Hid ((row.take (j + 1)).filter (fun x => x.1 != key) = (row.take j).filter (fun x => x.1 != key) ++ [row[j]].filter (fun x => x.1 != key)) := by
        show _ = _; rw [List.take_succ_eq_append_getElem hlt, List.filter_append]
      obtain ⟨⟨x0, x1, x2⟩, -⟩ := cells3 k0
      have V2 := V
      have hbl := hb
      by_cases hk : row[j].1 = key
      · have hki : ((row[j].1 : Int) != (key : Int)) = false := by simp; omega
        have HK := Lib.hid hk
        clear hk
        go_wp2
        refine ⟨⟨j + 1, hlt, by go_num, ⟨k0, k2⟩, by omega, HG.out, ?_, hbl⟩, by simp [intOf]; omega⟩
        rw [hT.out, List.filter_cons, if_neg (by rw [HK.out]; simp), List.filter_nil, List.append_nil, ← HV0.out]
        exact V2
      · have hki : ((row[j].1 : Int) != (key : Int)) = true := by simp; omega
        have HK := Lib.hid hk
        clear hk
        go_wp2_with (at_builtin; refine wpList_append_own_at _ rfl _ _ 28 rfl (w.heap.size + 2) 61 i0 _ 2 16 Try.underlying28 hi hz0 hz1 hz2 rfl (by decide) _ _ _ rfl (V2.alloc _) ⟨wr.heap.size, 0, none⟩ 1 1 [.int .u32 row[j].1, .int .i64 row[j].2] rfl rfl (World.news_of_block (heap_alloc_new wr _)) (by simp [Value.oneCell']) (by unfold maxLen; omega) (by omega) (by simp; omega) ?_; intro v' w6 hown' hgrow _ hat)
        have hbp := push_base V2 hgrow (N := w.heap.size + 2) (Nat.le_refl _) (by omega)
        have kp : ∀ {b : Nat} {o : Obj}, wr.heap[b]? = some o → b < w.heap.size + 2 → w6.heap[b]? = some o := fun h hb => (hbp.block _ hb).trans h
        refine ⟨⟨j + 1, hlt, by go_num, ⟨kp k0 (by omega), kp k2 (by omega)⟩, by have := hbp.size; omega, (by obtain ⟨g, hg⟩ := HG.out; rcases hat with h | h; exact ⟨g, h.trans hg⟩; exact ⟨_, h⟩), ?_, hbl.trans (hbp.mono (by omega))⟩, by simp [intOf]; omega⟩
        have e : (row.take (j + 1)).filter (fun x => x.1 != key) = xs0 ++ [row[j]] := by
          rw [hT.out, List.filter_cons, if_pos (by simpa using HK.out), HV0.out]; rfl
        rw [e, List.length_append, List.flatMap_append]
        exact hown'
    · have hjj : j = row.length := by omega
      subst hjj
      rw [List.take_length] at V
      obtain ⟨xs, hxs⟩ : ∃ xs, xs = row.filter (fun x => x.1 != key) := ⟨_, rfl⟩
      rw [← hxs] at V
      have HX := Lib.hid hxs
      clear hxs
      obtain ⟨A5, cap5, rfl⟩ := owns_form V
      obtain ⟨⟨x0, x1, x2⟩, f0, f1, f2⟩ := cells3 k0
      obtain ⟨⟨y0, y1, y2⟩, g0, g1, g2⟩ := cells3 k2
      have hne : w.heap.size ≠ w.heap.size + 1 := by omega
      have hne2 : w.heap.size + 1 ≠ w.heap.size := by omega
      have n0 := (World.cell?_setCell_other wr ⟨w.heap.size, 0, none⟩ ⟨w.heap.size + 1, 0, none⟩ (.slice A5 xs.length cap5) (by simp)).trans y0
      have n1 := (World.cell?_setCell_other wr ⟨w.heap.size, 0, none⟩ ⟨w.heap.size + 1, 1, none⟩ (.slice A5 xs.length cap5) (by simp)).trans y1
      have n2 := (World.cell?_setCell_other wr ⟨w.heap.size, 0, none⟩ ⟨w.heap.size + 1, 2, none⟩ (.slice A5 xs.length cap5) (by simp)).trans y2
      have VH := Lib.hid V
      clear V
      go_wp2
      refine bodyPost_ret (v := tv (.slice A5 xs.length cap5) (.slice E en ecap) lim) (by simp [results, Try.results14, go_sem, *]) rfl ⟨A5, cap5, by rw [HX.out], (by rintro rfl; obtain ⟨g, hg⟩ := HG.out; cases hg), ?_, ?_⟩
      · rw [← HX.out]
        refine owns_same (VH.out.mono_base (by omega)) fun b e => ?_
        have hbb := (VH.out.lt b e).1
        exact (Below.heap_setCell _ _ _ _ (by show b ≠ w.heap.size + 1; omega)).trans ((Below.heap_setCell _ _ _ _ (by show b ≠ w.heap.size + 1; omega)).trans ((Below.heap_setCell _ _ _ _ (by show b ≠ w.heap.size + 1; omega)).trans (Below.heap_setCell _ _ _ _ (by show b ≠ w.heap.size; omega))))
      · exact (((hb.setCell (by simp) _).setCell (by simp <;> omega) _).setCell (by simp <;> omega) _).setCell (by simp <;> omega) _
end Go.Proofs.Ytcdldjiogoapkaa
