import Derived.Test.YtcdldjiogoapkaaSgAM
namespace Go.Proofs.Ytcdldjiogoapkaa
open Go.RowKit
attribute [local go_sem] World.cell?_alloc_some frozen_alloc_some field_na field_ac field_as

theorem in_calls (w : World) (key slo shi : Nat) :
    Calls Try.prog 29 #[.int .u32 key, spn slo shi] w fun e w' => e = .returned (.bool (inS slo shi (key, 0))) ∧ Below w.heap.size w w' := by
  by_cases h1 : slo ≤ key
  all_goals by_cases h2 : key ≤ shi
  all_goals
    go_enter Try.func29, Try.ntmps29
    go_wp2
    go_ret
    exact ⟨ret_bool (by unfold inS; simp [h1, h2]), (Below.refl _ w).alloc (Nat.le_refl _) _⟩

/-- The document's tree, as a value. -/
abbrev tv (rv ev : Value) (lim : Int) : Value := .agg #[rv, ev, .int .i64 lim]
abbrev BoxT (rv ev : Value) (lim : Int) : Obj := .cells #[rv, ev, .int .i64 lim] 31

set_option maxRecDepth 100000 in
set_option maxHeartbeats 4000000 in
theorem refFold_calls (w : World) (rv ev : Value) (lim : Int) (row : List (Nat × Int)) (slo shi : Nat) {c : Nat} {χ : Col} (hr : RdP c χ w rv row) (hn : row.length ≤ 1000000) :
    Calls Try.prog 11 #[tv rv ev lim, spn slo shi] w fun e w' => e = .returned (agV (vals (row.filter (inS slo shi)))).val ∧ Below w.heap.size w w' := by
  obtain ⟨A, cap, rfl, a1, a2, a3, -⟩ := id hr
  unfold maxLen at a2
  have HR := Lib.hid hr
  clear hr
  obtain ⟨i0, hi, hz0, hz1, hz2⟩ := info_parts infoI64
  go_enter Try.func11, Try.ntmps11
  go_wp2
  go_loopw [5, 6] (fun v i wr => ∃ j : Nat, j ≤ row.length ∧ i = .int .i64 j ∧ (wr.heap[w.heap.size]? = some (BoxT (.slice A row.length cap) ev lim) ∧ wr.heap[w.heap.size + 1]? = some (BoxS slo shi) ∧ wr.heap[w.heap.size + 2]? = some (BoxA Ag.zero)) ∧ w.heap.size + 3 ≤ wr.heap.size ∧
    wr.ownsRow (w.heap.size + 3) 2 1 v (vals ((row.take j).filter (inS slo shi))).length ((vals ((row.take j).filter (inS slo shi))).map (Value.int .i64)) ∧ Below w.heap.size w wr) (fun _ i _ => row.length - (intOf i).toNat)
  case atStart =>
    have o2 := World.ownsRow_made (base := w.heap.size + 3) (e := 2) (size := 1) (((w.alloc (BoxT (.slice A row.length cap) ev lim)).alloc (BoxS slo shi)).alloc (BoxA Ag.zero)) #[] 0 (by simp) (Nat.zero_le _) rfl
    have h0 := heap_alloc_at w (BoxT (.slice A row.length cap) ev lim)
    have h1 := heap_alloc_at (w.alloc (BoxT (.slice A row.length cap) ev lim)) (BoxS slo shi)
    have h2 := heap_alloc_at ((w.alloc (BoxT (.slice A row.length cap) ev lim)).alloc (BoxS slo shi)) (BoxA Ag.zero)
    simp only [World.size_alloc] at o2 h1 h2
    have b1 : ∀ (W : World) (o : Obj), Below W.heap.size W (W.alloc o) := fun W o => (Below.refl _ W).alloc (Nat.le_refl _) o
    refine ⟨0, by omega, rfl, ⟨kept_at (b1 _ _) (kept_at (b1 _ _) (kept_at (b1 _ _) h0)), kept_at (b1 _ _) (kept_at (b1 _ _) h1), kept_at (b1 _ _) h2⟩, by simp, o2, ?_⟩
    exact ((((Below.refl _ w).alloc (Nat.le_refl _) _).alloc (by simp) _).alloc (by simp; omega) _).alloc (by simp; omega) _
  case round =>
    obtain ⟨j, hj, rfl, ⟨k0, k1, k2⟩, hsz, V, hb⟩ := hrel
    by_cases hlt : j < row.length
    · obtain ⟨gb, go, rfl, p0, p1⟩ := (HR.out.keep (Same.below' hb)).getP j hlt
      have hfl0 : (vals ((row.take j).filter (inS slo shi))).length ≤ j := by rw [List.length_map]; exact Nat.le_trans (List.length_filter_le _ _) (by simp; omega)
      obtain ⟨vs0, hvs0⟩ : ∃ vs0, vs0 = vals ((row.take j).filter (inS slo shi)) := ⟨_, rfl⟩
      rw [← hvs0] at V hfl0
      have HV0 := Lib.hid hvs0
      clear hvs0
      obtain ⟨A5, cap5, rfl⟩ := owns_form V
      have hT : Hid ((row.take (j + 1)).filter (inS slo shi) = (row.take j).filter (inS slo shi) ++ [row[j]].filter (inS slo shi)) := by
        show _ = _; rw [List.take_succ_eq_append_getElem hlt, List.filter_append]
      obtain ⟨⟨x0, x1, x2⟩, -⟩ := cells3 k0
      obtain ⟨⟨z0, z1⟩, -⟩ := cells2 k1
      have hbd : Below wr.heap.size wr wr.drew := undrew_r (Below.refl _ _)
      have hin : ∃ b : Bool, b = inS slo shi row[j] := ⟨_, rfl⟩
      obtain ⟨b, hbb⟩ := hin
      have HIN : Hid (inS slo shi (row[j].1, 0) = b) := hbb.symm
      have HBB := Lib.hid hbb
      clear hbb
      go_wp2
      go_region_law (go_simp; go_at_call 29; refine (in_calls _ row[j].1 slo shi).mono ?_; rw [HIN.out]; rintro e w5 ⟨rfl, hb5⟩)
      all_goals
        have hbw : Below wr.heap.size wr w5 := hbd.trans hb5
        have q0 := kept_at hbw k0
        have q1 := kept_at hbw k1
        have q2 := kept_at hbw k2
        have V2 := owns_same V fun b e => hbw.block b (V.lt b e).2
        have r0 := below_cell hbw p0
        have r1 := below_cell hbw p1
        have hbl := hb.trans (hbw.mono hb.size)
        have hsz2 := hbw.size
        clear x0 x1 x2 z0 z1 p0 p1 k0 k1 k2 hb5 hbd V
        obtain ⟨⟨x0, x1, x2⟩, -⟩ := cells3 q0
        cases b with
        | true =>
          go_wp2_with (at_builtin; refine wpList_append_own_at _ rfl _ _ 57 rfl (w.heap.size + 3) 2 i0 _ 1 8 Try.underlying57 hi hz0 hz1 hz2 rfl (by decide) _ _ _ rfl (V2.alloc _) ⟨w5.heap.size, 0, none⟩ 1 1 [.int .i64 row[j].2] rfl rfl (World.news_of_block (heap_alloc_new w5 _)) (by simp [Value.oneCell']) (by unfold maxLen; omega) (by omega) (by simp; omega) ?_; intro v' w6 hown' hgrow _ hat)
          have hbp := push_base V2 hgrow (N := w.heap.size + 3) (Nat.le_refl _) (by omega)
          have kp : ∀ {b : Nat} {o : Obj}, w5.heap[b]? = some o → b < w.heap.size + 3 → w6.heap[b]? = some o := fun h hb => (hbp.block _ hb).trans h
          refine ⟨⟨j + 1, hlt, by go_num, ⟨kp q0 (by omega), kp q1 (by omega), kp q2 (by omega)⟩, by have := hbp.size; omega, ?_, hbl.trans (hbp.mono (by omega))⟩, by simp [intOf]; omega⟩
          have e : vals ((row.take (j + 1)).filter (inS slo shi)) = vs0 ++ [row[j].2] := by
            rw [hT.out, vals, List.map_append, List.filter_cons, if_pos (by rw [← HBB.out]), HV0.out]; rfl
          rw [e, List.length_append, List.map_append]
          exact hown'
        | false =>
          go_wp2
          refine ⟨⟨j + 1, hlt, by go_num, ⟨q0, q1, q2⟩, by omega, ?_, hbl⟩, by simp [intOf]; omega⟩
          rw [hT.out, List.filter_cons, if_neg (by rw [← HBB.out]; simp), List.filter_nil, List.append_nil, ← HV0.out]
          exact V2
    · have hjj : j = row.length := by omega
      subst hjj
      rw [List.take_length] at V
      obtain ⟨vs, hvs⟩ : ∃ vs, vs = vals (row.filter (inS slo shi)) := ⟨_, rfl⟩
      rw [← hvs] at V
      have HV := Lib.hid hvs
      clear hvs
      obtain ⟨A5, cap5, rfl⟩ := owns_form V
      obtain ⟨⟨x0, x1, x2⟩, -⟩ := cells3 k0
      have hI : IsI 0 (fun _ => 0) wr (.slice A5 vs.length cap5) vs := OwnV.isI (c := 0) ⟨owns_same (V.mono_base (Nat.zero_le _)) fun _ _ => rfl, fun _ _ => rfl⟩
      go_wp2_with fail
      refine (refOf_calls _ _ _ hI).mono ?_
      rintro e w5 ⟨rfl, hb5⟩
      have q2 := kept_at hb5 k2
      obtain ⟨⟨y0, y1, y2, y3⟩, g0, g1, g2, g3⟩ := cells4 q2
      have hbl := hb.trans (hb5.mono hb.size)
      obtain ⟨S, hS⟩ : ∃ S, S = agV vs := ⟨_, rfl⟩
      rw [← hS]
      have HS2 := Lib.hid hS
      clear hS k2 q2 V hI hb5
      simp only [Ag.val]
      go_wp2
      refine bodyPost_ret (v := S.val) (by simp [results, Try.results11, go_sem, *]) rfl ⟨by rw [HS2.out, HV.out], ?_⟩
      exact (((hbl.setCell (by simp; omega) _).setCell (by simp; omega) _).setCell (by simp; omega) _).setCell (by simp; omega) _
end Go.Proofs.Ytcdldjiogoapkaa
