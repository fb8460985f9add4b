import Derived.Test.YtcdldjiogoapkaaSgAU
namespace Go.Proofs.Ytcdldjiogoapkaa
open Go.RowKit
attribute [local go_sem] World.cell?_alloc_some frozen_alloc_some field_na field_ac field_as

set_option maxRecDepth 100000 in
set_option maxHeartbeats 4000000 in
theorem plays_yes (w : World) (v : Value) (limit : Nat) (most : Int) (ops : List OpT) (hs : IsL 4 rOp 0 (fun _ => 0) w v ops) (hn : ops.length ≤ 40) (h1 : 1 ≤ limit) (h2 : limit ≤ 4194304) :
    Calls Try.prog 3 #[.int .i64 limit, v, .int .i64 most] w fun e w' => e = .returned (.bool true) ∧ Below w.heap.size w w' := by
  obtain ⟨A, c, rfl, a1, a2, a3, -⟩ := id hs
  unfold maxLen at a2
  have HS := Lib.hid hs
  clear hs
  go_enter Try.func3, Try.ntmps3
  go_wp2_with fail
  refine (alive_calls _).mono ?_
  rintro e w1 ⟨rfl, hb⟩
  go_wp2_with fail
  refine (s_new w1 limit 1 (fun _ => 0) h1 h2).mono ?_
  rintro e w2 ⟨pt, χ2, rfl, -, ag, ht, hb2⟩
  have L2 := Lw.start hb (fun _ _ => rfl) ag ht hb2
  clear ag ht hb hb2
  go_wp2
  go_loopw [53] (fun i wr => ∃ (k : Nat) (χ : Col) (row : List (Nat × Int)) (ks : List Nat) (rv ev : Value), k ≤ ops.length ∧ i = .int .i64 k ∧ row.length ≤ k ∧ ks.length ≤ k ∧ Pl w χ wr pt w2.heap.size limit row ks row ks rv ev) (fun i _ => ops.length - (intOf i).toNat)
  case atStart =>
    refine ⟨0, paint χ2 w2.heap.size 50, [], [], .slice none 0 0, .slice none 0 0, by omega, rfl, by simp, by simp, ⟨L2.below ((Below.refl _ _).alloc (Nat.le_refl _) _) 50, paint_high (Nat.le_refl _), L2.bel.size, C3.of (heap_alloc_at w2 _), isL_nil, isL_nil⟩⟩
  case round =>
    obtain ⟨k, χ, row, ks, rv, ev, hk, rfl, hrl, hkl, P⟩ := hrel
    by_cases hlt : k < ops.length
    · obtain ⟨gb, go, rfl, p0', p1', p2', p3', hkey, hhi, hval⟩ := HS.out.getO k hlt
      have p0 := below_cell P.bel p0'
      have p1 := below_cell P.bel p1'
      have p2 := below_cell P.bel p2'
      have p3 := below_cell P.bel p3'
      clear p0' p1' p2' p3'
      obtain ⟨O, hO⟩ : ∃ O, O = ops[k] := ⟨_, rfl⟩
      rw [← hO] at p0 p1 p2 p3 hkey hhi hval
      clear hO
      have P1 := (P.alloc (BoxO O)).alloc (BoxS O.key O.hi)
      have D1 : Dats (paint (paint χ wr.heap.size 10) (wr.alloc (BoxO O)).heap.size 10) ((wr.alloc (BoxO O)).alloc (BoxS O.key O.hi)) [((wr.alloc (BoxO O)).heap.size, BoxS O.key O.hi), (wr.heap.size, BoxO O)] :=
        Dats.alloc (Dats.alloc (L := []) (fun p hp => by simp at hp) _) _
      obtain ⟨W1, hW1⟩ : ∃ W1, W1 = (wr.alloc (BoxO O)).alloc (BoxS O.key O.hi) := ⟨_, rfl⟩
      obtain ⟨χ1, hχ1⟩ : ∃ χ1, χ1 = paint (paint χ wr.heap.size 10) (wr.alloc (BoxO O)).heap.size 10 := ⟨_, rfl⟩
      rw [← hW1, ← hχ1] at P1 D1
      rw [World.size_alloc] at D1
      clear hχ1
      obtain ⟨rA, rcap, rfl, -⟩ := id P.rr
      obtain ⟨eA, ecap, rfl, -⟩ := id P.ru
      obtain ⟨j0, j1, j2, j3, j4, j5⟩ := P.c3
      have HP := Lib.hid P
      clear P
      go_wp2_with fail
      have hsrt := P1.lw.tr.len
      rw [← hW1]
      refine (refFold_calls W1 _ _ limit row O.key O.key P1.rr (by omega)).mono ?_
      obtain ⟨G, hG⟩ : ∃ G, G = agV (vals (row.filter (inS O.key O.key))) := ⟨_, rfl⟩
      rw [← hG]
      simp only [Ag.val]
      rintro e w3 ⟨rfl, hb3⟩
      have P3 := P1.below hb3 10
      have D3 := D1.below hb3
      have hX1 : w2.heap.size < wr.heap.size := HP.out.c3.lt
      have hX2 : wr.heap.size + 1 < w3.heap.size := by have := hb3.size; rw [hW1] at this; simp at this; omega
      have HG := Lib.hid hG
      have HSR := Lib.hid hsrt
      have HKL := Lib.hid hkl
      have HRL := Lib.hid hrl
      obtain ⟨χ3, hχ3⟩ : ∃ χ3, χ3 = paint χ1 W1.heap.size 10 := ⟨_, rfl⟩
      rw [← hχ3] at P3 D3
      have HEV : Hid (∀ k ∈ ks.reverse, k < 4294967296) := fun x hx => P3.ru.mem x (List.mem_reverse.1 hx)
      clear hG hsrt hW1 hb3 P1 D1 HP j0 j1 j2 j3 j4 j5 p0 p1 p2 p3 hχ3
      obtain ⟨j0, j1, j2, j3, j4, j5⟩ := P3.c3
      obtain ⟨⟨p0, p1, p2, p3⟩, -⟩ := cells4 (D3 (wr.heap.size, BoxO O) (by simp)).at_
      obtain ⟨⟨q0, q1⟩, -⟩ := cells2 (D3 (wr.heap.size + 1, BoxS O.key O.hi) (by simp)).at_
      have P4 := P3.alloc (BoxA G)
      have D4 := D3.alloc (BoxA G)
      by_cases k0 : O.kind = 0
      · go_wp2_with fail
        refine (refPut_calls _ _ _ limit O.value row ks O.key P4.rr P4.ru HSR.out.1 (by omega) (by omega) hkey).mono ?_
        rintro e w5 ⟨hres, hb5⟩
        have P5 := P4.below hb5 40
        have D5 := D4.belowc hb5 40
        have hm : lackL ks.reverse O.key = lackL ks O.key := lackL_congr (by simp) _
        obtain ⟨χ5, hχ5⟩ : ∃ χ5, χ5 = paint (paint χ3 w3.heap.size 10) (w3.alloc (BoxA G)).heap.size 40 := ⟨_, rfl⟩
        rw [← hχ5] at P5 D5
        have hX3 : w3.heap.size < w5.heap.size := by have := hb5.size; simp at this; omega
        have y1 : ¬ w2.heap.size = wr.heap.size := by omega
        have y2 : ¬ wr.heap.size = w2.heap.size := by omega
        have y3 : ¬ w5.heap.size = w2.heap.size := by omega
        have y4 : ¬ w2.heap.size = w5.heap.size := by omega
        rcases hres with ⟨hfull, rfl⟩ | ⟨hok, A9, n9, cap9, E9, en9, ecap9, rfl, V9, R9⟩
        · have hbA : Below w5.heap.size w5 (w5.alloc (BoxT (.slice rA row.length rcap) (.slice eA ks.length ecap) limit)) := (Below.refl _ _).alloc (Nat.le_refl _) _
          have P6 := P5.alloc (BoxT (.slice rA row.length rcap) (.slice eA ks.length ecap) limit)
          obtain ⟨P7, ch7⟩ := P6.setx P6.rr P6.ru
          clear P6 ch7 hbA hχ5 P3 P4 D3 D4
          clear j0 j1 j2 j3 j4 j5 p0 p1 p2 p3 q0 q1
          obtain ⟨j0, j1, j2, j3, j4, j5⟩ := P5.c3
          obtain ⟨⟨p0, p1, p2, p3⟩, -⟩ := cells4 (D5 (wr.heap.size, BoxO O) (by simp)).at_
          go_wp2_with fail
          refine (s_putfull _ O.key (lackL ks O.key) O.value P7.lw HEV.out hkey (by omega) hm (by omega)).mono ?_
          rintro e w8 ⟨rfl, hs⟩
          obtain ⟨χ8, ag, ch, P8⟩ := P7.call hs
          clear P7 hs ag ch P5 D5 j0 j1 j2 j3 j4 j5 p0 p1 p2 p3
          have hlen8 : ks.length ≤ k + 1 := by omega
          have hrl8 : row.length ≤ k + 1 := by omega
          obtain ⟨ks8, hks8⟩ : ∃ ks8, ks8 = ks := ⟨_, rfl⟩
          obtain ⟨r8, hr8⟩ : ∃ r8, r8 = row := ⟨_, rfl⟩
          have P8 : Pl w χ8 w8 pt w2.heap.size limit r8 ks8 r8 ks8 (.slice rA row.length rcap) (.slice eA ks.length ecap) := by rw [hks8, hr8]; exact P8
          rw [← hr8] at hrl8
          rw [← hks8] at hlen8
          clear hr8 hks8
          have hlen8' : ks8.length ≤ 41 := by omega
          obtain ⟨j0, j1, j2, j3, j4, j5⟩ := P8.c3
          have hU8 := Lib.hid (fun d => P8.ru.keep (w' := w8.drewN d) (Same.below' (below_drewN w8 _ d)))
          have hN8 := Lib.hid (fun W h => refNodes_calls W (.slice eA ks.length ecap) ks8 (c := 40) (χ := χ8) h (by omega))
          have K9 := P8.lw.below (undrew_r (Below.refl _ w8)) 10
          have hnle := nodesI_le ks8 ks8.length
          obtain ⟨N8, hN8e⟩ : ∃ N8, N8 = nodesI ks8 ks8.length := ⟨_, rfl⟩
          rw [← hN8e] at hN8 K9 hnle
          clear hN8e
          go_wp2
          have hP8 : ∀ W', (∃ d, W' = w8.drewN d) → Pl w χ8 W' pt w2.heap.size limit r8 ks8 r8 ks8 _ _ := fun W' ⟨d, e⟩ => e ▸ P8.drew d
          have cX : ∀ W', (∃ d, W' = w8.drewN d) → W'.cell? ⟨w2.heap.size, 1, none⟩ = some (.slice eA ks.length ecap) := fun W' h => (hP8 W' h).c3.c1
          first
            | (go_region_held3 (fun W' => W'.cell? ⟨w2.heap.size, 1, none⟩ = some (.slice eA ks.length ecap))
                (exact cX _ (by first | exact ⟨_, rfl⟩ | exact drewN_ex _ _ _ | exact drew_ex _ _))
                (first
                  | (go_at_call 21; refine (hN8.out _ (by first | exact hU8.out 0 | exact hU8.out 1 | exact hU8.out _)).mono ?_; rintro e w10 ⟨rfl, d, rfl⟩)
                  | (go_at_call 20; refine (s_nodes _ K9.tr).mono ?_; rintro e w9 ⟨rfl, rfl⟩)))
            | fail
          all_goals go_wp2
          all_goals refine ⟨⟨k + 1, χ8, r8, ks8, _, _, hlt, by go_num, hrl8, hlen8, hP8 _ (by first | exact ⟨_, rfl⟩ | exact drewN_ex _ _ _ | exact drew_ex _ _)⟩, by simp [intOf]; omega⟩
        · have hhi : ∀ b, (w3.alloc (BoxA G)).heap.size ≤ b → χ5 b = 40 := fun b hb => by rw [hχ5]; exact paint_high hb
          have hmem : ∀ x ∈ ks ++ [O.key], x < 4294967296 := by
            intro x hx
            rcases List.mem_append.1 hx with h | h
            · exact P4.ru.mem x h
            · simp at h; omega
          have R5 := isP_owns (c := 40) (χ := χ5) R9 (fun b e => hhi b (R9.lt b e).1)
          have U5 := isU_owns (c := 40) (χ := χ5) V9 hmem (fun b e => hhi b (V9.lt b e).1)
          clear hhi R9 V9 hχ5 P3 P4 D3 D4 hmem
          have hbA : Below w5.heap.size w5 (w5.alloc (BoxT (.slice A9 n9 cap9) (.slice E9 en9 ecap9) limit)) := (Below.refl _ _).alloc (Nat.le_refl _) _
          have P6 := P5.alloc (BoxT (.slice A9 n9 cap9) (.slice E9 en9 ecap9) limit)
          obtain ⟨P7, ch7⟩ := P6.setx (R5.keep (Same.below 10 hbA)) (U5.keep (Same.below 10 hbA))
          clear P6 ch7 hbA
          clear j0 j1 j2 j3 j4 j5 p0 p1 p2 p3 q0 q1
          obtain ⟨j0, j1, j2, j3, j4, j5⟩ := P5.c3
          obtain ⟨⟨p0, p1, p2, p3⟩, -⟩ := cells4 (D5 (wr.heap.size, BoxO O) (by simp)).at_
          go_wp2_with fail
          refine (s_putok _ O.key (lackL ks O.key) O.value P7.lw HEV.out hkey hval (by omega) hm (by omega)).mono ?_
          rintro e w8 ⟨rfl, hs⟩
          obtain ⟨χ8, ag, ch, P8⟩ := P7.put rfl hs
          clear P7 hs ag ch P5 D5 R5 U5 j0 j1 j2 j3 j4 j5 p0 p1 p2 p3
          have hlen8 : (ks ++ [O.key]).length ≤ k + 1 := by simp; omega
          obtain ⟨ks8, hks8⟩ : ∃ ks8, ks8 = ks ++ [O.key] := ⟨_, rfl⟩
          obtain ⟨r8, hr8⟩ : ∃ r8, r8 = putL O.key O.value row := ⟨_, rfl⟩
          have hrl8 : r8.length ≤ k + 1 := by rw [hr8]; exact Nat.le_trans (putL_len _ _ _) (by omega)
          rw [← hks8, ← hr8] at P8
          rw [← hks8] at hlen8
          clear hr8 hks8
          have hlen8' : ks8.length ≤ 41 := by omega
          obtain ⟨j0, j1, j2, j3, j4, j5⟩ := P8.c3
          have hU8 := Lib.hid (fun d => P8.ru.keep (w' := w8.drewN d) (Same.below' (below_drewN w8 _ d)))
          have hN8 := Lib.hid (fun W h => refNodes_calls W (.slice E9 en9 ecap9) ks8 (c := 40) (χ := χ8) h (by omega))
          have K9 := P8.lw.below (undrew_r (Below.refl _ w8)) 10
          have hnle := nodesI_le ks8 ks8.length
          obtain ⟨N8, hN8e⟩ : ∃ N8, N8 = nodesI ks8 ks8.length := ⟨_, rfl⟩
          rw [← hN8e] at hN8 K9 hnle
          clear hN8e
          go_wp2
          have hP8 : ∀ W', (∃ d, W' = w8.drewN d) → Pl w χ8 W' pt w2.heap.size limit r8 ks8 r8 ks8 _ _ := fun W' ⟨d, e⟩ => e ▸ P8.drew d
          have cX : ∀ W', (∃ d, W' = w8.drewN d) → W'.cell? ⟨w2.heap.size, 1, none⟩ = some (.slice E9 en9 ecap9) := fun W' h => (hP8 W' h).c3.c1
          first
            | (go_region_held3 (fun W' => W'.cell? ⟨w2.heap.size, 1, none⟩ = some (.slice E9 en9 ecap9))
                (exact cX _ (by first | exact ⟨_, rfl⟩ | exact drewN_ex _ _ _ | exact drew_ex _ _))
                (first
                  | (go_at_call 21; refine (hN8.out _ (by first | exact hU8.out 0 | exact hU8.out 1 | exact hU8.out _)).mono ?_; rintro e w10 ⟨rfl, d, rfl⟩)
                  | (go_at_call 20; refine (s_nodes _ K9.tr).mono ?_; rintro e w9 ⟨rfl, rfl⟩)))
            | fail
          all_goals go_wp2
          all_goals refine ⟨⟨k + 1, χ8, r8, ks8, _, _, hlt, by go_num, hrl8, hlen8, hP8 _ (by first | exact ⟨_, rfl⟩ | exact drewN_ex _ _ _ | exact drew_ex _ _)⟩, by simp [intOf]; omega⟩
      · skip
        by_cases k1 : O.kind = 1
        · go_wp2_with fail
          refine (refPut_calls _ _ _ limit O.value row ks O.key P4.rr P4.ru HSR.out.1 (by omega) (by omega) hkey).mono ?_
          rintro e w5 ⟨hres, hb5⟩
          have P5 := P4.below hb5 40
          have D5 := D4.belowc hb5 40
          have hm : lackL ks.reverse O.key = lackL ks O.key := lackL_congr (by simp) _
          obtain ⟨χ5, hχ5⟩ : ∃ χ5, χ5 = paint (paint χ3 w3.heap.size 10) (w3.alloc (BoxA G)).heap.size 40 := ⟨_, rfl⟩
          rw [← hχ5] at P5 D5
          have hX3 : w3.heap.size < w5.heap.size := by have := hb5.size; simp at this; omega
          have y1 : ¬ w2.heap.size = wr.heap.size := by omega
          have y2 : ¬ wr.heap.size = w2.heap.size := by omega
          have y3 : ¬ w5.heap.size = w2.heap.size := by omega
          have y4 : ¬ w2.heap.size = w5.heap.size := by omega
          rcases hres with ⟨hfull, rfl⟩ | ⟨hok, A9, n9, cap9, E9, en9, ecap9, rfl, V9, R9⟩
          · have hbA : Below w5.heap.size w5 (w5.alloc (BoxT (.slice rA row.length rcap) (.slice eA ks.length ecap) limit)) := (Below.refl _ _).alloc (Nat.le_refl _) _
            have P6 := P5.alloc (BoxT (.slice rA row.length rcap) (.slice eA ks.length ecap) limit)
            obtain ⟨P7, ch7⟩ := P6.setx P6.rr P6.ru
            clear P6 ch7 hbA hχ5 P3 P4 D3 D4
            clear j0 j1 j2 j3 j4 j5 p0 p1 p2 p3 q0 q1
            obtain ⟨j0, j1, j2, j3, j4, j5⟩ := P5.c3
            obtain ⟨⟨p0, p1, p2, p3⟩, -⟩ := cells4 (D5 (wr.heap.size, BoxO O) (by simp)).at_
            go_wp2_with fail
            refine (s_putfull _ O.key (lackL ks O.key) O.value P7.lw HEV.out hkey (by omega) hm (by omega)).mono ?_
            rintro e w8 ⟨rfl, hs⟩
            obtain ⟨χ8, ag, ch, P8⟩ := P7.call hs
            clear P7 hs ag ch P5 D5 j0 j1 j2 j3 j4 j5 p0 p1 p2 p3
            have hlen8 : ks.length ≤ k + 1 := by omega
            have hrl8 : row.length ≤ k + 1 := by omega
            obtain ⟨ks8, hks8⟩ : ∃ ks8, ks8 = ks := ⟨_, rfl⟩
            obtain ⟨r8, hr8⟩ : ∃ r8, r8 = row := ⟨_, rfl⟩
            have P8 : Pl w χ8 w8 pt w2.heap.size limit r8 ks8 r8 ks8 (.slice rA row.length rcap) (.slice eA ks.length ecap) := by rw [hks8, hr8]; exact P8
            rw [← hr8] at hrl8
            rw [← hks8] at hlen8
            clear hr8 hks8
            have hlen8' : ks8.length ≤ 41 := by omega
            obtain ⟨j0, j1, j2, j3, j4, j5⟩ := P8.c3
            have hU8 := Lib.hid (fun d => P8.ru.keep (w' := w8.drewN d) (Same.below' (below_drewN w8 _ d)))
            have hN8 := Lib.hid (fun W h => refNodes_calls W (.slice eA ks.length ecap) ks8 (c := 40) (χ := χ8) h (by omega))
            have K9 := P8.lw.below (undrew_r (Below.refl _ w8)) 10
            have hnle := nodesI_le ks8 ks8.length
            obtain ⟨N8, hN8e⟩ : ∃ N8, N8 = nodesI ks8 ks8.length := ⟨_, rfl⟩
            rw [← hN8e] at hN8 K9 hnle
            clear hN8e
            go_wp2
            have hP8 : ∀ W', (∃ d, W' = w8.drewN d) → Pl w χ8 W' pt w2.heap.size limit r8 ks8 r8 ks8 _ _ := fun W' ⟨d, e⟩ => e ▸ P8.drew d
            have cX : ∀ W', (∃ d, W' = w8.drewN d) → W'.cell? ⟨w2.heap.size, 1, none⟩ = some (.slice eA ks.length ecap) := fun W' h => (hP8 W' h).c3.c1
            first
              | (go_region_held3 (fun W' => W'.cell? ⟨w2.heap.size, 1, none⟩ = some (.slice eA ks.length ecap))
                  (exact cX _ (by first | exact ⟨_, rfl⟩ | exact drewN_ex _ _ _ | exact drew_ex _ _))
                  (first
                    | (go_at_call 21; refine (hN8.out _ (by first | exact hU8.out 0 | exact hU8.out 1 | exact hU8.out _)).mono ?_; rintro e w10 ⟨rfl, d, rfl⟩)
                    | (go_at_call 20; refine (s_nodes _ K9.tr).mono ?_; rintro e w9 ⟨rfl, rfl⟩)))
              | fail
            all_goals go_wp2
            all_goals refine ⟨⟨k + 1, χ8, r8, ks8, _, _, hlt, by go_num, hrl8, hlen8, hP8 _ (by first | exact ⟨_, rfl⟩ | exact drewN_ex _ _ _ | exact drew_ex _ _)⟩, by simp [intOf]; omega⟩
          · have hhi : ∀ b, (w3.alloc (BoxA G)).heap.size ≤ b → χ5 b = 40 := fun b hb => by rw [hχ5]; exact paint_high hb
            have hmem : ∀ x ∈ ks ++ [O.key], x < 4294967296 := by
              intro x hx
              rcases List.mem_append.1 hx with h | h
              · exact P4.ru.mem x h
              · simp at h; omega
            have R5 := isP_owns (c := 40) (χ := χ5) R9 (fun b e => hhi b (R9.lt b e).1)
            have U5 := isU_owns (c := 40) (χ := χ5) V9 hmem (fun b e => hhi b (V9.lt b e).1)
            clear hhi R9 V9 hχ5 P3 P4 D3 D4 hmem
            have hbA : Below w5.heap.size w5 (w5.alloc (BoxT (.slice A9 n9 cap9) (.slice E9 en9 ecap9) limit)) := (Below.refl _ _).alloc (Nat.le_refl _) _
            have P6 := P5.alloc (BoxT (.slice A9 n9 cap9) (.slice E9 en9 ecap9) limit)
            obtain ⟨P7, ch7⟩ := P6.setx (R5.keep (Same.below 10 hbA)) (U5.keep (Same.below 10 hbA))
            clear P6 ch7 hbA
            clear j0 j1 j2 j3 j4 j5 p0 p1 p2 p3 q0 q1
            obtain ⟨j0, j1, j2, j3, j4, j5⟩ := P5.c3
            obtain ⟨⟨p0, p1, p2, p3⟩, -⟩ := cells4 (D5 (wr.heap.size, BoxO O) (by simp)).at_
            go_wp2_with fail
            refine (s_putok _ O.key (lackL ks O.key) O.value P7.lw HEV.out hkey hval (by omega) hm (by omega)).mono ?_
            rintro e w8 ⟨rfl, hs⟩
            obtain ⟨χ8, ag, ch, P8⟩ := P7.put rfl hs
            clear P7 hs ag ch P5 D5 R5 U5 j0 j1 j2 j3 j4 j5 p0 p1 p2 p3
            have hlen8 : (ks ++ [O.key]).length ≤ k + 1 := by simp; omega
            obtain ⟨ks8, hks8⟩ : ∃ ks8, ks8 = ks ++ [O.key] := ⟨_, rfl⟩
            obtain ⟨r8, hr8⟩ : ∃ r8, r8 = putL O.key O.value row := ⟨_, rfl⟩
            have hrl8 : r8.length ≤ k + 1 := by rw [hr8]; exact Nat.le_trans (putL_len _ _ _) (by omega)
            rw [← hks8, ← hr8] at P8
            rw [← hks8] at hlen8
            clear hr8 hks8
            have hlen8' : ks8.length ≤ 41 := by omega
            obtain ⟨j0, j1, j2, j3, j4, j5⟩ := P8.c3
            have hU8 := Lib.hid (fun d => P8.ru.keep (w' := w8.drewN d) (Same.below' (below_drewN w8 _ d)))
            have hN8 := Lib.hid (fun W h => refNodes_calls W (.slice E9 en9 ecap9) ks8 (c := 40) (χ := χ8) h (by omega))
            have K9 := P8.lw.below (undrew_r (Below.refl _ w8)) 10
            have hnle := nodesI_le ks8 ks8.length
            obtain ⟨N8, hN8e⟩ : ∃ N8, N8 = nodesI ks8 ks8.length := ⟨_, rfl⟩
            rw [← hN8e] at hN8 K9 hnle
            clear hN8e
            go_wp2
            have hP8 : ∀ W', (∃ d, W' = w8.drewN d) → Pl w χ8 W' pt w2.heap.size limit r8 ks8 r8 ks8 _ _ := fun W' ⟨d, e⟩ => e ▸ P8.drew d
            have cX : ∀ W', (∃ d, W' = w8.drewN d) → W'.cell? ⟨w2.heap.size, 1, none⟩ = some (.slice E9 en9 ecap9) := fun W' h => (hP8 W' h).c3.c1
            first
              | (go_region_held3 (fun W' => W'.cell? ⟨w2.heap.size, 1, none⟩ = some (.slice E9 en9 ecap9))
                  (exact cX _ (by first | exact ⟨_, rfl⟩ | exact drewN_ex _ _ _ | exact drew_ex _ _))
                  (first
                    | (go_at_call 21; refine (hN8.out _ (by first | exact hU8.out 0 | exact hU8.out 1 | exact hU8.out _)).mono ?_; rintro e w10 ⟨rfl, d, rfl⟩)
                    | (go_at_call 20; refine (s_nodes _ K9.tr).mono ?_; rintro e w9 ⟨rfl, rfl⟩)))
              | fail
            all_goals go_wp2
            all_goals refine ⟨⟨k + 1, χ8, r8, ks8, _, _, hlt, by go_num, hrl8, hlen8, hP8 _ (by first | exact ⟨_, rfl⟩ | exact drewN_ex _ _ _ | exact drew_ex _ _)⟩, by simp [intOf]; omega⟩
        · skip
          by_cases k2 : O.kind = 2
          · go_wp2_with fail
            refine (refDrop_calls _ _ eA ks.length ecap limit row O.key P4.rr (by omega)).mono ?_
            rintro e w5 ⟨A9, cap9, rfl, -, R9, hb5⟩
            have P5 := P4.below hb5 40
            have D5 := D4.belowc hb5 40
            have R5 := isP_owns (c := 40) (χ := paint (paint χ3 w3.heap.size 10) (w3.alloc (BoxA G)).heap.size 40) R9 (fun b e => paint_high (R9.lt b e).1)
            have hf : row.filter (fun x => !inS O.key O.key x) = row.filter (fun x => x.1 != O.key) := by
              congr 1; funext x
              have : (inS O.key O.key x = true) ↔ x.1 = O.key := by rw [inS_iff]; omega
              by_cases c : x.1 = O.key
              · rw [this.2 c]; simp [c]
              · have h2 : inS O.key O.key x = false := by cases h : inS O.key O.key x with
                  | true => exact absurd (this.1 h) c
                  | false => rfl
                rw [h2]; simp [c]
            have hrl9 : (row.filter (fun x => x.1 != O.key)).length ≤ k + 1 := Nat.le_trans (List.length_filter_le _ _) (by omega)
            obtain ⟨r8, hr8⟩ : ∃ r8, r8 = row.filter (fun x => x.1 != O.key) := ⟨_, rfl⟩
            rw [← hr8] at R5 R9 hf hrl9 ⊢
            have hrl8 := hrl9
            clear hrl9 hr8
            obtain ⟨n9, hn9⟩ : ∃ n9, n9 = r8.length := ⟨_, rfl⟩
            rw [← hn9] at R5 ⊢
            have HF := Lib.hid hf
            clear hf R9
            obtain ⟨P6, ch6⟩ := P5.setx R5 P5.ru
            have D6 := D5.other (by omega) (fun _ _ => rfl) ch6
            obtain ⟨W6, hW6⟩ : ∃ W6, W6 = (((w5.setCell ⟨w2.heap.size, 0, none⟩ (.slice A9 n9 cap9)).setCell ⟨w2.heap.size, 1, none⟩ (.slice eA ks.length ecap)).setCell ⟨w2.heap.size, 2, none⟩ (.int .i64 limit)) := ⟨_, rfl⟩
            rw [← hW6] at P6 D6
            have P6d := P6.below (undrew_r (Below.refl _ W6)) 10
            have D6d := D6.belowc (undrew_r (Below.refl _ W6)) 10
            have cS6 : ∀ W', (∃ d, W' = W6.drewN d) → W'.cell? ⟨wr.heap.size, 1, none⟩ = some (.int .u32 O.key) ∧ W'.cell? ⟨w3.heap.size, 0, none⟩ = some (.int .i64 G.c) := by
              rintro W' ⟨d, rfl⟩
              exact ⟨(cells4 (D6 (wr.heap.size, BoxO O) (by simp)).at_).1.2.1, (cells4 (D6 (w3.heap.size, BoxA G) (by simp)).at_).1.1⟩
            clear j0 j1 j2 j3 j4 j5 p0 p1 p2 p3 q0 q1
            obtain ⟨j0, j1, j2, j3, j4, j5⟩ := P5.c3
            clear P4 P3 D4 D3 P5 D5 R5 ch6 P6 D6
            have HN9 := Lib.hid hn9
            clear hn9
            go_wp2
            rw [← hW6]
            clear hW6 j0 j1 j2 j3 j4 j5
            go_region_held3 (fun W' => W'.cell? ⟨wr.heap.size, 1, none⟩ = some (.int .u32 O.key) ∧ W'.cell? ⟨w3.heap.size, 0, none⟩ = some (.int .i64 G.c))
              (first | exact cS6 _ (by first | exact ⟨_, rfl⟩ | exact drewN_ex _ _ _ | exact drew_ex _ _) | exact c8)
              (first
                | (go_at_call 15; refine (s_drop _ O.key P6d.lw.tr).mono ?_; rw [← HG.out, HF.out]; rintro e w8 ⟨rfl, hs⟩; obtain ⟨χ8, ag, ch, P8'⟩ := P6d.call hs; have D8 := D6d.call ag ch; have c8 : w8.cell? ⟨wr.heap.size, 1, none⟩ = some (.int .u32 O.key) ∧ w8.cell? ⟨w3.heap.size, 0, none⟩ = some (.int .i64 G.c) := ⟨(cells4 (D8 (wr.heap.size, BoxO O) (by simp)).at_).1.2.1, (cells4 (D8 (w3.heap.size, BoxA G) (by simp)).at_).1.1⟩))
            have hlen8 : ks.length ≤ k + 1 := by omega
            obtain ⟨ks8, hks8⟩ : ∃ ks8, ks8 = ks := ⟨_, rfl⟩
            rw [← hks8] at hlen8
            have P8 : Pl w χ8 w8 pt w2.heap.size limit r8 ks8 r8 ks8 (.slice A9 n9 cap9) (.slice eA ks.length ecap) := by rw [hks8]; exact P8'
            clear hks8 P8' D8 c8 cS6 ag ch hs P6d D6d
            have hlen8' : ks8.length ≤ 41 := by omega
            obtain ⟨j0, j1, j2, j3, j4, j5⟩ := P8.c3
            have hU8 := Lib.hid (fun d => P8.ru.keep (w' := w8.drewN d) (Same.below' (below_drewN w8 _ d)))
            have hN8 := Lib.hid (fun W h => refNodes_calls W (.slice eA ks.length ecap) ks8 (c := 40) (χ := χ8) h (by omega))
            have K9 := P8.lw.below (undrew_r (Below.refl _ w8)) 10
            have hnle := nodesI_le ks8 ks8.length
            obtain ⟨N8, hN8e⟩ : ∃ N8, N8 = nodesI ks8 ks8.length := ⟨_, rfl⟩
            rw [← hN8e] at hN8 K9 hnle
            clear hN8e
            go_wp2
            have hP8 : ∀ W', (∃ d, W' = w8.drewN d) → Pl w χ8 W' pt w2.heap.size limit r8 ks8 r8 ks8 _ _ := fun W' ⟨d, e⟩ => e ▸ P8.drew d
            have cX : ∀ W', (∃ d, W' = w8.drewN d) → W'.cell? ⟨w2.heap.size, 1, none⟩ = some (.slice eA ks.length ecap) := fun W' h => (hP8 W' h).c3.c1
            first
              | (go_region_held3 (fun W' => W'.cell? ⟨w2.heap.size, 1, none⟩ = some (.slice eA ks.length ecap))
                  (exact cX _ (by first | exact ⟨_, rfl⟩ | exact drewN_ex _ _ _ | exact drew_ex _ _))
                  (first
                    | (go_at_call 21; refine (hN8.out _ (by first | exact hU8.out 0 | exact hU8.out 1 | exact hU8.out _)).mono ?_; rintro e w10 ⟨rfl, d, rfl⟩)
                    | (go_at_call 20; refine (s_nodes _ K9.tr).mono ?_; rintro e w9 ⟨rfl, rfl⟩)))
              | fail
            all_goals go_wp2
            all_goals refine ⟨⟨k + 1, χ8, r8, ks8, _, _, hlt, by go_num, hrl8, hlen8, hP8 _ (by first | exact ⟨_, rfl⟩ | exact drewN_ex _ _ _ | exact drew_ex _ _)⟩, by simp [intOf]; omega⟩
          · skip
            by_cases k3 : O.kind = 3
            · go_wp2_with fail
              refine (refFold_calls _ _ _ limit row O.key O.hi P4.rr (by omega)).mono ?_
              obtain ⟨G2, hG2⟩ : ∃ G2, G2 = agV (vals (row.filter (inS O.key O.hi))) := ⟨_, rfl⟩
              rw [← hG2]
              have HG2 := Lib.hid hG2
              clear hG2
              simp only [Ag.val]
              rintro e w4 ⟨rfl, hb4⟩
              have P4b := P4.below hb4 10
              have D4b := D4.belowc hb4 10
              clear j0 j1 j2 j3 j4 j5 p0 p1 p2 p3 q0 q1
              obtain ⟨j0, j1, j2, j3, j4, j5⟩ := P4b.c3
              obtain ⟨⟨q0, q1⟩, -⟩ := cells2 (D4b (wr.heap.size + 1, BoxS O.key O.hi) (by simp)).at_
              go_wp2_with fail
              refine (refKill_calls _ _ eA ks.length ecap limit row O.key O.hi P4b.rr (by omega)).mono ?_
              rintro e w5 ⟨A9, cap9, rfl, R9, hb5⟩
              have P5 := P4b.below hb5 40
              have D5 := D4b.belowc hb5 40
              have R5 := isP_owns (c := 40) (χ := paint (paint (paint χ3 w3.heap.size 10) (w3.alloc (BoxA G)).heap.size 10) w4.heap.size 40) R9 (fun b e => paint_high (R9.lt b e).1)
              have hrl9 : (row.filter (fun x => !inS O.key O.hi x)).length ≤ k + 1 := Nat.le_trans (List.length_filter_le _ _) (by omega)
              obtain ⟨r8, hr8⟩ : ∃ r8, r8 = row.filter (fun x => !inS O.key O.hi x) := ⟨_, rfl⟩
              rw [← hr8] at R5 R9 hrl9 ⊢
              have hrl8 := hrl9
              have HR8 := Lib.hid hr8
              clear hrl9 hr8
              obtain ⟨n9, hn9⟩ : ∃ n9, n9 = r8.length := ⟨_, rfl⟩
              rw [← hn9] at R5 ⊢
              clear R9
              have hX3 : wr.heap.size + 1 < w5.heap.size := by have := hb5.size; have := hb4.size; simp at *; omega
              obtain ⟨P6, ch6⟩ := P5.setx R5 P5.ru
              clear j0 j1 j2 j3 j4 j5 q0 q1
              obtain ⟨j0, j1, j2, j3, j4, j5⟩ := P5.c3
              obtain ⟨⟨q0, q1⟩, -⟩ := cells2 (D5 (wr.heap.size + 1, BoxS O.key O.hi) (by simp)).at_
              clear P4 P3 D4 D3 P5 D5 R5 ch6 P4b D4b
              have HN9 := Lib.hid hn9
              clear hn9
              have y1 : ¬ w2.heap.size = wr.heap.size + 1 := by omega
              have y2 : ¬ wr.heap.size + 1 = w2.heap.size := by omega
              go_wp2_with fail
              refine (s_kill _ O.key O.hi P6.lw.tr).mono ?_
              rw [← HG2.out, ← HR8.out]
              rintro e w8 ⟨rfl, hs⟩
              obtain ⟨χ8, ag, ch, P8'⟩ := P6.call hs
              have hlen8 : ks.length ≤ k + 1 := by omega
              obtain ⟨ks8, hks8⟩ : ∃ ks8, ks8 = ks := ⟨_, rfl⟩
              rw [← hks8] at hlen8
              have P8 : Pl w χ8 w8 pt w2.heap.size limit r8 ks8 r8 ks8 (.slice A9 n9 cap9) (.slice eA ks.length ecap) := by rw [hks8]; exact P8'
              clear hks8 P8' ag ch hs P6 j0 j1 j2 j3 j4 j5 q0 q1
              have hlen8' : ks8.length ≤ 41 := by omega
              obtain ⟨j0, j1, j2, j3, j4, j5⟩ := P8.c3
              have hU8 := Lib.hid (fun d => P8.ru.keep (w' := w8.drewN d) (Same.below' (below_drewN w8 _ d)))
              have hN8 := Lib.hid (fun W h => refNodes_calls W (.slice eA ks.length ecap) ks8 (c := 40) (χ := χ8) h (by omega))
              have K9 := P8.lw.below (undrew_r (Below.refl _ w8)) 10
              have hnle := nodesI_le ks8 ks8.length
              obtain ⟨N8, hN8e⟩ : ∃ N8, N8 = nodesI ks8 ks8.length := ⟨_, rfl⟩
              rw [← hN8e] at hN8 K9 hnle
              clear hN8e
              go_wp2
              have hP8 : ∀ W', (∃ d, W' = w8.drewN d) → Pl w χ8 W' pt w2.heap.size limit r8 ks8 r8 ks8 _ _ := fun W' ⟨d, e⟩ => e ▸ P8.drew d
              have cX : ∀ W', (∃ d, W' = w8.drewN d) → W'.cell? ⟨w2.heap.size, 1, none⟩ = some (.slice eA ks.length ecap) := fun W' h => (hP8 W' h).c3.c1
              first
                | (go_region_held3 (fun W' => W'.cell? ⟨w2.heap.size, 1, none⟩ = some (.slice eA ks.length ecap))
                    (exact cX _ (by first | exact ⟨_, rfl⟩ | exact drewN_ex _ _ _ | exact drew_ex _ _))
                    (first
                      | (go_at_call 21; refine (hN8.out _ (by first | exact hU8.out 0 | exact hU8.out 1 | exact hU8.out _)).mono ?_; rintro e w10 ⟨rfl, d, rfl⟩)
                      | (go_at_call 20; refine (s_nodes _ K9.tr).mono ?_; rintro e w9 ⟨rfl, rfl⟩)))
                | fail
              all_goals go_wp2
              all_goals refine ⟨⟨k + 1, χ8, r8, ks8, _, _, hlt, by go_num, hrl8, hlen8, hP8 _ (by first | exact ⟨_, rfl⟩ | exact drewN_ex _ _ _ | exact drew_ex _ _)⟩, by simp [intOf]; omega⟩
            · skip
              by_cases k4 : O.kind = 4
              · go_wp2
                obtain ⟨W6, hW6⟩ : ∃ W6, W6 = w3.alloc (BoxA G) := ⟨_, rfl⟩
                rw [← hW6] at P4 D4 ⊢
                have P6d := P4.below (undrew_r (Below.refl _ W6)) 10
                have D6d := D4.belowc (undrew_r (Below.refl _ W6)) 10
                obtain ⟨G2, hG2⟩ : ∃ G2, G2 = agV (vals (row.filter (inS O.key O.hi))) := ⟨_, rfl⟩
                have HG2 := Lib.hid hG2
                clear hG2
                obtain ⟨χ4, hχ4⟩ : ∃ χ4, χ4 = paint χ3 w3.heap.size 10 := ⟨_, rfl⟩
                rw [← hχ4] at P4 D4 P6d D6d
                have cS6 : ∀ W', (∃ d, W' = W6.drewN d) → C3 W' w2.heap.size (.slice rA row.length rcap) (.slice eA ks.length ecap) (.int .i64 limit) ∧ W'.cell? ⟨wr.heap.size + 1, 0, none⟩ = some (.int .u32 O.key) ∧ W'.cell? ⟨wr.heap.size + 1, 1, none⟩ = some (.int .u32 O.hi) := by
                  rintro W' ⟨d, rfl⟩
                  exact ⟨P4.c3.drew, (cells2 (D4 (wr.heap.size + 1, BoxS O.key O.hi) (by simp)).at_).1⟩
                clear j0 j1 j2 j3 j4 j5 p0 p1 p2 p3 q0 q1 P3 D3 P4 D4 hχ4 hW6
                have HC := Lib.hid (fun (W : World) (h : C3 W w2.heap.size (.slice rA row.length rcap) (.slice eA ks.length ecap) (.int .i64 limit) ∧ W.cell? ⟨wr.heap.size + 1, 0, none⟩ = some (.int .u32 O.key) ∧ W.cell? ⟨wr.heap.size + 1, 1, none⟩ = some (.int .u32 O.hi)) => (⟨⟨h.1.c0, h.1.c1, h.1.c2⟩, h.2⟩ : (W.cell? ⟨w2.heap.size, 0, none⟩ = some (.slice rA row.length rcap) ∧ W.cell? ⟨w2.heap.size, 1, none⟩ = some (.slice eA ks.length ecap) ∧ W.cell? ⟨w2.heap.size, 2, none⟩ = some (.int .i64 limit)) ∧ W.cell? ⟨wr.heap.size + 1, 0, none⟩ = some (.int .u32 O.key) ∧ W.cell? ⟨wr.heap.size + 1, 1, none⟩ = some (.int .u32 O.hi)))
                go_region_held3 (fun W => (W.cell? ⟨w2.heap.size, 0, none⟩ = some (.slice rA row.length rcap) ∧ W.cell? ⟨w2.heap.size, 1, none⟩ = some (.slice eA ks.length ecap) ∧ W.cell? ⟨w2.heap.size, 2, none⟩ = some (.int .i64 limit)) ∧ W.cell? ⟨wr.heap.size + 1, 0, none⟩ = some (.int .u32 O.key) ∧ W.cell? ⟨wr.heap.size + 1, 1, none⟩ = some (.int .u32 O.hi))
                  (first | exact HC.out _ c8 | exact HC.out _ c7 | exact HC.out _ (cS6 _ (by first | exact ⟨_, rfl⟩ | exact drewN_ex _ _ _ | exact drew_ex _ _)))
                  (first
                    | (go_at_call 11; have hS := P7; refine (refFold_calls _ _ _ limit row O.key O.hi P7.rr (by omega)).mono ?_; rw [← HG2.out]; simp only [Ag.val]; rintro e w8 ⟨rfl, hb8⟩; have P8' := P7.below hb8 10; have D8 := D7.belowc hb8 10; have c8 : C3 w8 w2.heap.size (.slice rA row.length rcap) (.slice eA ks.length ecap) (.int .i64 limit) ∧ w8.cell? ⟨wr.heap.size + 1, 0, none⟩ = some (.int .u32 O.key) ∧ w8.cell? ⟨wr.heap.size + 1, 1, none⟩ = some (.int .u32 O.hi) := ⟨P8'.c3, (cells2 (D8 (wr.heap.size + 1, BoxS O.key O.hi) (by simp)).at_).1⟩)
                    | (go_at_call 18; refine (s_fold _ O.key O.hi P6d.lw.tr).mono ?_; rw [← HG2.out]; simp only [Ag.val]; rintro e w7 ⟨rfl, hs⟩; obtain ⟨χ7, ag, ch, P7⟩ := P6d.call hs; have D7 := D6d.call ag ch; have c7 : C3 w7 w2.heap.size (.slice rA row.length rcap) (.slice eA ks.length ecap) (.int .i64 limit) ∧ w7.cell? ⟨wr.heap.size + 1, 0, none⟩ = some (.int .u32 O.key) ∧ w7.cell? ⟨wr.heap.size + 1, 1, none⟩ = some (.int .u32 O.hi) := ⟨P7.c3, (cells2 (D7 (wr.heap.size + 1, BoxS O.key O.hi) (by simp)).at_).1⟩))
                have hrl8 : row.length ≤ k + 1 := by omega
                obtain ⟨r8, hr8⟩ : ∃ r8, r8 = row := ⟨_, rfl⟩
                rw [← hr8] at hrl8
                obtain ⟨χ8, hχ8⟩ : ∃ χ8, χ8 = paint χ7 w7.heap.size 10 := ⟨_, rfl⟩
                rw [← hχ8] at P8'
                have hlen8 : ks.length ≤ k + 1 := by omega
                obtain ⟨ks8, hks8⟩ : ∃ ks8, ks8 = ks := ⟨_, rfl⟩
                rw [← hks8] at hlen8
                have P8 : Pl w χ8 w8 pt w2.heap.size limit r8 ks8 r8 ks8 (.slice rA row.length rcap) (.slice eA ks.length ecap) := by rw [hks8, hr8]; exact P8'
                clear hks8 hr8 P8' D8 c8 c7 P7 D7 ag ch hs P6d D6d cS6 HC hχ8
                have hlen8' : ks8.length ≤ 41 := by omega
                obtain ⟨j0, j1, j2, j3, j4, j5⟩ := P8.c3
                have hU8 := Lib.hid (fun d => P8.ru.keep (w' := w8.drewN d) (Same.below' (below_drewN w8 _ d)))
                have hN8 := Lib.hid (fun W h => refNodes_calls W (.slice eA ks.length ecap) ks8 (c := 40) (χ := χ8) h (by omega))
                have K9 := P8.lw.below (undrew_r (Below.refl _ w8)) 10
                have hnle := nodesI_le ks8 ks8.length
                obtain ⟨N8, hN8e⟩ : ∃ N8, N8 = nodesI ks8 ks8.length := ⟨_, rfl⟩
                rw [← hN8e] at hN8 K9 hnle
                clear hN8e
                go_wp2
                have hP8 : ∀ W', (∃ d, W' = w8.drewN d) → Pl w χ8 W' pt w2.heap.size limit r8 ks8 r8 ks8 _ _ := fun W' ⟨d, e⟩ => e ▸ P8.drew d
                have cX : ∀ W', (∃ d, W' = w8.drewN d) → W'.cell? ⟨w2.heap.size, 1, none⟩ = some (.slice eA ks.length ecap) := fun W' h => (hP8 W' h).c3.c1
                first
                  | (go_region_held3 (fun W' => W'.cell? ⟨w2.heap.size, 1, none⟩ = some (.slice eA ks.length ecap))
                      (exact cX _ (by first | exact ⟨_, rfl⟩ | exact drewN_ex _ _ _ | exact drew_ex _ _))
                      (first
                        | (go_at_call 21; refine (hN8.out _ (by first | exact hU8.out 0 | exact hU8.out 1 | exact hU8.out _)).mono ?_; rintro e w10 ⟨rfl, d, rfl⟩)
                        | (go_at_call 20; refine (s_nodes _ K9.tr).mono ?_; rintro e w9 ⟨rfl, rfl⟩)))
                  | fail
                all_goals go_wp2
                all_goals refine ⟨⟨k + 1, χ8, r8, ks8, _, _, hlt, by go_num, hrl8, hlen8, hP8 _ (by first | exact ⟨_, rfl⟩ | exact drewN_ex _ _ _ | exact drew_ex _ _)⟩, by simp [intOf]; omega⟩
              · skip
                by_cases k5 : O.kind = 5
                · go_wp2_with fail
                  refine (s_get _ O.key P4.lw.tr).mono ?_
                  rw [← HG.out]
                  rintro e w8 ⟨rfl, hs⟩
                  obtain ⟨χ8, ag, ch, P8'⟩ := P4.call hs
                  have D8 := D4.call ag ch
                  clear j0 j1 j2 j3 j4 j5 p0 p1 p2 p3 q0 q1 P3 D3 P4 D4
                  obtain ⟨⟨p0, p1, p2, p3⟩, -⟩ := cells4 (D8 (w3.heap.size, BoxA G) (by simp)).at_
                  have hrl8 : row.length ≤ k + 1 := by omega
                  obtain ⟨r8, hr8⟩ : ∃ r8, r8 = row := ⟨_, rfl⟩
                  rw [← hr8] at hrl8
                  have hlen8 : ks.length ≤ k + 1 := by omega
                  obtain ⟨ks8, hks8⟩ : ∃ ks8, ks8 = ks := ⟨_, rfl⟩
                  rw [← hks8] at hlen8
                  have P8 : Pl w χ8 w8 pt w2.heap.size limit r8 ks8 r8 ks8 (.slice rA row.length rcap) (.slice eA ks.length ecap) := by rw [hks8, hr8]; exact P8'
                  clear hks8 hr8 P8' D8 ag ch hs
                  have hlen8' : ks8.length ≤ 41 := by omega
                  obtain ⟨j0, j1, j2, j3, j4, j5⟩ := P8.c3
                  have hU8 := Lib.hid (fun d => P8.ru.keep (w' := w8.drewN d) (Same.below' (below_drewN w8 _ d)))
                  have hN8 := Lib.hid (fun W h => refNodes_calls W (.slice eA ks.length ecap) ks8 (c := 40) (χ := χ8) h (by omega))
                  have K9 := P8.lw.below (undrew_r (Below.refl _ w8)) 10
                  have hnle := nodesI_le ks8 ks8.length
                  obtain ⟨N8, hN8e⟩ : ∃ N8, N8 = nodesI ks8 ks8.length := ⟨_, rfl⟩
                  rw [← hN8e] at hN8 K9 hnle
                  clear hN8e
                  go_wp2
                  have hP8 : ∀ W', (∃ d, W' = w8.drewN d) → Pl w χ8 W' pt w2.heap.size limit r8 ks8 r8 ks8 _ _ := fun W' ⟨d, e⟩ => e ▸ P8.drew d
                  have cX : ∀ W', (∃ d, W' = w8.drewN d) → W'.cell? ⟨w2.heap.size, 1, none⟩ = some (.slice eA ks.length ecap) := fun W' h => (hP8 W' h).c3.c1
                  first
                    | (go_region_held3 (fun W' => W'.cell? ⟨w2.heap.size, 1, none⟩ = some (.slice eA ks.length ecap))
                        (exact cX _ (by first | exact ⟨_, rfl⟩ | exact drewN_ex _ _ _ | exact drew_ex _ _))
                        (first
                          | (go_at_call 21; refine (hN8.out _ (by first | exact hU8.out 0 | exact hU8.out 1 | exact hU8.out _)).mono ?_; rintro e w10 ⟨rfl, d, rfl⟩)
                          | (go_at_call 20; refine (s_nodes _ K9.tr).mono ?_; rintro e w9 ⟨rfl, rfl⟩)))
                    | fail
                  all_goals go_wp2
                  all_goals refine ⟨⟨k + 1, χ8, r8, ks8, _, _, hlt, by go_num, hrl8, hlen8, hP8 _ (by first | exact ⟨_, rfl⟩ | exact drewN_ex _ _ _ | exact drew_ex _ _)⟩, by simp [intOf]; omega⟩
                · skip
                  obtain ⟨w8, hw8⟩ : ∃ w8, w8 = w3.alloc (BoxA G) := ⟨_, rfl⟩
                  obtain ⟨χ8, hχ8⟩ : ∃ χ8, χ8 = paint χ3 w3.heap.size 10 := ⟨_, rfl⟩
                  rw [← hw8, ← hχ8] at P4
                  clear D4 q0 q1 P3 D3 hχ8
                  have hrl8 : row.length ≤ k + 1 := by omega
                  obtain ⟨r8, hr8⟩ : ∃ r8, r8 = row := ⟨_, rfl⟩
                  rw [← hr8] at hrl8
                  have hlen8 : ks.length ≤ k + 1 := by omega
                  obtain ⟨ks8, hks8⟩ : ∃ ks8, ks8 = ks := ⟨_, rfl⟩
                  rw [← hks8] at hlen8
                  have P8 : Pl w χ8 w8 pt w2.heap.size limit r8 ks8 r8 ks8 (.slice rA row.length rcap) (.slice eA ks.length ecap) := by rw [hks8, hr8]; exact P4
                  clear hks8 hr8 P4
                  have hlen8' : ks8.length ≤ 41 := by omega
                  have hU8 := Lib.hid (fun d => P8.ru.keep (w' := w8.drewN d) (Same.below' (below_drewN w8 _ d)))
                  have hN8 := Lib.hid (fun W h => refNodes_calls W (.slice eA ks.length ecap) ks8 (c := 40) (χ := χ8) h (by omega))
                  have K9 := P8.lw.below (undrew_r (Below.refl _ w8)) 10
                  have hnle := nodesI_le ks8 ks8.length
                  obtain ⟨N8, hN8e⟩ : ∃ N8, N8 = nodesI ks8 ks8.length := ⟨_, rfl⟩
                  rw [← hN8e] at hN8 K9 hnle
                  clear hN8e
                  go_wp2
                  rw [← hw8]
                  clear hw8
                  have hP8 : ∀ W', (∃ d, W' = w8.drewN d) → Pl w χ8 W' pt w2.heap.size limit r8 ks8 r8 ks8 _ _ := fun W' ⟨d, e⟩ => e ▸ P8.drew d
                  have cX : ∀ W', (∃ d, W' = w8.drewN d) → W'.cell? ⟨w2.heap.size, 1, none⟩ = some (.slice eA ks.length ecap) := fun W' h => (hP8 W' h).c3.c1
                  first
                    | (go_region_held3 (fun W' => W'.cell? ⟨w2.heap.size, 1, none⟩ = some (.slice eA ks.length ecap))
                        (exact cX _ (by first | exact ⟨_, rfl⟩ | exact drewN_ex _ _ _ | exact drew_ex _ _))
                        (first
                          | (go_at_call 21; refine (hN8.out _ (by first | exact hU8.out 0 | exact hU8.out 1 | exact hU8.out _)).mono ?_; rintro e w10 ⟨rfl, d, rfl⟩)
                          | (go_at_call 20; refine (s_nodes _ K9.tr).mono ?_; rintro e w9 ⟨rfl, rfl⟩)))
                    | fail
                  all_goals go_wp2
                  all_goals refine ⟨⟨k + 1, χ8, r8, ks8, _, _, hlt, by go_num, hrl8, hlen8, hP8 _ (by first | exact ⟨_, rfl⟩ | exact drewN_ex _ _ _ | exact drew_ex _ _)⟩, by simp [intOf]; omega⟩
    · have hrl' : row.length ≤ 40 := by omega
      obtain ⟨rA, rcap, rfl, -⟩ := id P.rr
      obtain ⟨eA, ecap, rfl, -⟩ := id P.ru
      obtain ⟨q, hq⟩ : ∃ q : Nat, bits .and .i64 most 7 = (q : Int) := ⟨(most % 8).toNat, by rw [i64_and7]; omega⟩
      have hqs : (row.take (q : Int).toNat).length = min q row.length := by simp
      have P9 := P.below (undrew_r (Below.refl _ wr)) 10
      have cX : ∀ W', (∃ d, W' = wr.drewN d) → W'.cell? ⟨w2.heap.size, 0, none⟩ = some (.slice rA row.length rcap) := by rintro W' ⟨d, rfl⟩; exact P.c3.drew.c0
      have hb9 := P.lw.bel
      clear P
      have G0 : True := trivial
      go_wp2
      first
        | (go_region_held3 (fun W' => W'.cell? ⟨w2.heap.size, 0, none⟩ = some (.slice rA row.length rcap))
            (first | exact cX _ (by first | exact ⟨_, rfl⟩ | exact drewN_ex _ _ _ | exact drew_ex _ _) | exact c10 | exact c11 | exact c12)
            (first
              | (go_at_call 23; have hS := P11; (try rw [hq]); refine (s_pairs1 _ (q : Int) 22 P11.lw (by decide) (by omega)).mono ?_; rintro e w12 ⟨A3, cap3, χ12, rfl, ag12, ch12, I12, -⟩; have c12 : w12.cell? ⟨w2.heap.size, 0, none⟩ = some (.slice rA row.length rcap) := (P11.c3.block (ch12.blk _ P11.c3.lt (by rw [P11.xc]; omega))).c0; simp only [hqs])
              | (go_at_call 22; refine (same_calls _ _ _ row I10.rd P10.rr).mono ?_; rintro e w11 ⟨rfl, d, rfl⟩; have P11 := P10.drew d; have c11 := P11.c3.c0)
              | (go_at_call 23; clear G0; refine (s_pairs1 _ 1000 20 P9.lw (by decide) (by omega)).mono ?_; rintro e w10 hs; obtain ⟨A2, cap2, χ10, rfl, ag, ch, K10, I10⟩ := P9.lw.pairs hs (by omega); have P10 := P9.chg ag ch K10; have c10 := P10.c3.c0)))
        | fail
      all_goals go_wp2
      all_goals go_ret
      all_goals exact ⟨ret_bool (by simp; omega), P11.lw.bel.trans (ch12.below (fun b hb e => by rw [P11.lw.low b hb] at e; omega) P11.lw.bel.size)⟩
end Go.Proofs.Ytcdldjiogoapkaa
