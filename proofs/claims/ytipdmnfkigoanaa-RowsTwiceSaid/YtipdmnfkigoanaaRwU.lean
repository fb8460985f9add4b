import Derived.Test.YtipdmnfkigoanaaRwT
namespace Go.Proofs.Ytipdmnfkigoanaa
open Go.RowKit Go.Maps
attribute [local go_sem] World.cell?_alloc_some frozen_alloc_some

/-! RowsTwice. -/
theorem twice_no (w : World) (v va : Value) (ops : List OpR) (a : Ar) (hs : IsO w v ops) (ha : RdA w va a) (h : 60 < ops.length ∨ (ops.length ≤ 60 ∧ fewB a = false)) :
    Calls Try.prog 4 #[v, va] w fun e w' => e = .returned (.bool true) ∧ Below w.heap.size w w' := by
  obtain ⟨A, cap, rfl, a1, a2, a3, -⟩ := id hs
  obtain ⟨A1, cap1, rfl, -⟩ := id ha
  unfold maxLen at a2
  have HA := Lib.hid ha
  clear hs ha
  rcases h with h | ⟨h, h2⟩
  · go_enter Try.func4, Try.ntmps4
    go_wp2_with fail
    refine (alive_calls _).mono ?_
    rintro e w1 ⟨rfl, hb1⟩
    go_wp2
    go_ret
    exact ⟨rfl, hb1⟩
  · have HF := Lib.hid h2
    clear h2
    go_enter Try.func4, Try.ntmps4
    go_wp2_with fail
    refine (alive_calls _).mono ?_
    rintro e w1 ⟨rfl, hb1⟩
    go_wp2_with fail
    refine (few_calls _ _ a (HA.out.keep hb1)).mono ?_
    rw [HF.out]
    rintro e w2 ⟨rfl, rfl⟩
    go_wp2
    go_ret
    exact ⟨rfl, hb1⟩
set_option maxRecDepth 100000 in
set_option maxHeartbeats 16000000 in
theorem twice_yes (w : World) (v va : Value) (ops : List OpR) (a : Ar) (hs : IsO w v ops) (ha : RdA w va a) (h60 : ops.length ≤ 60) (fa : fewB a = true) :
    Calls Try.prog 4 #[v, va] w fun e w' => e = .returned (.bool true) ∧ Below w.heap.size w w' := by
  obtain ⟨A, cap, rfl, a1, a2, a3, -⟩ := id hs
  obtain ⟨A1, cap1, rfl, -⟩ := id ha
  unfold maxLen at a2
  have HS := Lib.hid hs
  have HA := Lib.hid ha
  have HFA := Lib.hid fa
  have hmm := @run_makeMap Try.prog
  clear hs ha fa
  go_enter Try.func4, Try.ntmps4
  go_wp2_with fail
  refine (alive_calls _).mono ?_
  rintro e w1 ⟨rfl, hb1⟩
  go_wp2_with fail
  refine (few_calls _ _ a (HA.out.keep hb1)).mono ?_
  rw [HFA.out]
  rintro e w2 ⟨rfl, rfl⟩
  have K := Lr.new w w2 (fun _ => 0) hb1 fun _ _ => rfl
  have hs1 := hb1.size
  have K0 := K.below ((Below.refl _ _).alloc (Nat.le_refl _) (.map #[] 0)) 5
  have M0 : Mk w.heap.size (paint (paint (fun _ => 0) w2.heap.size 1) (w2.alloc (.cells #[.map none, .map none, .int .i64 0] 29)).heap.size 5) _ _ 0 (verO []) := ⟨by rw [World.size_alloc]; omega, by rw [paint_high (Nat.le_refl _)]; omega, MapF.made (w2.alloc (.cells #[.map none, .map none, .int .i64 0] 29))⟩
  rw [World.size_alloc] at M0 K0
  clear hb1 K hs1
  go_wp2
  obtain ⟨W0, hW0⟩ : ∃ W, W = (w2.alloc (.cells #[.map none, .map none, .int .i64 0] 29)).alloc (.map #[] 0) := ⟨_, rfl⟩
  rw [← hW0] at K0 M0 ⊢
  obtain ⟨mb, hmb⟩ : ∃ b, b = w2.heap.size + 1 := ⟨_, rfl⟩
  obtain ⟨χ0, hχ0⟩ : ∃ χ, χ = paint (paint (fun _ => 0) w2.heap.size 1) (w2.heap.size + 1) 5 := ⟨_, rfl⟩
  rw [← hχ0] at K0 M0
  rw [← hmb] at M0 ⊢
  obtain ⟨rb, hrb⟩ : ∃ b, b = w2.heap.size := ⟨_, rfl⟩
  rw [← hrb] at K0 ⊢
  clear hW0 hrb hmb hχ0
  go_loopw [35] (fun iv wr => ∃ (k last n : Nat) (χ : Col) (L : RL) (ev : List Cl), k ≤ ops.length ∧ iv = .int .i64 k ∧ last ≤ k ∧ n ≤ k ∧ Lr w χ wr rb L ev last ∧ Mk w.heap.size χ wr mb n (verO L)) (fun iv _ => ops.length - (intOf iv).toNat)
  case atStart => exact ⟨0, 0, 0, _, [], [], by omega, rfl, by omega, by omega, K0, M0⟩
  case round =>
    clear K0 M0
    obtain ⟨k, last, n, χ, L, ev, hk, rfl, hlk, hnk, K, M⟩ := hrel
    obtain ⟨wo, rfl⟩ : ∃ wo, wo = wr := ⟨_, rfl⟩
    by_cases hlt : k < ops.length
    · obtain ⟨gb, go, rfl, p0, p1, p2⟩ := (HS.out.keep K.bel).get k hlt
      obtain ⟨⟨kd, x⟩, hx⟩ : ∃ o, o = ops[k] := ⟨_, rfl⟩
      rw [← hx] at p0 p1 p2
      have hb3 := (Below.refl wo.heap.size wo).alloc (Nat.le_refl _) (.cells #[.int .i64 kd, .int .i64 x.lab, .int .u32 x.key] 38)
      have K1 := K.below hb3 5
      have M1 := M.below hb3 5
      have D1 : Dk (paint χ wo.heap.size 5) _ wo.heap.size _ := ⟨by rw [paint_high (Nat.le_refl _)]; omega, heap_alloc_at wo (.cells #[.int .i64 kd, .int .i64 x.lab, .int .u32 x.key] 38)⟩
      have hbsz := K.bel.size
      clear K M hx hb3
      have HWF := Lib.hid K1.wf
      have hput : ∀ kk : Int, kk = kd → (kk = 0 ∨ kk = 1) → True := fun _ _ _ => trivial
      rcases (by omega : kd = 0 ∨ kd = 1 ∨ kd = 2 ∨ (kd ≠ 0 ∧ kd ≠ 1 ∧ kd ≠ 2)) with rfl | rfl | rfl | ⟨h0, h1, h2⟩
      iterate 2
        · go_wp2_with fail
          refine (l_put K1 x _ rfl (by omega)).mono ?_
          rintro e w3 ⟨rfl, hs⟩
          obtain ⟨χ3, ag, ch, K3⟩ := K1.turn hs
          have M3 := M1.turn ag ch
          have D3 := D1.turn ag ch
          have hbs3 := K3.bel.size
          clear K1 M1 D1 hs ag ch p0 p1 p2
          go_wp2_with (at_range; refine wpList_rangeF rfl _ rfl Try.underlying26 rfl M3.map ?_; intro w4 c4 hrg4 hg4 hs4)
          have K4 := K3.below (grown_below0 hg4) 5
          have R4 := M3.range hbs3 hrg4
          have D4 := D3.below (grown_below0 hg4) 5
          obtain ⟨χ4, hχ4⟩ : ∃ χ, χ = paint χ3 w3.heap.size 5 := ⟨_, rfl⟩
          rw [← hχ4] at K4 R4 D4
          obtain ⟨rr, hrr⟩ : ∃ b, b = w3.heap.size := ⟨_, rfl⟩
          rw [← hrr] at R4 ⊢
          clear K3 M3 D3 hrg4 hg4 hs4 hχ4 hrr hbs3
          go_frame
          go_loopw [11] (fun _ w5 => ∃ (left : Cl → Bool) (cnt : Nat) (χ : Col), Lr w χ w5 rb (putR x ((last + 1 : Nat) : Int) L) (addR x ev) (last + 1) ∧ Rk w.heap.size χ w5 mb rr n (verO L) left cnt ∧ Dk χ w5 wo.heap.size (.cells #[.int .i64 _, .int .i64 x.lab, .int .u32 x.key] 38)) (fun _ w5 => w5.rangeLeft mb rr)
          case atStart => exact ⟨_, _, _, K4, R4, D4⟩
          case round =>
            clear K4 R4 D4
            obtain ⟨left, cnt, χ, K, R, D⟩ := hrel
            go_wp2_with (at_next; refine wpList_nextC rfl _ rfl rfl R.rg ?_ ?_)
            · intro hl0
              have M := R.mk_
              obtain ⟨⟨x0, x1, x2⟩, -⟩ := cells3 D.at_
              clear R D hl0
              go_wp2_with (at_mapUpdate; refine wpList_put rfl _ _ _ rfl Try.underlying26 rfl M.map (by unfold maxLen; omega) x ((last + 1 : Nat) : Int) rfl rfl trivial ?_; intro w6 hm6 hg6)
              have K6 := K.grown hg6 M.col M.hi
              have M6 : Mk w.heap.size (paint χ _ 5) w6 mb (n + 1) (verO (putR x ((last + 1 : Nat) : Int) L)) := ⟨M.hi, by rw [paint_low M.map.lt]; exact M.col, by rw [verO_put]; exact hm6⟩
              exact ⟨⟨k + 1, last + 1, n + 1, _, _, _, hlt, by go_num, by omega, by omega, K6, M6⟩, by simp [intOf]; omega⟩
            · intro y s w5 cnt5 hly hF hrg5 hlt5 hg5 hs5 hen
              have hle := (HWF.out.rng (y, s) (verO_mem hF)).2
              have K5 := K.grown hg5 R.col2 R.hi2
              have R5 := R.next hrg5
              have D5 := D.grown hg5 (fun e => by
                have h1 := D.at_
                obtain ⟨D0, lf, ⟨es, cl, si, se, c0, -, -, -, -, h2, -⟩, -⟩ := R.rg
                rw [e, h2] at h1; cases h1)
              have HLE := Lib.hid R.rg.left_eq
              have HLT := Lib.hid hlt5
              have gs : (s == (last : Int) + 1) = false := by simp at hle ⊢; omega
              clear K R D hrg5 hg5 hs5 hly hlt5 hF
              go_wp2
              exact ⟨⟨_, cnt5, _, K5, R5, D5⟩, by rw [R5.rg.left_eq, HLE.out]; exact HLT.out⟩
      · obtain ⟨q, hq⟩ : ∃ q, (verO L x).isSome = q := ⟨_, rfl⟩
        obtain ⟨v0, hv0⟩ : ∃ v0, v0 = (verO L x).getD 0 := ⟨_, rfl⟩
        have HV : Hid (erV.val ((verO L x).getD 0) = .int .i64 v0) := by show _ = _; rw [← hv0]; rfl
        have HQ : Hid ((verO L x).isSome = q) := hq
        have gq : (q != q) = false := by simp
        clear hq hv0
        obtain ⟨⟨x0, x1, x2⟩, -⟩ := cells3 D1.at_
        go_wp2_with (first | (at_lookup; refine wpList_lookV rfl _ _ rfl Try.underlying26 0 (zeroV _) rfl M1.map x rfl trivial _ _ HV.out HQ.out ?_) | fail)
        refine (l_drop K1 x q HQ.out).mono ?_
        rintro e w3 ⟨rfl, hs⟩
        obtain ⟨χ3, ag, ch, K3⟩ := K1.turn hs
        have M3 := M1.turn ag ch
        have D3 := D1.turn ag ch
        obtain ⟨⟨y0, y1, y2⟩, -⟩ := cells3 D3.at_
        clear K1 M1 D1 hs ag ch p0 p1 p2 x0 x1 x2
        go_wp2_with (at_delete; refine wpList_del rfl _ _ rfl Try.underlying26 rfl M3.map x rfl trivial ?_; intro w4 hm4 hg4)
        have K4 := K3.grown hg4 M3.col M3.hi
        have M4 : Mk w.heap.size (paint χ3 _ 5) w4 mb n (verO (dropR x L)) := ⟨M3.hi, by rw [paint_low M3.map.lt]; exact M3.col, by rw [verO_drop]; exact hm4⟩
        exact ⟨⟨k + 1, last, n, _, _, _, hlt, by go_num, by omega, by omega, K4, M4⟩, by simp [intOf]; omega⟩
      · have g0 : (kd == 0) = false := by simpa using h0
        have g1 : (kd == 1) = false := by simpa using h1
        have g2 : (kd == 2) = false := by simpa using h2
        go_wp2
        exact ⟨⟨k + 1, last, n, _, _, _, hlt, by go_num, by omega, by omega, K1, M1⟩, by simp [intOf]; omega⟩
    · have hl60 : last ≤ 60 := by omega
      clear HS
      have HWF := Lib.hid K.wf
      have hLl := K.len
      have hbs := K.bel.size
      go_wp2_with (at_range; refine wpList_rangeF rfl _ rfl Try.underlying26 rfl M.map ?_; intro w4 c4 hrg4 hg4 hs4)
      have K4 := K.below (grown_below0 hg4) 5
      have R4 := M.range hbs hrg4
      obtain ⟨χ4, hχ4⟩ : ∃ χ', χ' = paint χ wo.heap.size 5 := ⟨_, rfl⟩
      rw [← hχ4] at K4 R4
      obtain ⟨rr, hrr⟩ : ∃ b, b = wo.heap.size := ⟨_, rfl⟩
      rw [← hrr] at R4 ⊢
      clear K M hrg4 hg4 hs4 hχ4 hrr hbs
      go_frame
      go_loopw [15] (fun _ w5 => ∃ (left : Cl → Bool) (cnt : Nat) (χ : Col), Lr w χ w5 rb L ev last ∧ Rk w.heap.size χ w5 mb rr n (verO L) left cnt) (fun _ w5 => w5.rangeLeft mb rr)
      case atStart => exact ⟨_, _, _, K4, R4⟩
      case round =>
        clear K4 R4
        obtain ⟨left, cnt, χ, K, R⟩ := hrel
        obtain ⟨wi, rfl⟩ : ∃ wi, wi = wr := ⟨_, rfl⟩
        go_wp2_with (at_next; refine wpList_nextC rfl _ rfl rfl R.rg ?_ ?_)
        · intro hl0
          have M := R.mk_
          clear R hl0
          go_wp2_with fail
          refine (l_in K _ a (HA.out.keep K.bel) (by omega)).mono ?_
          rintro e w6 ⟨vi, rfl, hi, hb6⟩
          have K6 := K.below hb6 5
          have M6 := M.below hb6 5
          clear K M hb6
          obtain ⟨Ai, ci, rfl⟩ := hi.form
          have HI := Lib.hid (hi.mono (Nat.zero_le _))
          have HUP := Lib.hid (inR_up (a := a) HWF.out)
          have hil : (inR a L).length ≤ 60 := by unfold inR; rw [List.length_map]; exact Nat.le_trans (List.length_filter_le _ _) (by omega)
          have HCT := Lib.hid (fun (ks : List Cl) hn hk => count_in (a := a) HWF.out (ks := ks) hn hk)
          obtain ⟨xs, hxs⟩ : ∃ xs, xs = inR a L := ⟨_, rfl⟩
          rw [← hxs] at HI HUP HCT hil
          simp only [← hxs]
          clear hxs hi
          go_wp2
          go_loopw [19] (fun iv w7 => ∃ j : Nat, 1 ≤ j ∧ j ≤ max 1 xs.length ∧ iv = .int .i64 j ∧ Below w6.heap.size w6 w7) (fun iv _ => xs.length - (intOf iv).toNat)
          case atStart => exact ⟨1, by omega, by omega, rfl, Below.refl _ _⟩
          case round =>
            obtain ⟨j, hj1, hj, rfl, hB⟩ := hrel
            obtain ⟨w7, rfl⟩ : ∃ w7, w7 = wr := ⟨_, rfl⟩
            by_cases hltj : j < xs.length
            · obtain ⟨g, cg, eg, -⟩ := HI.out.at_ (by omega)
              cases eg
              have z1 := (HI.out.keep hB).cell j hltj
              have z2 := (HI.out.keep hB).cell (j - 1) (by omega)
              have hlt2 := List.pairwise_iff_getElem.1 HUP.out (j - 1) j (by omega) hltj (by omega)
              obtain ⟨s1, hs1⟩ : ∃ s, s = xs[j] := ⟨_, rfl⟩
              obtain ⟨s2, hs2⟩ : ∃ s, s = xs[j - 1]'(by omega) := ⟨_, rfl⟩
              rw [← hs1] at z1 hlt2
              rw [← hs2] at z2 hlt2
              obtain ⟨i, hi⟩ : ∃ i, i = j - 1 := ⟨_, rfl⟩
              rw [← hi] at z2
              have hij : ((j : Int) - 1) = (i : Int) := by omega
              have hil2 : i < xs.length := by omega
              have hwj : wrap64 ((j : Int) - 1) = (i : Int) := by unfold wrap64; omega
              have gd : decide (s1 ≤ s2) = false := by simp; omega
              clear hs1 hs2 hi
              go_wp2
              go_quiet (fail)
              go_wp2
              exact ⟨⟨j + 1, by omega, by omega, by go_num, hB.trans (below_drewN _ _ _)⟩, by simp [intOf]; omega⟩
            · have K7 := K6.below hB 5
              have M7 := M6.below hB 5
              have hbs := K7.bel.size
              clear K6 M6 HI HUP hB
              go_wp2_with (at_range; refine wpList_rangeF rfl _ rfl Try.underlying26 rfl M7.map ?_; intro w8 c8 hrg8 hg8 hs8)
              obtain ⟨χ8, K8, R8⟩ : ∃ χ', Lr w χ' w8 rb L ev last ∧ Rk w.heap.size χ' w8 mb w7.heap.size n (verO L) (fun x => (verO L x).isSome) c8 := ⟨_, K7.below (grown_below0 hg8) 5, M7.range hbs hrg8⟩
              obtain ⟨r2, hr2⟩ : ∃ b, b = w7.heap.size := ⟨_, rfl⟩
              rw [← hr2] at R8 ⊢
              clear K7 M7 hrg8 hg8 hs8 hr2 hbs
              go_frame
              go_loopw [20] (fun nv w9 => ∃ (left : Cl → Bool) (cnt : Nat) (χ : Col) (ks : List Cl), Lr w χ w9 rb L ev last ∧ Rk w.heap.size χ w9 mb r2 n (verO L) left cnt ∧ nv = .int .i64 (ks.filter fun x => inA a x.lab x.key).length ∧ ks.Nodup ∧ Hid (∀ x, x ∈ ks ↔ (verO L x).isSome = true ∧ left x = false)) (fun _ w9 => w9.rangeLeft mb r2)
              case atStart => exact ⟨_, _, _, [], K8, R8, rfl, List.nodup_nil, Lib.hid fun x => by simp only [List.not_mem_nil, false_iff, not_and]; intro h; rw [h]; simp⟩
              case round =>
                clear K8 R8
                obtain ⟨left, cnt, χ, ks, K, R, rfl, hnd, hks⟩ := hrel
                obtain ⟨w9, rfl⟩ : ∃ w9, w9 = wr := ⟨_, rfl⟩
                have hkl : ks.length ≤ L.length := by
                  have := nodup_le hnd (m := L.map (·.1)) fun x hx => verO_isSome.1 ((hks.out x).1 hx).1
                  simpa using this
                have hfl : (ks.filter fun x => inA a x.lab x.key).length ≤ ks.length := List.length_filter_le _ _
                go_wp2_with (at_next; refine wpList_nextC rfl _ rfl rfl R.rg ?_ ?_)
                · intro hl0
                  have hc := HCT.out ks hnd fun x => by rw [hks.out x]; simp [hl0 x]
                  have M := R.mk_
                  obtain ⟨m', hm', -, hlen⟩ := M.map.len Try.underlying26
                  obtain rfl := hm'.uniq (verO_card HWF.out.nd) fun _ => rfl
                  have gz : ((L.length : Int) == L.length) = true := by simp
                  have ge : ((xs.length : Int) == ((ks.filter fun x => inA a x.lab x.key).length : Int)) = true := by simp; omega
                  clear R hl0 hc hm'
                  go_wp2_with fail
                  refine (l_live K _ rfl).mono ?_
                  rintro e w10 ⟨rfl, rfl⟩
                  go_wp2
                  go_ret
                  exact ⟨rfl, K.bel⟩
                · intro y s w5 cnt5 hly hF hrg5 hlt5 hg5 hs5 hen
                  have K5 := K.grown hg5 R.col2 R.hi2
                  have R5 := R.next hrg5
                  have HLE := Lib.hid R.rg.left_eq
                  have HLT := Lib.hid hlt5
                  have hkn : y ∉ ks := fun hm => by have := ((hks.out y).1 hm).2; rw [hly] at this; cases this
                  have HK2 : Hid (∀ z, z ∈ ks ++ [y] ↔ (verO L z).isSome = true ∧ (left z && !decide (z = y)) = false) := Lib.hid fun z => by
                    rw [List.mem_append, hks.out z, List.mem_singleton]
                    by_cases e : z = y
                    · subst e; simp [hF]
                    · simp [e]
                  have HND : Hid ((ks ++ [y]).Nodup) := by
                    show List.Nodup _
                    rw [List.nodup_append]
                    exact ⟨hnd, by simp, fun a ha b hb => by simp at hb; subst hb; exact fun e => hkn (e ▸ ha)⟩
                  have hb7 := (Below.refl w5.heap.size w5).alloc (Nat.le_refl _) (.cells #[.int .i64 y.lab, .int .u32 y.key] 36)
                  have K7 := K5.below hb7 5
                  have R7 := R5.below hb7 5
                  obtain ⟨q, hq⟩ : ∃ q, q = inA a y.lab y.key := ⟨_, rfl⟩
                  have HQ := Lib.hid hq
                  have HFL : Hid ((ks ++ [y]).filter (fun x => inA a x.lab x.key) = ks.filter (fun x => inA a x.lab x.key) ++ (if q then [y] else [])) := by
                    show _ = _
                    rw [List.filter_append, hq]
                    congr 1
                    simp only [List.filter_cons, List.filter_nil]
                  obtain ⟨m, hm⟩ : ∃ m, m = (ks.filter fun x => inA a x.lab x.key).length := ⟨_, rfl⟩
                  rw [← hm] at hfl ⊢
                  have HM := Lib.hid hm
                  clear K R hrg5 hg5 hs5 hly hlt5 hF K5 R5 hb7 hq hm
                  go_wp2_with fail
                  refine (refhas_calls _ _ a y.lab y.key (HA.out.keep K7.bel) y.wk).mono ?_
                  rw [← HQ.out]
                  rintro e w8 ⟨rfl, hb8⟩
                  have K8 := K7.below hb8 5
                  have R8 := R7.below hb8 5
                  cases q
                  · go_wp2
                    exact ⟨⟨_, cnt5, _, ks ++ [y], K8, R8, by rw [HFL.out, HM.out]; simp, HND.out, HK2⟩, by rw [R8.rg.left_eq, HLE.out]; exact HLT.out⟩
                  · go_wp2
                    exact ⟨⟨_, cnt5, _, ks ++ [y], K8, R8, by rw [HFL.out, HM.out]; simp, HND.out, HK2⟩, by rw [R8.rg.left_eq, HLE.out]; exact HLT.out⟩
        · intro y s w5 cnt5 hly hF hrg5 hlt5 hg5 hs5 hen
          have K5 := K.grown hg5 R.col2 R.hi2
          have R5 := R.next hrg5
          have HLE := Lib.hid R.rg.left_eq
          have HLT := Lib.hid hlt5
          have gs : (s != s) = false := by simp
          have hb7 := (Below.refl w5.heap.size w5).alloc (Nat.le_refl _) (.cells #[.int .i64 y.lab, .int .u32 y.key] 36)
          have K7 := K5.below hb7 5
          have R7 := R5.below hb7 5
          have HF := Lib.hid hF
          clear K R hrg5 hg5 hs5 hly hlt5 hF K5 R5 hb7
          go_wp2_with fail
          refine (l_ver K7 y s true (by rw [HF.out]; rfl) (by rw [HF.out]; rfl)).mono ?_
          rintro e w8 ⟨rfl, hb8⟩
          have K8 := K7.below hb8 5
          have R8 := R7.below hb8 5
          go_wp2
          exact ⟨⟨_, cnt5, _, K8, R8⟩, by rw [R8.rg.left_eq, HLE.out]; exact HLT.out⟩
theorem twice_law (w : World) (v va : Value) (ops : List OpR) (a : Ar) (hs : IsO w v ops) (ha : RdA w va a) :
    Calls Try.prog 4 #[v, va] w fun e w' => e = .returned (.bool true) ∧ Below w.heap.size w w' := by
  by_cases h : ops.length ≤ 60
  · cases fa : fewB a with
    | false => exact twice_no w v va ops a hs ha (.inr ⟨h, fa⟩)
    | true => exact twice_yes w v va ops a hs ha h fa
  · exact twice_no w v va ops a hs ha (.inl (by omega))
end Go.Proofs.Ytipdmnfkigoanaa
