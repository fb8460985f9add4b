import Derived.Test.YtcdldjiogoapkaaSgCA
import Derived.OpenShut
namespace Go.Proofs.Ytcdldjiogoapkaa
open Go.RowKit Go.Maps
attribute [local go_sem] World.cell?_alloc_some frozen_alloc_some field_na field_ac field_as

/-! SegtreeKeys. -/
abbrev IsV (w : World) (v : Value) (xs : List Int) : Prop := IsL 1 (fun χ w cs x => rInt .i64 χ w cs x ∧ wrap64 x = x) 0 (fun _ => 0) w v xs
theorem IsL.getV {w : World} {A : Option Addr} {cap n : Nat} {xs : List Int} (h : IsV w (.slice A n cap) xs) (i : Nat) (hi : i < xs.length) :
    ∃ b o, A = some ⟨b, o, none⟩ ∧ w.cell? ⟨b, o + i, none⟩ = some (.int .i64 xs[i]) ∧ wrap64 xs[i] = xs[i] := by
  obtain ⟨A', c', e, h1, h2, h3, h4⟩ := h
  cases e
  obtain ⟨b, o, cs, e, hb, hl, ⟨rfl, hr⟩, hc⟩ := h4 i hi
  exact ⟨b, o, e, by simpa using hc 0 (by simp), hr⟩
theorem xor_one (k : Nat) : ∃ x : Nat, bits .xor .u32 k 1 = x ∧ x < 4294967296 := by
  have h := wf_bits .xor .u32 k 1
  obtain ⟨x, e, hx⟩ := u32_nat h
  exact ⟨x, e, hx⟩
theorem has_calls (w : World) {mb n : Nat} {F : Int → Option Int} (h : MapF krK erK w mb n F) (x : Int) (hx : krK.ok x) (q : Bool) (hq : (F x).isSome = q) :
    Calls Try.prog 25 #[.map (some mb), .int .u32 x] w fun e w' => e = .returned (.bool q) ∧ w' = w := by
  have HM := Lib.hid h
  have HX := Lib.hid hx
  have HQ := Lib.hid hq
  obtain ⟨v0, hv0⟩ : ∃ v0, v0 = (F x).getD 0 := ⟨_, rfl⟩
  have HV : Hid (erK.val ((F x).getD 0) = .int .i64 v0) := by show _ = _; rw [← hv0]; rfl
  clear h hx hq hv0
  go_enter Try.func25, Try.ntmps25
  go_wp2_with (at_lookup; refine wpList_lookV rfl _ _ rfl Try.underlying58 0 (zeroK _) rfl HM.out x rfl HX.out _ _ HV.out HQ.out ?_)
  go_ret
  exact ⟨rfl, rfl⟩
theorem keys_no (w : World) (v u : Value) (ks : List Nat) (vs : List Int) (hs : IsU 0 (fun _ => 0) w v ks) (hv : IsV w u vs) (h : 40 < ks.length ∨ vs.length < ks.length) :
    Calls Try.prog 5 #[v, u] w fun e w' => e = .returned (.bool true) ∧ Below w.heap.size w w' := by
  obtain ⟨A, c, rfl, a1, a2, a3, -⟩ := id hs
  obtain ⟨A', c', rfl, b1, b2, b3, -⟩ := id hv
  unfold maxLen at a2 b2
  clear hs hv
  by_cases c1 : 40 < ks.length
  · have k1 : decide ((40 : Int) < ks.length) = true := by simp; omega
    clear h
    go_enter Try.func5, Try.ntmps5
    go_wp2_with fail
    refine (alive_calls _).mono ?_
    rintro e w1 ⟨rfl, hb⟩
    go_wp2
    go_ret
    exact ⟨rfl, hb⟩
  · have k1 : decide ((40 : Int) < ks.length) = false := by simp; omega
    have k2 : vs.length < ks.length := by omega
    clear h
    go_enter Try.func5, Try.ntmps5
    go_wp2_with fail
    refine (alive_calls _).mono ?_
    rintro e w1 ⟨rfl, hb⟩
    go_wp2
    go_ret
    exact ⟨rfl, hb⟩
set_option maxRecDepth 100000 in
set_option maxHeartbeats 8000000 in
theorem keys_yes (w : World) (v u : Value) (ks : List Nat) (vs : List Int) (hs : IsU 0 (fun _ => 0) w v ks) (hv : IsV w u vs) (hn : ks.length ≤ 40) (hn2 : ks.length ≤ vs.length) :
    Calls Try.prog 5 #[v, u] w fun e w' => e = .returned (.bool true) ∧ Below w.heap.size w w' := by
  obtain ⟨A, c, rfl, a1, a2, a3, -⟩ := id hs
  obtain ⟨A', c', rfl, b1, b2, b3, -⟩ := id hv
  unfold maxLen at a2 b2
  have HS := Lib.hid hs
  have HVS := Lib.hid hv
  have k1 : decide ((40 : Int) < ks.length) = false := by simp; omega
  have k2 : ¬ vs.length < ks.length := by omega
  have hmm := @run_makeMap Try.prog
  clear hs hv
  go_enter Try.func5, Try.ntmps5
  go_wp2_with fail
  refine (alive_calls _).mono ?_
  rintro e w1 ⟨rfl, hb⟩
  go_wp2_with fail
  refine (s_new w1 1048576 1 (fun _ => 0) (by decide) (by decide)).mono ?_
  rintro e w2 ⟨pt, χ2, rfl, -, ag, ht, hb2⟩
  have L2 : Lw w χ2 w2 pt 1048576 [] [] 0 := ⟨ht.congr (by simp), hb.trans (hb2.mono hb.size), fun b hl => ag b (Nat.lt_of_lt_of_le hl hb.size)⟩
  have L3 := L2.alloc (.map #[] 0)
  have M3 : Mw (paint χ2 w2.heap.size 10) (w2.alloc (.map #[] 0)) w2.heap.size 0 (fun _ => none) := ⟨by rw [paint_high (Nat.le_refl _)]; omega, MapF.made w2⟩
  clear ag ht hb hb2 L2
  go_wp2
  obtain ⟨mb, hmb⟩ : ∃ mb, mb = w2.heap.size := ⟨_, rfl⟩
  obtain ⟨w3, hw3⟩ : ∃ w3, w3 = w2.alloc (.map #[] 0) := ⟨_, rfl⟩
  obtain ⟨χ3, hχ3⟩ : ∃ χ3, χ3 = paint χ2 w2.heap.size 10 := ⟨_, rfl⟩
  rw [← hw3, ← hχ3, ← hmb] at M3
  rw [← hw3, ← hχ3] at L3
  rw [← hw3, ← hmb]
  clear hmb hw3 hχ3
  go_loopw [8, 39] (fun nd i wr => ∃ (k n c : Nat) (χ : Col) (row : List (Nat × Int)) (ever : List Nat) (F : Int → Option Int), k ≤ ks.length ∧ i = .int .i64 k ∧ nd = .int .i64 n ∧ n ≤ 33 * k ∧ c ≤ k ∧ row.length ≤ k ∧ Lw w χ wr pt 1048576 row ever n ∧ Mw χ wr mb c F ∧ Hid (RowF row F) ∧ Hid (∀ x v, F x = some v → wrap64 v = v) ∧ Hid (∀ e ∈ ever, e < 4294967296)) (fun _ i _ => ks.length - (intOf i).toNat)
  case atStart => exact ⟨0, 0, 0, χ3, [], [], _, by omega, rfl, rfl, by omega, by omega, by simp, L3, M3, RowF.nil, Lib.hid (fun x v e => by cases e), Lib.hid (fun e h => by simp at h)⟩
  case round =>
    clear L3 M3
    obtain ⟨k, n, c, χ, row, ever, F, hk, rfl, rfl, hn33, hck, hrl, L, M, hRF, hwv, hev⟩ := hrel
    by_cases hlt : k < ks.length
    · obtain ⟨gb, go, rfl, hcell0, hkl⟩ := HS.out.getU k hlt
      obtain ⟨gb', go', rfl, hcellv0, hvl⟩ := HVS.out.getV k (by omega)
      have hcell := below_cell L.bel hcell0
      have hcellv := below_cell L.bel hcellv0
      have hm := lackL_le ever ks[k]
      obtain ⟨key, hkey⟩ : ∃ key, key = ks[k] := ⟨_, rfl⟩
      obtain ⟨va, hva⟩ : ∃ va, va = vs[k] := ⟨_, rfl⟩
      obtain ⟨m, hmm2⟩ : ∃ m, m = lackL ever key := ⟨_, rfl⟩
      rw [← hkey] at hcell0 hcell hkl hm
      rw [← hva] at hcellv0 hcellv hvl
      rw [← hmm2] at hm
      have HKL := Lib.hid hkl
      have HVL := Lib.hid hvl
      have HMM := Lib.hid hmm2.symm
      clear hkey hva hmm2 hkl hvl
      obtain ⟨n2, hn2'⟩ : ∃ n2, n2 = n + m := ⟨_, rfl⟩
      have HN2 := Lib.hid hn2'
      have hn3 : n ≤ n2 := by omega
      have hn4 : n2 ≤ n + 33 := by omega
      clear hn2'
      go_wp2_with fail
      refine (s_putok wr key m va L hev.out HKL.out HVL.out (by decide) HMM.out (by omega)).mono ?_
      rw [← HN2.out]
      rintro e w4 ⟨rfl, hs⟩
      obtain ⟨χ4, ag, ch, L4⟩ := L.put hs
      have M4 := M.call ag ch
      clear L M hs ag ch hcell hcellv
      go_wp2_with fail
      refine (s_nodes _ L4.tr).mono ?_
      rintro e w5 ⟨rfl, rfl⟩
      go_wp2_with fail
      refine (s_nodes _ L4.tr).mono ?_
      rintro e w6 ⟨rfl, rfl⟩
      go_wp2_with fail
      refine (s_nodes _ L4.tr).mono ?_
      rintro e w7 ⟨rfl, rfl⟩
      have hcellv := below_cell L4.bel hcellv0
      have HKO : Hid (krK.ok key) := wf_u32 HKL.out
      go_wp2_with (at_mapUpdate; refine wpList_put rfl _ _ _ rfl Try.underlying58 rfl M4.map (by unfold maxLen; omega) (key : Int) va rfl rfl HKO.out ?_; intro w8 hm8 hg8)
      have L8 := L4.grown hg8 M4.col.1
      have M8 : Mw (paint χ4 w7.heap.size 10) w8 mb (c + 1) (upd F key va) := ⟨by rw [paint_low M4.map.lt]; exact M4.col, hm8⟩
      have hpl := putL_len key va row
      exact ⟨⟨k + 1, n2, c + 1, _, _, _, _, hlt, by go_num, rfl, by omega, by omega, by omega, L8, M8, hRF.out.put key va, Lib.hid fun x v e => by
        unfold upd at e
        split at e
        · cases e; exact HVL.out
        · exact hwv.out x v e, Lib.hid fun e he => by
        rcases List.mem_cons.1 he with rfl | he
        · exact HKL.out
        · exact hev.out e he⟩, by simp [intOf]; omega⟩
    · have hkk : k = ks.length := by omega
      subst hkk
      have HK0 := Lib.hid hrl
      go_wp2_with (at_range; refine wpList_rangeF rfl _ rfl Try.underlying58 rfl M.map ?_; intro w0 c0 hrg0 hg0 hs0)
      have hb0 := grown_below0 hg0
      have L0 := L.below hb0 10
      have R0 : Rw (paint χ wr.heap.size 10) w0 mb wr.heap.size c F (fun x => (F x).isSome) c0 := ⟨by rw [paint_low M.map.lt]; exact M.col, by rw [paint_high (Nat.le_refl _)]; omega, hrg0⟩
      obtain ⟨rb, hrb⟩ : ∃ rb, rb = wr.heap.size := ⟨_, rfl⟩
      obtain ⟨χ0, hχ0⟩ : ∃ χ0, χ0 = paint χ wr.heap.size 10 := ⟨_, rfl⟩
      rw [← hχ0] at L0 R0
      rw [← hrb] at R0 ⊢
      clear L M hrg0 hg0 hs0 hb0 hrb hχ0
      go_frame
      go_loopw [11] (fun _ w5 => ∃ (left : Int → Bool) (cnt : Nat) (χ : Col), Lw w χ w5 pt 1048576 row ever n ∧ Rw χ w5 mb rb c F left cnt) (fun _ w5 => w5.rangeLeft mb rb)
      case atStart => exact ⟨_, _, _, L0, R0⟩
      case round =>
        clear L0 R0
        obtain ⟨left, cnt, χ, L, R⟩ := hrel
        go_wp2_with (at_next; refine wpList_nextK rfl _ rfl rfl R.rg ?_ ?_)
        · intro hl0
          have M := R.mw
          have hsl := L.tr.len
          go_wp2_with fail
          refine (s_pairs1 _ 1000 20 L (by decide) (by have := HK0.out; omega)).mono ?_
          rintro e w6 hs
          obtain ⟨A6, cap6, χ6, rfl, ag, ch, L6, P6⟩ := L.pairs hs (by have := HK0.out; omega)
          have M6 := M.call ag ch
          have P7 := Lib.hid P6.rd
          have HSL := Lib.hid hsl
          obtain ⟨-, -, hle6⟩ : True ∧ True ∧ row.length ≤ 40 := ⟨trivial, trivial, by have := HK0.out; omega⟩
          clear L M R hs ag ch P6 hsl hl0
          go_wp2
          go_loopw [111] (fun iv w7 => ∃ j : Nat, j ≤ row.length ∧ iv = .int .i64 j ∧ Below w6.heap.size w6 w7) (fun iv _ => row.length - (intOf iv).toNat)
          case atStart => exact ⟨0, by omega, rfl, Below.refl _ _⟩
          case round =>
            obtain ⟨j, hj, rfl, hB⟩ := hrel
            obtain ⟨w7, rfl⟩ : ∃ w7, w7 = wr := ⟨_, rfl⟩
            by_cases hltj : j < row.length
            · obtain ⟨gb, go, rfl, p0, p1⟩ := IsL.getP (P7.out.keep (Same.below' hB)) j hltj
              have hFk := (hRF.out row[j].1 row[j].2).2 ⟨_, rfl, List.getElem_mem hltj⟩
              have hkl := HSL.out.2 _ (List.getElem_mem hltj)
              obtain ⟨key, hkey⟩ : ∃ key, key = row[j].1 := ⟨_, rfl⟩
              obtain ⟨val, hval⟩ : ∃ val, val = row[j].2 := ⟨_, rfl⟩
              have h0 : Hid (∀ h : 0 < j, ∃ y : Nat, w7.cell? ⟨gb, go + (j - 1) * 2, none⟩ = some (.int .u32 y) ∧ y < key) := fun h => by
                obtain ⟨gb', go', e, z0, z1⟩ := IsL.getP (P7.out.keep (Same.below' hB)) (j - 1) (by omega)
                cases e
                have := List.pairwise_iff_getElem.1 HSL.out.1 (j - 1) j (by omega) hltj (by omega)
                exact ⟨_, z0, by rw [hkey]; exact this⟩
              rw [← hkey] at p0 hFk hkl
              rw [← hval] at p1 hFk
              have HKO : Hid (krK.ok key) := wf_u32 hkl
              have hb7 := (Below.refl w7.heap.size w7).alloc (Nat.le_refl _) (.cells #[.int .u32 key, .int .i64 val] 61)
              have hl : ∀ d, (Instr.lookup 58 (.map (some mb)) (.int .u32 key) false).run Try.prog ((w7.alloc (.cells #[.int .u32 key, .int .i64 val] 61)).drewN d) = .ok (.int .i64 val) ((w7.alloc (.cells #[.int .u32 key, .int .i64 val] 61)).drewN d) := fun d => by
                have := (MapF.below (w' := (w7.alloc (.cells #[.int .u32 key, .int .i64 val] 61)).drewN d) M6.map ((hb7.block _ (Nat.lt_of_lt_of_le M6.map.lt hB.size)).trans (hB.block _ M6.map.lt))).look1 Try.underlying58 0 (zeroK _) HKO.out
                rw [hFk] at this; exact this
              have hB7 := hB.trans (hb7.mono hB.size)
              have gv : (val != val) = false := by simp
              clear hkey hval hFk
              by_cases hj0 : 0 < j
              · obtain ⟨y, hy, hyk⟩ := h0.out hj0
                obtain ⟨i, hi⟩ : ∃ i, i = j - 1 := ⟨_, rfl⟩
                rw [← hi] at hy
                have hj1 : ((j : Int) - 1) = (i : Int) := by omega
                have hil : i < row.length := by omega
                have hjw : IntKind.i64.wrap ((j : Int) - 1) = (i : Int) := by rw [hj1, i64w]; unfold wrap64; omega
                clear h0 hi hB hb7
                go_wp2
                go_quiet (fail)
                go_wp2
                exact ⟨⟨j + 1, hltj, by go_num, hB7.trans (below_drewN _ _ _)⟩, by simp [intOf]; omega⟩
              · clear h0 hB hb7
                go_wp2
                go_quiet (fail)
                go_wp2
                exact ⟨⟨j + 1, hltj, by go_num, hB7.trans (below_drewN _ _ _)⟩, by simp [intOf]; omega⟩
            · have hjj : j = row.length := by omega
              subst hjj
              have L7 := L6.below hB 10
              have M7 := M6.below hB 10
              have F1 : Hid (row.filter (inS 0 4294967295) = row) := filter_whole HSL.out.2
              obtain ⟨ls, lm, lx, hAL⟩ : ∃ ls lm lx, agV (vals row) = ⟨row.length, ls, lm, lx⟩ := let ⟨mn, mx, h⟩ := agV_form row; ⟨_, mn, mx, h⟩
              have E1 := Lib.hid hAL
              obtain ⟨m', hm', -, hlen⟩ := M7.map.len Try.underlying58
              obtain rfl := hm'.uniq (hRF.out.card HSL.out.1) fun _ => rfl
              have gz : ((row.length : Int) == row.length) = true := by simp
              clear hAL hm' L6 M6 hB
              go_wp2_with fail
              refine (s_fold _ 0 4294967295 L7.tr).mono ?_
              rw [F1.out, E1.out]
              rintro e w8 ⟨rfl, hs⟩
              obtain ⟨χ8, ag, ch, L8⟩ := L7.call hs
              have M8 := M7.call ag ch
              obtain ⟨m', hm', -, hlen8⟩ := M8.map.len Try.underlying58
              obtain rfl := hm'.uniq (hRF.out.card HSL.out.1) fun _ => rfl
              clear hs ag ch hm' L7 M7
              simp only [Ag.val]
              go_wp2
              go_ret
              exact ⟨rfl, L8.bel⟩
        · intro k s w1 cnt1 hk hlx hF hrg1 hlt1 hg1 hs1 hen
          have L1 := L.grown hg1 R.col2
          have R1 : Rw (paint χ _ 10) w1 mb rb c F (fun y => left y && !decide (y = k)) cnt1 := ⟨by rw [paint_low R.rg.owns.lt]; exact R.col, by rw [paint_low R.rg.lt]; exact R.col2, hrg1⟩
          have HG : Hid (agV (vals (row.filter (inS k k))) = ⟨1, s, s, s⟩) := hRF.out.at L.tr.len.1 hF (hwv.out _ _ hF)
          obtain ⟨k1', hk1, hk1l⟩ := xor_one k
          obtain ⟨q, hq⟩ : ∃ q, (F k1').isSome = q := ⟨_, rfl⟩
          have HQ := Lib.hid hq
          have hg2 := hRF.out.has L.tr.len.1 k1'
          rw [hq] at hg2
          have HG2 := Lib.hid hg2
          have HKO : Hid (krK.ok k1') := wf_u32 hk1l
          obtain ⟨s1, hs1'⟩ : ∃ s1, s1 = (agV (vals (row.filter (inS k1' k1')))).s := ⟨_, rfl⟩
          have HS1 := Lib.hid hs1'
          have gp : (q != q) = false := by simp
          have gs : (s != s) = false := by simp
          have HLT : Hid (cnt1 < cnt) := hlt1
          have HLE := Lib.hid R.left
          clear L R hF hlx hg2 hq hs1 hg1 hs1' hrg1 hlt1
          go_wp2_with fail
          refine (s_get _ k L1.tr).mono ?_
          rw [HG.out]
          rintro e w2 ⟨rfl, hs⟩
          obtain ⟨χ2, ag, ch, L2⟩ := L1.call hs
          have R2 := R1.call ag ch
          clear L1 R1 hs ag ch
          go_wp2_with fail
          refine (s_get _ k1' L2.tr).mono ?_
          rw [HG2.out, ← HS1.out]
          rintro e w3 ⟨rfl, hs⟩
          obtain ⟨χ3, ag, ch, L3⟩ := L2.call hs
          have R3 := R2.call ag ch
          clear L2 R2 hs ag ch
          go_wp2_with fail
          refine (has_calls _ R3.mw.map k1' HKO.out q HQ.out).mono ?_
          rintro e w4 ⟨rfl, rfl⟩
          go_wp2
          exact ⟨⟨_, cnt1, _, L3, R3⟩, by rw [R3.left, HLE.out]; exact HLT.out⟩
theorem keys_law (w : World) (v u : Value) (ks : List Nat) (vs : List Int) (hs : IsU 0 (fun _ => 0) w v ks) (hv : IsV w u vs) :
    Calls Try.prog 5 #[v, u] w fun e w' => e = .returned (.bool true) ∧ Below w.heap.size w w' := by
  by_cases h : 40 < ks.length ∨ vs.length < ks.length
  · exact keys_no w v u ks vs hs hv h
  · exact keys_yes w v u ks vs hs hv (by omega) (by omega)
end Go.Proofs.Ytcdldjiogoapkaa
