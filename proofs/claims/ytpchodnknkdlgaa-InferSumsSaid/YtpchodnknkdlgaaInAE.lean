import Derived.Test.YtpchodnknkdlgaaInAD
namespace Go.Proofs.Ytpchodnknkdlgaa
open Go.RowKit Go.Shelf
attribute [local go_sem] World.cell?_alloc_some
theorem infoI6 : (Try.prog.info? 2).map (fun i => (i.zero, i.size, i.bytes)) = some (some (.int .i64 0), 1, 8) := by kernel_rfl
theorem infoR6 : (Try.prog.info? 46).map (fun i => (i.zero, i.size, i.bytes)) = some (some (.slice none 0 0), 1, 24) := by kernel_rfl
theorem make_i6 (n : Nat) (hn : n ≤ 1000) (u : World) : (Instr.makeSlice 46 (.int .i64 n) (.int .i64 n)).run Try.prog u = .ok (.slice (some ⟨u.heap.size, 0, none⟩) n n) (u.alloc (.cells (madeCells #[.int .i64 0] n) 2)) := by
  obtain ⟨i0, hi0, hz0, hz1, hz2⟩ := info_parts infoI6
  have := run_makeSlice (P := Try.prog) u 46 2 i0 (.int .i64 0) Try.underlying46 hi0 hz0 .i64 .i64 n n (by omega) (Int.le_refl _) (by rw [hz1]; omega) (by rw [hz2]; omega) (by omega)
  simpa [hz1, Value.cells] using this
theorem made_i6 (w : World) (n : Nat) (hn : n ≤ 1000) : (w.alloc (.cells (madeCells #[.int .i64 0] n) 2)).ownsRow w.heap.size 2 1 (.slice (some ⟨w.heap.size, 0, none⟩) n n) n ((List.replicate n (0 : Int)).map vI) := by
  have h := World.ownsRow_lit (base := w.heap.size) (e := 2) (size := 1) w (madeCells #[.int .i64 0] n) n (Nat.le_refl _) (by unfold maxLen; omega) (by simp [size_madeCells])
  rw [toList_madeCells_one] at h
  rw [List.map_replicate]; exact h
/-- BinarySearch, in an own row. -/
theorem search_own (w : World) (base n : Nat) (A : Option Addr) (cap : Nat) (zs : List Int) (x : Int) (h : w.ownsRow base 3 1 (.slice A n cap) n (zs.map vI)) (hl : n ≤ 1000000) (hs : zs.Pairwise (· < ·)) :
    Calls Try.prog 32 #[.slice A n cap, .int .i64 x] w fun e w' => e = .returned (.tuple #[.int .i64 (zs.countP (· < x) : Nat), .bool (zs.contains x)]) ∧ ∃ q, w' = w.drewN q := by
  have hn : n = zs.length := by have := h.1; simp at this; omega
  obtain ⟨h1, (⟨e, h0⟩ | ⟨g, cap', cur, e, hg, hh, hcap, hmax, hsz, htk⟩)⟩ := id h
  · cases e
    have hz : zs = [] := List.length_eq_zero_iff.1 (by omega)
    subst hz
    refine (Any.slices_BinarySearch_int_empty Try.binI none 0 x w).mono ?_
    rintro e w' ⟨rfl, rfl⟩
    exact ⟨rfl, 0, rfl⟩
  · cases e
    have hc : ∀ j, j < zs.length → w.cell? ⟨g, 0 + j, none⟩ = some (.int .i64 (zs.getD j 0)) := fun j hj => by
      have := h.cells (g := g) rfl j (.int .i64 zs[j]) (by simp [hj, vI])
      rw [add0] at this
      rw [Nat.zero_add, this]; simp [List.getD, hj]
    have := Any.slices_BinarySearch_int Try.binI g 0 n cap zs x w (by omega) (by omega) hc (by rw [hn, List.take_length]; exact hs.imp fun h => by omega)
    rwa [hn, List.take_length, ← hn] at this

theorem flat_vI (xs : List Int) : xs.flatMap (fun x => [vI x]) = xs.map vI := by induction xs with
  | nil => rfl
  | cons x xs ih => rw [List.flatMap_cons, ih]; rfl
theorem own_grownA {W w1 : World} {B N e sz n : Nat} {v : Value} {xs : List Value} (h : W.ownsRow B e sz v n xs) (hg : W.grownBy w1 v.ownBlock) (hN : N ≤ B) (hW : N ≤ W.heap.size) : Below N W w1 :=
  ⟨hg.os, hg.tape, hg.output, hg.size, fun b hb => hg.block b (by omega) (fun e => by have := (h.lt b e.symm).1; omega)⟩
theorem below_cellA {w W : World} {p : Addr} {v : Value} (hb : Below w.heap.size w W) (hc : w.cell? p = some v) : W.cell? p = some v :=
  (hb.cell (World.block_lt_of_cell? w _ hc)).trans hc
set_option maxRecDepth 100000 in
set_option maxHeartbeats 8000000 in
theorem matrix_calls (W : World) (v : Value) (sets : List (List Int)) {c d : Nat} {χ : Col} (h : IsII c d χ W v sets) (hl : sets.length ≤ 100) (ht : sets.flatten.length ≤ 1000) :
    Calls Try.prog 20 #[v] W fun e W' => ∃ rv nv vs b1, e = .returned (.tuple #[rv, nv]) ∧ W'.ownsRow W.heap.size 3 1 nv (namesL sets).length ((namesL sets).map vI) ∧ (∀ b, nv.ownBlock = some b → b < b1) ∧ W.heap.size ≤ b1 ∧ MatAt b1 W' rv vs (matL sets) ∧ Below W.heap.size W W' := by
  obtain ⟨A, cap, rfl, h1, h2, h3, -⟩ := id h
  unfold maxLen at h2
  have H := Lib.hid h
  have hnl := namesL_len sets
  clear h
  obtain ⟨i0, hi, hz0, hz1, hz2⟩ := info_parts infoI
  obtain ⟨j0, hj0, hy0, hy1, hy2⟩ := info_parts infoR6
  go_enter Try.func20, Try.ntmps20
  go_wp2
  go_loopw [4, 17] (fun a i wr => ∃ k : Nat, k ≤ sets.length ∧ i = .int .i64 k ∧ Hid (wr.ownsRow W.heap.size 3 1 a (sets.take k).flatten.length ((sets.take k).flatten.map vI)) ∧ Below W.heap.size W wr) (fun _ i _ => sets.length - (intOf i).toNat)
  case atStart => exact ⟨0, by omega, rfl, World.ownsRow_nil _ _ _ _, Below.refl _ _⟩
  case round =>
    obtain ⟨k, hk, rfl, HO, hb⟩ := hrel
    by_cases hlt : k < sets.length
    · obtain ⟨b, o, u, rfl, hc, hu⟩ := H.out.getS k hlt
      have hc2 := below_cellA hb hc
      have HU := Lib.hid (IsI.keep hu (Same.below' hb))
      have HF : Hid ((sets.take (k + 1)).flatten = (sets.take k).flatten ++ sets[k]) := by
        show _ = _
        rw [List.take_succ_eq_append_getElem hlt, List.flatten_append]; simp
      have hle : (sets.take k).flatten.length + sets[k].length ≤ 1000 := by
        have h5 : sets.flatten = (sets.take (k + 1)).flatten ++ (sets.drop (k + 1)).flatten := by rw [← List.flatten_append, List.take_append_drop]
        rw [h5, HF.out] at ht
        simp only [List.length_append] at ht; omega
      obtain ⟨s, hs⟩ : ∃ s, s = sets[k] := ⟨_, rfl⟩
      rw [← hs] at HU HF hle
      obtain ⟨l, hll⟩ : ∃ l, l = (sets.take k).flatten := ⟨_, rfl⟩
      rw [← hll] at HO HF hle
      clear hc hu hs hll ht
      go_wp2_with (at_builtin; refine wpList_append_L 24 3 i0 _ Try.underlying24 hi hz0 hz1 hz2 rfl (by omega) (by omega) (fun x => [vI x]) (fun _ _ _ _ h => h) (rInt_one _) rfl _ _ rfl W.heap.size _ l.length (l.map vI) rfl HO.out _ s rfl HU.out (by omega) hb.size ?_; intro v' w6 hown' hgrow hat)
      have hb6 := own_grownA HO.out hgrow (N := W.heap.size) (Nat.le_refl _) hb.size
      exact ⟨⟨k + 1, hlt, by go_num, by show World.ownsRow _ _ _ _ _ _ _; rw [HF.out, List.map_append, List.length_append, ← flat_vI s]; exact hown', hb.trans hb6⟩, by simp [intOf]; omega⟩
    · have hke : k = sets.length := by omega
      subst hke
      rw [List.take_length] at HO
      obtain ⟨L, hL⟩ : ∃ L, L = sets.flatten := ⟨_, rfl⟩
      have hLL := Lib.hid hL
      rw [← hL] at HO ht hnl
      clear hL
      go_wp2_with fail
      refine (sort_own _ _ W.heap.size L.length L HO.out (by omega)).mono ?_
      rintro e w1 ⟨rfl, O1, G1⟩
      have hb1 := hb.trans (own_grownA HO.out G1 (N := W.heap.size) (Nat.le_refl _) hb.size)
      have O1 := Lib.hid O1
      clear HO G1
      go_wp2_with fail
      refine (compact_own _ _ W.heap.size L.length (sortL L) O1.out (by omega)).mono ?_
      rintro e w2 ⟨v2, rfl, O2, e2, G2⟩
      have hb2 := hb1.trans (own_grownA O1.out G2 (N := W.heap.size) (Nat.le_refl _) hb1.size)
      have hNN : Go.Lib.compact (sortL L) = namesL sets := by unfold namesL; rw [← hLL.out]
      rw [hNN] at O2
      obtain ⟨names, hnames⟩ : ∃ names, names = namesL sets := ⟨_, rfl⟩
      have HNM := Lib.hid hnames
      rw [← hnames] at O2 hnl
      obtain ⟨A2, cap2, rfl⟩ := owns_form O2
      have O2 := Lib.hid O2
      have hmk := make_i6 names.length (by omega)
      obtain ⟨w3, rfl⟩ : ∃ w3, w3 = w2 := ⟨_, rfl⟩
      clear hnames hNN G2 e2 O1
      go_wp2
      go_loopw [7, 31] (fun a i wr => ∃ (k : Nat) (vs : List Value), k ≤ sets.length ∧ i = .int .i64 k ∧ Hid (MatAt w3.heap.size wr a vs ((matL sets).take k)) ∧ Below w3.heap.size w3 wr) (fun _ i _ => sets.length - (intOf i).toNat)
      case atStart => exact ⟨0, [], by omega, rfl, matAt_nil _ _, Below.refl _ _⟩
      case round =>
        obtain ⟨k, vs, hk, rfl, HM, hb3⟩ := hrel
        obtain ⟨wo, rfl⟩ : ∃ wo, wo = wr := ⟨_, rfl⟩
        have hmm : (matL sets).length = sets.length := by simp [matL]
        have hmk' : ((matL sets).take k).length = k := by rw [List.length_take]; omega
        have hbw := hb2.trans (hb3.mono hb2.size)
        by_cases hlt : k < sets.length
        · obtain ⟨b, o, u, rfl, hc, hu⟩ := H.out.getS k hlt
          have hc2 := below_cellA hbw hc
          have hu2 := IsI.keep hu (Same.below' hbw)
          have hmem : ∀ x ∈ sets[k], x ∈ names := fun x hx => by rw [HNM.out]; exact namesL_mem.2 ⟨_, List.getElem_mem hlt, hx⟩
          have HMK : Hid ((matL sets).take (k + 1) = (matL sets).take k ++ [mrow names sets[k]]) := by
            show _ = _
            rw [List.take_succ_eq_append_getElem (by omega)]
            simp [matL, HNM.out]
          obtain ⟨s, hs⟩ : ∃ s, s = sets[k] := ⟨_, rfl⟩
          rw [← hs] at hu2 hmem HMK
          have hmem := Lib.hid hmem
          obtain ⟨Au, cu, rfl, u1, u2, u3, -⟩ := id hu2
          unfold maxLen at u2
          have HU := Lib.hid hu2
          clear hc hu hs hu2
          obtain ⟨PM, hPM⟩ : ∃ PM, PM = (matL sets).take k := ⟨_, rfl⟩
          rw [← hPM] at HM HMK hmk'
          have hNames : Hid (wo.ownsRow W.heap.size 3 1 (.slice A2 names.length cap2) names.length (names.map vI)) := owns_same O2.out fun b e => hb3.block b (O2.out.lt b e).2
          have hmo := Lib.hid (made_i6 wo names.length (by omega))
          have hnb : Below wo.heap.size wo (wo.alloc (.cells (madeCells #[.int .i64 0] names.length) 2)) := (Below.refl _ _).alloc (Nat.le_refl _) _
          clear hPM hmm
          go_wp2
          go_loopw [40] (fun i wr => ∃ q : Nat, q ≤ s.length ∧ i = .int .i64 q ∧ Hid (wr.ownsRow wo.heap.size 2 1 (.slice (some ⟨wo.heap.size, 0, none⟩) names.length names.length) names.length ((mrowTo names s q).map vI)) ∧ Below wo.heap.size wo wr) (fun i _ => s.length - (intOf i).toNat)
          case atStart => exact ⟨0, by omega, rfl, by show World.ownsRow _ _ _ _ _ _ _; exact hmo.out, hnb⟩
          case round =>
            obtain ⟨q, hq, rfl, HR, hb4⟩ := hrel
            by_cases hlq : q < s.length
            · obtain ⟨b5, o5, rfl, hc5⟩ := HU.out.getI q hlq
              have hc6 := below_cellA hb4 hc5
              have hx := hmem.out _ (List.getElem_mem hlq)
              have hst := Lib.hid (mrowTo_succ names s q hlq)
              obtain ⟨x, hxx⟩ : ∃ x, x = s[q] := ⟨_, rfl⟩
              rw [← hxx] at hc6 hx hst
              have hpl := place_lt hx
              have hs2 : Hid (names.Pairwise (· < ·)) := by show List.Pairwise _ _; rw [HNM.out]; exact namesL_lt _
              have hN2 := Lib.hid (owns_same hNames.out fun b e => hb4.block b (hNames.out.lt b e).2)
              obtain ⟨z, hz⟩ : ∃ z, wr.cell? ⟨wo.heap.size, names.countP (· < x), none⟩ = some z := ⟨_, by
                have := HR.out.cells (g := wo.heap.size) rfl (names.countP (· < x)) _ (by rw [List.getElem?_map, List.getElem?_eq_getElem (by rw [mrowTo_len]; exact hpl)]; rfl)
                rwa [add0] at this⟩
              have hfz := owns_frozen HR.out (names.countP (· < x))
              have hsC := Lib.hid (owns_setCell (o := names.countP (· < x)) (v := .int .i64 1) HR.out)
              obtain ⟨pl, hple⟩ : ∃ pl, pl = names.countP (· < x) := ⟨_, rfl⟩
              have hpc : Hid (names.countP (· < x) = pl) := hple.symm
              rw [← hple] at hz hfz hsC hst hpl
              clear hc5 hxx hx hple
              go_wp2_with fail
              refine (search_own wr W.heap.size names.length A2 cap2 names x hN2.out (by omega) hs2.out).mono ?_
              rintro e w5 ⟨rfl, d5, rfl⟩
              rw [hpc.out]
              have hz5 : (wr.drewN d5).cell? ⟨wo.heap.size, pl, none⟩ = some z := hz
              have hf5 : (wr.drewN d5).frozen? ⟨wo.heap.size, pl, none⟩ = false := hfz
              clear hz hfz hc6
              go_wp2
              refine ⟨⟨q + 1, hlq, by go_num, ?_, ?_⟩, by simp [intOf]; omega⟩
              · show World.ownsRow _ _ _ _ _ _ _
                rw [hst.out, List.map_set]
                exact owns_same hsC.out fun _ _ => rfl
              · exact (hb4.trans (below_drewN _ _ d5)).trans ⟨rfl, rfl, rfl, by simp [World.setCell], fun b hb => Below.heap_setCell _ _ _ _ (by show b ≠ wo.heap.size; omega)⟩
            · have hqe : q = s.length := by omega
              subst hqe
              have hrl : (mrowTo names s s.length).length = names.length := mrowTo_len _ _ _
              obtain ⟨R, hR⟩ : ∃ R, R = mrow names s := ⟨_, rfl⟩
              have hRR : mrowTo names s s.length = R := by rw [hR]; rfl
              rw [hRR] at HR hrl
              rw [← hR] at HMK
              have hM4 := Lib.hid (HM.out.below hb4)
              have hmo4 := hM4.out.out
              rw [hmk'] at hmo4
              have hw4 := hb4.size
              have hb5 := hb3.trans (hb4.mono hb3.size)
              have hw3 := hb5.size
              clear hR hRR
              go_wp2_with (at_builtin; refine wpList_append_own_at _ rfl _ _ 42 rfl w3.heap.size 46 j0 _ 1 24 Try.underlying42 hj0 hy0 hy1 hy2 rfl (by decide) _ _ _ rfl (hmo4.alloc _) ⟨_, 0, none⟩ 1 1 [.slice (some ⟨wo.heap.size, 0, none⟩) names.length names.length] rfl rfl (cell_one_new _ _ _) (by simp [Value.oneCell']) (by unfold maxLen; omega) (by omega) (by simp; omega) ?_; intro v' w5 hown' hgrow _ hat)
              have hMo := HM.out.out
              have hgo : ∀ b, u7.ownBlock = some b → b < wo.heap.size := fun b e => (hMo.lt b e).2
              obtain ⟨p1, p2⟩ := hM4.out.push (R := R) (g := wo.heap.size) (cap := names.length) (by rw [hrl]; exact HR.out.mono_base hb3.size) (fun i t ht => by
                have hl := HM.out.len
                obtain ⟨hi, -⟩ := List.getElem?_eq_some_iff.1 ht
                obtain ⟨g2, c2, h1, h2⟩ := HM.out.row i (by omega)
                rw [ht] at h1; cases h1
                intro e
                have e3 : g2 = wo.heap.size := Option.some.inj e
                have := (h2.lt g2 rfl).2
                omega) (fun e => by have := hgo _ e; omega) (by omega) (by rw [hmk', hrl]; exact hown') hgrow hat
              rw [← HMK.out] at p1
              exact ⟨⟨k + 1, _, hlt, by go_num, p1, hb5.trans p2⟩, by simp [intOf]; omega⟩
        · have hke : k = sets.length := by omega
          subst hke
          go_wp2
          refine bodyPost_ret (v := .tuple #[u7, .slice A2 names.length cap2]) (by simp [results, Try.results20, go_sem, *]) rfl ⟨u7, _, vs, w3.heap.size, rfl, ?_, fun b e => (O2.out.lt b e).2, hb2.size, ?_, hbw⟩
          · rw [← HNM.out]
            exact owns_same O2.out fun b e => hb3.block b (O2.out.lt b e).2
          · have := HM.out
            rwa [show List.take sets.length (matL sets) = matL sets from List.take_of_length_le (by omega)] at this
end Go.Proofs.Ytpchodnknkdlgaa
