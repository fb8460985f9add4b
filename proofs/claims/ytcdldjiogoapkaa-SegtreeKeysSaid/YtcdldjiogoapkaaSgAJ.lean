import Derived.Test.YtcdldjiogoapkaaSgAI
import Derived.Laws.BitsAllLaws
namespace Go.Proofs.Ytcdldjiogoapkaa
open Go.RowKit
attribute [local go_sem] World.cell?_alloc_some frozen_alloc_some field_na field_ac field_as

theorem i64w (x : Int) : IntKind.i64.wrap x = wrap64 x := by
  unfold IntKind.wrap wrap64
  simp [IntKind.signed, IntKind.bits]
  try omega
theorem agV_form (row : List (Nat × Int)) : ∃ mn mx, agV (vals row) = ⟨row.length, wrap64 (sumV (vals row)), mn, mx⟩ := by
  refine ⟨(agV (vals row)).mn, (agV (vals row)).mx, ?_⟩
  have h1 : (agV (vals row)).c = row.length := by rw [agV_len, List.length_map]
  have h2 := agV_s (vals row)
  rw [← h1, ← h2]

/-- The first so many keys, each put with its number. -/
def rowI (ks : List Nat) : Nat → List (Nat × Int)
  | 0 => []
  | i + 1 => putL (ks.getD i 0) i (rowI ks i)
theorem rowI_len (ks : List Nat) (i : Nat) : (rowI ks i).length ≤ i := by
  induction i with
  | zero => exact Nat.le_refl _
  | succ i ih => exact Nat.le_trans (putL_len _ _ _) (by omega)
/-- All keys that were put, the last one first. -/
def evI (ks : List Nat) (i : Nat) : List Nat := (ks.take i).reverse
theorem evI_succ (ks : List Nat) (i : Nat) (h : i < ks.length) : evI ks (i + 1) = ks.getD i 0 :: evI ks i := by
  unfold evI
  rw [List.take_succ_eq_append_getElem h, List.reverse_append]
  simp [h]

set_option maxRecDepth 100000 in
set_option maxHeartbeats 4000000 in
theorem spans_no (w : World) (v : Value) (ks : List Nat) (lo cut hi : Nat) (hs : IsU 0 (fun _ => 0) w v ks) (h : 40 < ks.length ∨ cut < lo ∨ hi ≤ cut) :
    Calls Try.prog 4 #[v, .int .u32 lo, .int .u32 cut, .int .u32 hi] w fun e w' => e = .returned (.bool true) ∧ Below w.heap.size w w' := by
  obtain ⟨A, c, rfl, a1, a2, a3, -⟩ := id hs
  unfold maxLen at a2
  have HS := Lib.hid hs
  clear hs
  by_cases c1 : 40 < ks.length
  · have k1 : decide ((40 : Int) < ks.length) = true := by simp; omega
    go_enter Try.func4, Try.ntmps4
    go_wp2_with fail
    refine (alive_calls _).mono ?_
    rintro e w1 ⟨rfl, hb⟩
    go_wp2
    go_ret
    exact ⟨rfl, hb⟩
  · by_cases c2 : cut < lo
    · go_enter Try.func4, Try.ntmps4
      go_wp2_with fail
      refine (alive_calls _).mono ?_
      rintro e w1 ⟨rfl, hb⟩
      go_wp2
      go_ret
      exact ⟨rfl, hb⟩
    · have c3 : hi ≤ cut := by omega
      go_enter Try.func4, Try.ntmps4
      go_wp2_with fail
      refine (alive_calls _).mono ?_
      rintro e w1 ⟨rfl, hb⟩
      go_wp2
      go_ret
      exact ⟨rfl, hb⟩

theorem Dats.ag {χ : Col} {W : World} {L : List (Nat × Obj)} (d : Dats χ W L) (b : Nat) (a : Ag) (h : (b, BoxA a) ∈ L) :
    W.cell? ⟨b, 0, none⟩ = some (.int .i64 a.c) ∧ W.cell? ⟨b, 1, none⟩ = some (.int .i64 a.s) ∧ W.cell? ⟨b, 2, none⟩ = some (.int .i64 a.mn) ∧ W.cell? ⟨b, 3, none⟩ = some (.int .i64 a.mx) := (cells4 (d _ h).at_).1
theorem Dats.agm {χ : Col} {W : World} {L : List (Nat × Obj)} (d : Dats χ W L) (b1 b2 b3 : Nat) (a1 a2 a3 : Ag) (h1 : (b1, BoxA a1) ∈ L) (h2 : (b2, BoxA a2) ∈ L) (h3 : (b3, BoxA a3) ∈ L) :
    (W.cell? ⟨b1, 0, none⟩ = some (.int .i64 a1.c) ∧ W.cell? ⟨b1, 1, none⟩ = some (.int .i64 a1.s) ∧ W.cell? ⟨b1, 2, none⟩ = some (.int .i64 a1.mn) ∧ W.cell? ⟨b1, 3, none⟩ = some (.int .i64 a1.mx)) ∧
    (W.cell? ⟨b2, 0, none⟩ = some (.int .i64 a2.c) ∧ W.cell? ⟨b2, 1, none⟩ = some (.int .i64 a2.s) ∧ W.cell? ⟨b2, 2, none⟩ = some (.int .i64 a2.mn) ∧ W.cell? ⟨b2, 3, none⟩ = some (.int .i64 a2.mx)) ∧
    (W.cell? ⟨b3, 0, none⟩ = some (.int .i64 a3.c) ∧ W.cell? ⟨b3, 1, none⟩ = some (.int .i64 a3.s) ∧ W.cell? ⟨b3, 2, none⟩ = some (.int .i64 a3.mn) ∧ W.cell? ⟨b3, 3, none⟩ = some (.int .i64 a3.mx)) := ⟨d.ag b1 a1 h1, d.ag b2 a2 h2, d.ag b3 a3 h3⟩

theorem Dats.agm2 {χ : Col} {W : World} {L : List (Nat × Obj)} (d : Dats χ W L) (b1 b2 b3 b4 : Nat) (a1 a2 a3 a4 : Ag) (h1 : (b1, BoxA a1) ∈ L) (h2 : (b2, BoxA a2) ∈ L) (h3 : (b3, BoxA a3) ∈ L) (h4 : (b4, BoxA a4) ∈ L) :
    (W.cell? ⟨b1, 0, none⟩ = some (.int .i64 a1.c) ∧ W.cell? ⟨b1, 1, none⟩ = some (.int .i64 a1.s) ∧ W.cell? ⟨b1, 2, none⟩ = some (.int .i64 a1.mn) ∧ W.cell? ⟨b1, 3, none⟩ = some (.int .i64 a1.mx)) ∧
    (W.cell? ⟨b2, 0, none⟩ = some (.int .i64 a2.c) ∧ W.cell? ⟨b2, 1, none⟩ = some (.int .i64 a2.s) ∧ W.cell? ⟨b2, 2, none⟩ = some (.int .i64 a2.mn) ∧ W.cell? ⟨b2, 3, none⟩ = some (.int .i64 a2.mx)) ∧
    (W.cell? ⟨b3, 0, none⟩ = some (.int .i64 a3.c) ∧ W.cell? ⟨b3, 1, none⟩ = some (.int .i64 a3.s) ∧ W.cell? ⟨b3, 2, none⟩ = some (.int .i64 a3.mn) ∧ W.cell? ⟨b3, 3, none⟩ = some (.int .i64 a3.mx)) ∧
    W.cell? ⟨b4, 0, none⟩ = some (.int .i64 a4.c) ∧ W.cell? ⟨b4, 1, none⟩ = some (.int .i64 a4.s) := ⟨d.ag b1 a1 h1, d.ag b2 a2 h2, d.ag b3 a3 h3, (d.ag b4 a4 h4).1, (d.ag b4 a4 h4).2.1⟩

set_option maxRecDepth 100000 in
set_option maxHeartbeats 4000000 in
theorem spans_yes (w : World) (v : Value) (ks : List Nat) (lo cut hi : Nat) (hs : IsU 0 (fun _ => 0) w v ks) (hn : ks.length ≤ 40) (h1 : lo ≤ cut) (h2 : cut < hi) (h3 : hi < 4294967296) :
    Calls Try.prog 4 #[v, .int .u32 lo, .int .u32 cut, .int .u32 hi] w fun e w' => e = .returned (.bool true) ∧ Below w.heap.size w w' := by
  obtain ⟨A, c, rfl, a1, a2, a3, -⟩ := id hs
  unfold maxLen at a2
  have HS := Lib.hid hs
  clear hs
  go_enter Try.func4, Try.ntmps4
  go_wp2_with fail
  refine (alive_calls _).mono ?_
  rintro e w1 ⟨rfl, hb⟩
  go_wp2_with fail
  refine (s_new w1 1048576 1 (fun _ => 0) (by decide) (by decide)).mono ?_
  rintro e w2 ⟨pt, χ2, rfl, -, ag, ht, hb2⟩
  have L2 : Lw w χ2 w2 pt 1048576 [] [] 0 := ⟨ht.congr (by simp), hb.trans (hb2.mono hb.size), fun b hl => ag b (Nat.lt_of_lt_of_le hl hb.size)⟩
  clear ag ht hb hb2
  have hks : ∀ k ∈ ks, k < 4294967296 := by
    intro k hk
    obtain ⟨i, hi, rfl⟩ := List.getElem_of_mem hk
    obtain ⟨_, _, _, _, h⟩ := HS.out.getU i hi
    exact h
  have HK := Lib.hid hks
  clear hks
  go_wp2
  go_loopw [43] (fun i wr => ∃ (k n : Nat) (χ : Col), k ≤ ks.length ∧ i = .int .i64 k ∧ n ≤ 33 * k ∧ Lw w χ wr pt 1048576 (rowI ks k) (evI ks k) n) (fun i _ => ks.length - (intOf i).toNat)
  case atStart => exact ⟨0, 0, χ2, by omega, rfl, by omega, L2⟩
  case round =>
    obtain ⟨k, n, χ, hk, rfl, hn33, L⟩ := hrel
    by_cases hlt : k < ks.length
    · obtain ⟨gb, go, rfl, hcell0, hkl⟩ := HS.out.getU k hlt
      have hcell := below_cell L.bel hcell0
      have hE := Lib.hid (evI_succ ks k hlt)
      have hR : Hid (rowI ks (k + 1) = putL ks[k] k (rowI ks k)) := by show putL (ks.getD k 0) k _ = _; simp [hlt]
      have hm := lackL_le (evI ks k) ks[k]
      have hev : ∀ x ∈ evI ks k, x < 4294967296 := fun x hx => HK.out x (List.mem_of_mem_take (List.mem_reverse.1 hx))
      have hG : Hid (ks.getD k 0 = ks[k]) := by show _ = _; simp [hlt]
      go_wp2_with fail
      refine (s_putok wr ks[k] (lackL (evI ks k) ks[k]) k L hev hkl (by unfold wrap64; omega) (by decide) rfl (by omega)).mono ?_
      rintro e w3 ⟨rfl, hs⟩
      obtain ⟨χ3, -, -, L3⟩ := L.put hs
      go_wp2
      go_roundw
      case rel => exact ⟨k + 1, n + lackL (evI ks k) ks[k], χ3, hlt, by go_num, by omega, by rw [hE.out, hR.out, hG.out]; exact L3⟩
      case measure => simp [intOf]; omega
    · have hkk : k = ks.length := by omega
      subst hkk
      have hrl := rowI_len ks ks.length
      have hev : evI ks ks.length = ks.reverse := by unfold evI; rw [List.take_length]
      rw [hev] at L
      obtain ⟨row, hrow⟩ : ∃ row, row = rowI ks ks.length := ⟨_, rfl⟩
      rw [← hrow] at L hrl
      have hsrt := L.tr.len
      have F1 : Hid (row.filter (inS 0 4294967295) = row) := filter_whole hsrt.2
      have F2 := Lib.hid (filter_split hsrt.1 h1 h2)
      have F3 := Lib.hid (filter_len (inS lo cut) row)
      have F4 := Lib.hid (filter_sum (inS lo cut) row)
      clear hrow hsrt hev
      obtain ⟨ls, lm, lx, hAL0, HLS⟩ : ∃ ls lm lx, agV (vals row) = ⟨row.length, ls, lm, lx⟩ ∧ Hid (ls = wrap64 (sumV (vals row))) := let ⟨mn, mx, h⟩ := agV_form row; ⟨_, mn, mx, h, rfl⟩
      obtain ⟨AL, hALd⟩ : ∃ AL, AL = (⟨row.length, ls, lm, lx⟩ : Ag) := ⟨_, rfl⟩
      have hAL : AL = agV (vals row) := hALd.trans hAL0.symm
      subst hALd
      obtain ⟨AA, hAA⟩ : ∃ AA, AA = agV (vals (row.filter (inS lo cut))) := ⟨_, rfl⟩
      obtain ⟨AB, hAB⟩ : ∃ AB, AB = agV (vals (row.filter (inS (cut + 1) hi))) := ⟨_, rfl⟩
      have E1 := Lib.hid hAL
      have E2 := Lib.hid hAA
      have E3 := Lib.hid hAB
      clear hAL hAA hAB hAL0
      have M : Hid (agV (vals (row.filter (inS lo hi))) = Ag.merge AA AB) := by
        show _ = _
        rw [E2.out, E3.out, merge_agV, F2.out]
        · simp
        · have g1 := List.length_filter_le (inS lo cut) row
          have g2 := List.length_filter_le (inS (cut + 1) hi) row
          rw [List.length_append, List.length_map, List.length_map]; omega
      clear F2
      obtain ⟨cn, hcn⟩ : ∃ cn, cn = cut + 1 := ⟨_, rfl⟩
      rw [← hcn] at E3
      have cu : ((cut : Int) + 1) % 4294967296 = (cn : Int) := by omega
      have cu3 : (cut : Int) + 1 = (cn : Int) := by omega
      have cu4 : IntKind.u32.wrap (cn : Int) = (cn : Int) := by rw [IntKind.wrap_u32']; omega
      have HCN := Lib.hid hcn
      clear hcn
      have K3 := L.alloc (BoxS 0 4294967295)
      have D3 : Dats (paint χ wr.heap.size 10) (wr.alloc (BoxS 0 4294967295)) [(wr.heap.size, BoxS 0 4294967295)] := Dats.alloc (L := []) (fun p hp => by simp at hp) _
      clear L
      obtain ⟨⟨x0, x1⟩, -⟩ := cells2 (D3 _ (.head _)).at_
      go_wp2_with fail
      refine (s_fold _ 0 4294967295 K3.tr).mono ?_
      rw [F1.out, ← E1.out]
      rintro e w4 ⟨rfl, hs⟩
      obtain ⟨χ4, ag, ch, K4⟩ := K3.call hs
      have D4 := D3.call ag ch
      have K5 := K4.alloc (BoxA ⟨row.length, ls, lm, lx⟩)
      have D5 := D4.alloc (BoxA ⟨row.length, ls, lm, lx⟩)
      clear K3 D3 hs ag ch K4 D4 x0 x1
      simp only [Ag.val]
      go_wp2_with fail
      refine (s_fold _ lo cut K5.tr).mono ?_
      rw [← E2.out]
      rintro e w6 ⟨rfl, hs⟩
      obtain ⟨χ6, ag, ch, K6⟩ := K5.call hs
      have D6 := D5.call ag ch
      clear K5 D5 hs ag ch
      simp only [Ag.val]
      go_wp2_with fail
      refine (s_fold _ cn hi K6.tr).mono ?_
      rw [← E3.out]
      rintro e w7 ⟨rfl, hs⟩
      obtain ⟨χ7, ag, ch, K7⟩ := K6.call hs
      have D7 := D6.call ag ch
      have K8 := (K7.alloc (BoxA AA)).alloc (BoxA AB)
      have D8 := (D7.alloc (BoxA AA)).alloc (BoxA AB)
      clear K6 D6 hs ag ch K7 D7
      simp only [Ag.val]
      go_wp2
      obtain ⟨χ8, hχ8⟩ : ∃ χ8, χ8 = paint (paint χ7 w7.heap.size 10) (w7.alloc (BoxA AA)).heap.size 10 := ⟨_, rfl⟩
      rw [← hχ8] at D8 K8
      rw [World.size_alloc] at D8
      obtain ⟨W8, hW8⟩ : ∃ W8, W8 = (w7.alloc (BoxA AA)).alloc (BoxA AB) := ⟨_, rfl⟩
      rw [← hW8] at D8 K8 ⊢
      clear hW8 hχ8
      obtain ⟨b13, hb13⟩ : ∃ b, b = wr.heap.size := ⟨_, rfl⟩
      obtain ⟨b14, hb14⟩ : ∃ b, b = w4.heap.size := ⟨_, rfl⟩
      obtain ⟨b15, hb15⟩ : ∃ b, b = w7.heap.size := ⟨_, rfl⟩
      obtain ⟨b16, hb16⟩ : ∃ b, b = w7.heap.size + 1 := ⟨_, rfl⟩
      rw [← hb16] at D8 ⊢
      rw [← hb13, ← hb14, ← hb15] at D8 ⊢
      clear hb13 hb14 hb15 hb16
      obtain ⟨MM, hMM⟩ : ∃ MM, MM = Ag.merge AA AB := ⟨_, rfl⟩
      obtain ⟨X, Y, fm, fx, G2, hX, hY⟩ : ∃ X Y fm fx, Hid (agV (vals (row.filter (fun x => !inS lo cut x))) = ⟨X, Y, fm, fx⟩) ∧ Hid ((X != IntKind.i64.wrap ((row.length : Int) - AA.c)) = false) ∧ Hid ((Y != IntKind.i64.wrap (ls - AA.s)) = false) := by
        obtain ⟨mn, mx, hf⟩ := agV_form (row.filter (fun x => !inS lo cut x))
        refine ⟨_, _, mn, mx, hf, ?_, ?_⟩
        · show _ = _
          rw [E2.out, agV_len, List.length_map, i64w, bne_eq_false_iff_eq]
          have := F3.out
          unfold wrap64; omega
        · show _ = _
          rw [E2.out, agV_s, HLS.out, i64w, bne_eq_false_iff_eq]
          have := F4.out
          unfold wrap64; omega
      clear HLS F3 F4
      have HM := Lib.hid hMM
      rw [← hMM] at M
      clear hMM
      have K9 := K8.below (undrew_r (Below.refl _ W8)) 10
      have D9 := D8.below (undrew_r (Below.refl _ W8))
      have c9 := D9.agm b14 b15 b16 ⟨row.length, ls, lm, lx⟩ AA AB (by simp) (by simp) (by simp)
      clear K8 D8
      first
        | (go_region_held3 (fun W => (W.cell? ⟨b14, 0, none⟩ = some (.int .i64 row.length) ∧ W.cell? ⟨b14, 1, none⟩ = some (.int .i64 ls) ∧ W.cell? ⟨b14, 2, none⟩ = some (.int .i64 lm) ∧ W.cell? ⟨b14, 3, none⟩ = some (.int .i64 lx)) ∧
    (W.cell? ⟨b15, 0, none⟩ = some (.int .i64 AA.c) ∧ W.cell? ⟨b15, 1, none⟩ = some (.int .i64 AA.s) ∧ W.cell? ⟨b15, 2, none⟩ = some (.int .i64 AA.mn) ∧ W.cell? ⟨b15, 3, none⟩ = some (.int .i64 AA.mx)) ∧
    (W.cell? ⟨b16, 0, none⟩ = some (.int .i64 AB.c) ∧ W.cell? ⟨b16, 1, none⟩ = some (.int .i64 AB.s) ∧ W.cell? ⟨b16, 2, none⟩ = some (.int .i64 AB.mn) ∧ W.cell? ⟨b16, 3, none⟩ = some (.int .i64 AB.mx)))
            (first | with_reducible exact c9 | with_reducible exact c10 | with_reducible exact c11 | with_reducible exact c12)
            (first
              | (go_at_call 23; have hS := K11; refine (s_pairs1 _ 1000 20 K11 (by decide) (by omega)).mono ?_; rintro e w12 hs; obtain ⟨A2, cap2, χ12, rfl, ag, ch, K12, -⟩ := K11.pairs hs (by omega); have D12 := D11.call ag ch; have c12 := D12.agm b14 b15 b16 ⟨row.length, ls, lm, lx⟩ AA AB (by simp) (by simp) (by simp))
              | (go_at_call 24; have hS := K10; refine (refMerge_calls _ AA AB).mono ?_; rw [← HM.out]; rintro e w11 ⟨rfl, hb11⟩; have K11 := K10.below hb11 10; have D11 := D10.below hb11; have c11 := D11.agm b14 b15 b16 ⟨row.length, ls, lm, lx⟩ AA AB (by simp) (by simp) (by simp); simp only [Ag.val])
              | (go_at_call 18; refine (s_fold _ lo hi K9.tr).mono ?_; rw [M.out]; rintro e w10 ⟨rfl, hs⟩; obtain ⟨χ10, ag, ch, K10⟩ := K9.call hs; have D10 := D9.call ag ch; have c10 := D10.agm b14 b15 b16 ⟨row.length, ls, lm, lx⟩ AA AB (by simp) (by simp) (by simp); simp only [Ag.val])))
        | fail
      clear K9 K10 K11 c9 c10 c11 c12 D9 D10 D11
      go_wp2_with fail
      refine (s_kill _ lo cut K12.tr).mono ?_
      rw [← E2.out]
      rintro e w13 ⟨rfl, hs⟩
      obtain ⟨χ13, ag, ch, K13⟩ := K12.call hs
      have D13 := D12.call ag ch
      clear K12 D12 hs ag ch
      have F5 : Hid ((row.filter (fun x => !inS lo cut x)).filter (inS 0 4294967295) = row.filter (fun x => !inS lo cut x)) := filter_whole K13.tr.len.2
      obtain ⟨⟨x0, x1⟩, -⟩ := cells2 (D13 (b13, BoxS 0 4294967295) (by simp)).at_
      go_wp2_with fail
      refine (s_fold _ 0 4294967295 K13.tr).mono ?_
      rw [F5.out, G2.out]
      rintro e w14 ⟨rfl, hs⟩
      obtain ⟨χ14, ag, ch, K14⟩ := K13.call hs
      have D14 := D13.call ag ch
      have K15 := K14.alloc (BoxA ⟨X, Y, fm, fx⟩)
      have D15 := D14.alloc (BoxA ⟨X, Y, fm, fx⟩)
      clear K13 D13 hs ag ch K14 D14 x0 x1
      simp only [Ag.val]
      have HZ : Hid (agV (vals ((row.filter (fun x => !inS lo cut x)).filter (inS lo cut))) = ⟨0, 0, 0, 0⟩) := by show _ = _; rw [filter_kill]; rfl
      have HB2 : Hid (agV (vals ((row.filter (fun x => !inS lo cut x)).filter (inS cn hi))) = AB) := by show _ = _; rw [HCN.out, filter_rest, ← HCN.out]; exact E3.out.symm
      go_wp2
      obtain ⟨W15, hW15⟩ : ∃ W15, W15 = w14.alloc (BoxA ⟨X, Y, fm, fx⟩) := ⟨_, rfl⟩
      rw [← hW15] at D15 K15 ⊢
      clear hW15
      obtain ⟨b18, hb18⟩ : ∃ b, b = w14.heap.size := ⟨_, rfl⟩
      rw [← hb18] at D15 K15 ⊢
      clear hb18
      have G0 : True := trivial
      have hX' := hX.out
      have hY' := hY.out
      have K16 := K15.below (undrew_r (Below.refl _ W15)) 10
      have D16 := D15.below (undrew_r (Below.refl _ W15))
      have c16 := D16.agm2 b14 b15 b16 b18 ⟨row.length, ls, lm, lx⟩ AA AB ⟨X, Y, fm, fx⟩ (by simp) (by simp) (by simp) (by simp)
      clear K15 D15
      first
        | (go_region_held3 (fun W => (W.cell? ⟨b14, 0, none⟩ = some (.int .i64 row.length) ∧ W.cell? ⟨b14, 1, none⟩ = some (.int .i64 ls) ∧ W.cell? ⟨b14, 2, none⟩ = some (.int .i64 lm) ∧ W.cell? ⟨b14, 3, none⟩ = some (.int .i64 lx)) ∧
    (W.cell? ⟨b15, 0, none⟩ = some (.int .i64 AA.c) ∧ W.cell? ⟨b15, 1, none⟩ = some (.int .i64 AA.s) ∧ W.cell? ⟨b15, 2, none⟩ = some (.int .i64 AA.mn) ∧ W.cell? ⟨b15, 3, none⟩ = some (.int .i64 AA.mx)) ∧
    (W.cell? ⟨b16, 0, none⟩ = some (.int .i64 AB.c) ∧ W.cell? ⟨b16, 1, none⟩ = some (.int .i64 AB.s) ∧ W.cell? ⟨b16, 2, none⟩ = some (.int .i64 AB.mn) ∧ W.cell? ⟨b16, 3, none⟩ = some (.int .i64 AB.mx)) ∧
    W.cell? ⟨b18, 0, none⟩ = some (.int .i64 X) ∧ W.cell? ⟨b18, 1, none⟩ = some (.int .i64 Y))
            (first | with_reducible exact c16 | with_reducible exact c17 | with_reducible exact c18)
            (first
              | (go_at_call 18; have hS := K17; refine (s_fold _ cn hi K17.tr).mono ?_; rw [HB2.out]; rintro e w18 ⟨rfl, hs⟩; obtain ⟨χ18, ag, ch, K18⟩ := K17.call hs; have D18 := D17.call ag ch; have c18 := D18.agm2 b14 b15 b16 b18 ⟨row.length, ls, lm, lx⟩ AA AB ⟨X, Y, fm, fx⟩ (by simp) (by simp) (by simp) (by simp); simp only [Ag.val])
              | (go_at_call 18; clear G0; refine (s_fold _ lo cut K16.tr).mono ?_; rw [HZ.out]; rintro e w17 ⟨rfl, hs⟩; obtain ⟨χ17, ag, ch, K17⟩ := K16.call hs; have D17 := D16.call ag ch; have c17 := D17.agm2 b14 b15 b16 b18 ⟨row.length, ls, lm, lx⟩ AA AB ⟨X, Y, fm, fx⟩ (by simp) (by simp) (by simp) (by simp); simp only [Ag.val])))
        | fail
      clear K16 K17 c16 c17 c18 D16 D17 D18 HZ HB2 G2 F5 F1
      go_wp2_with fail
      refine (s_nodes _ K18.tr).mono ?_
      rintro e w19 ⟨rfl, rfl⟩
      obtain ⟨row2, hrow2⟩ : ∃ r2, r2 = row.filter (fun x => !inS lo cut x) := ⟨_, rfl⟩
      rw [← hrow2] at K18
      clear hrow2 hX hY hX' hY' cu cu3 cu4 HCN E1 E2 E3
      by_cases hz : ks.length = 0
      · have hn0 : n = 0 := by omega
        subst hn0
        have hzi : (ks.length : Int) = 0 := by omega
        go_wp2_with fail
        refine (s_nodes _ K18.tr).mono ?_
        rintro e w20 ⟨rfl, rfl⟩
        go_wp2
        go_ret
        exact ⟨rfl, K18.bel⟩
      · have hpos : 0 < ks.length := by omega
        have hposI : (0 : Int) < ks.length := by omega
        have hzi : ((ks.length : Int) == 0) = false := beq_eq_false_iff_ne.2 (by omega)
        obtain ⟨gb, go, rfl, hcell0, hkl⟩ := HS.out.getU 0 hpos
        rw [Nat.add_zero] at hcell0
        have hcell := below_cell K18.bel hcell0
        have hmem : ks[0] ∈ ks.reverse := by simp
        have hm0 := lackL_mem hmem
        have hks : ∀ x ∈ ks.reverse, x < 4294967296 := fun x hx => HK.out x (List.mem_reverse.1 hx)
        obtain ⟨k0, hk0⟩ : ∃ k0, k0 = ks[0] := ⟨_, rfl⟩
        rw [← hk0] at hcell0 hcell hkl hm0
        clear hk0 hmem
        have HM0 := Lib.hid hm0
        have HKS := Lib.hid hks
        clear hm0 hks
        go_wp2_with fail
        refine (s_putok _ k0 0 77 K18 HKS.out hkl (by unfold wrap64; omega) (by decide) HM0.out (by omega)).mono ?_
        rintro e w20 ⟨rfl, hs⟩
        obtain ⟨χ20, ag, ch, K20⟩ := K18.put hs
        clear K18 hs ag ch
        have hcell2 := below_cell K20.bel hcell0
        have HG : Hid (agV (vals ((putL k0 77 row2).filter (inS k0 k0))) = ⟨1, 77, 77, 77⟩) := by show _ = _; rw [putL_get]; simp [agV, sumV, minV, maxV, wrap64]
        go_wp2_with fail
        refine (s_get _ k0 K20.tr).mono ?_
        rw [HG.out]
        rintro e w21 ⟨rfl, hs⟩
        obtain ⟨χ21, ag, ch, K21⟩ := K20.call hs
        clear K20 hs ag ch
        go_wp2_with fail
        refine (s_nodes _ K21.tr).mono ?_
        rintro e w22 ⟨rfl, rfl⟩
        have HK0 : Hid (agV (vals ((putL k0 77 row2).filter (inS 1 0))) = ⟨0, 0, 0, 0⟩) := by show _ = _; rw [filter_none]; rfl
        go_wp2_with fail
        refine (s_kill _ 1 0 K21.tr).mono ?_
        rw [HK0.out]
        rintro e w23 ⟨rfl, hs⟩
        obtain ⟨χ23, ag, ch, K23⟩ := K21.call hs
        go_wp2
        go_ret
        exact ⟨rfl, K23.bel⟩

theorem spans_law (w : World) (v : Value) (ks : List Nat) (lo cut hi : Int) (hs : IsU 0 (fun _ => 0) w v ks) (hlo : (Lit.int .u32 lo).wf = true) (hcut : (Lit.int .u32 cut).wf = true) (hhi : (Lit.int .u32 hi).wf = true) :
    Calls Try.prog 4 #[v, .int .u32 lo, .int .u32 cut, .int .u32 hi] w fun e w' => e = .returned (.bool true) ∧ Below w.heap.size w w' := by
  obtain ⟨lo, rfl, -⟩ := u32_nat hlo
  obtain ⟨cut, rfl, -⟩ := u32_nat hcut
  obtain ⟨hi, rfl, h3⟩ := u32_nat hhi
  by_cases h : 40 < ks.length ∨ cut < lo ∨ hi ≤ cut
  · exact spans_no w v ks lo cut hi hs h
  · exact spans_yes w v ks lo cut hi hs (by omega) (by omega) (by omega) h3
end Go.Proofs.Ytcdldjiogoapkaa
