import Derived.Test.YtcdldjiogoapkaaSgAJ
namespace Go.Proofs.Ytcdldjiogoapkaa
open Go.RowKit
attribute [local go_sem] World.cell?_alloc_some frozen_alloc_some field_na field_ac field_as

def rPair : Rp (Nat × Int) := fun _ _ cs x => cs = [.int .u32 x.1, .int .i64 x.2]
theorem rPair_on (D : Nat → Prop) : rPair.On D := fun _ _ _ _ _ _ h _ => h
/-- A slice of pairs, to be read. -/
abbrev RdP (c : Nat) (χ : Col) (w : World) (v : Value) (xs : List (Nat × Int)) : Prop := IsL 2 rPair c χ w v xs
theorem RdP.keep {c : Nat} {χ χ' : Col} {w w' : World} {v : Value} {xs : List (Nat × Int)} (h : RdP c χ w v xs) (hs : Same (· = c) χ χ' w w') : RdP c χ' w' v xs :=
  IsL.keep (D := (· = c)) (by omega) (rPair_on _) rfl h hs
theorem pcells_at (xs : List (Nat × Int)) (i : Nat) (hi : i < xs.length) : ((xs.flatMap pcells).drop (i * 2)).take 2 = pcells xs[i] := by
  induction xs generalizing i with
  | nil => simp at hi
  | cons x xs ih =>
    cases i with
    | zero => simp [pcells]
    | succ i =>
      have : (i + 1) * 2 = i * 2 + 2 := by omega
      rw [List.flatMap_cons, this, show pcells x ++ xs.flatMap pcells = .int .u32 x.1 :: .int .i64 x.2 :: xs.flatMap pcells from rfl]
      simp only [List.drop_succ_cons, List.getElem_cons_succ]
      exact ih i (by simpa using hi)
theorem IsP.rd {c : Nat} {χ : Col} {w : World} {v : Value} {xs : List (Nat × Int)} (h : IsP c χ w v xs) : RdP c χ w v xs := by
  obtain ⟨A, cap, rfl⟩ := owns_form h.1
  have hl : xs.length ≤ 9223372036854775807 := by
    obtain ⟨_, (⟨_, hn⟩ | ⟨g, _, cur, e, hg, hh, hcap, hmax, hcs, htk⟩)⟩ := id h.1
    · omega
    · unfold maxLen at hmax; omega
  exact IsL.of_owns (by omega) h.1 hl h.2 (fun i hi => pcells_at xs i hi)
theorem IsL.getP {c : Nat} {χ : Col} {w : World} {A : Option Addr} {cap n : Nat} {xs : List (Nat × Int)} (h : RdP c χ w (.slice A n cap) xs) (i : Nat) (hi : i < xs.length) :
    ∃ b o, A = some ⟨b, o, none⟩ ∧ w.cell? ⟨b, o + i * 2, none⟩ = some (.int .u32 xs[i].1) ∧ w.cell? ⟨b, o + i * 2 + 1, none⟩ = some (.int .i64 xs[i].2) := by
  obtain ⟨A', c', e, h1, h2, h3, h4⟩ := h
  cases e
  obtain ⟨b, o, cs, e, hb, hl, rfl, hc⟩ := h4 i hi
  exact ⟨b, o, e, by simpa using hc 0 (by simp), by simpa using hc 1 (by simp)⟩

/-- A slice of int64s of a law's own, its block of color c. -/
def OwnV (c : Nat) (χ : Col) (W : World) (v : Value) (xs : List Int) : Prop := W.ownsRow 0 2 1 v xs.length (xs.map (Value.int .i64)) ∧ ∀ b, v.ownBlock = some b → χ b = c
theorem OwnV.keep {c : Nat} {χ χ' : Col} {w w' : World} {v : Value} {xs : List Int} (h : OwnV c χ w v xs) (hs : Same (· = c) χ χ' w w') : OwnV c χ' w' v xs :=
  ⟨owns_same h.1 fun b e => (hs b (h.1.lt b e).2 (h.2 b e)).2, fun b e => ((hs b (h.1.lt b e).2 (h.2 b e)).1).trans (h.2 b e)⟩
theorem OwnV.isI {c : Nat} {χ : Col} {w : World} {v : Value} {xs : List Int} (h : OwnV c χ w v xs) : IsI c χ w v xs := by
  obtain ⟨h1, h2⟩ := h
  obtain ⟨A, cap, rfl⟩ := owns_form h1
  have hl : xs.length ≤ 9223372036854775807 := by
    obtain ⟨_, (⟨_, hn⟩ | ⟨g, _, cur, e, hg, hh, hcap, hmax, hcs, htk⟩)⟩ := id h1
    · omega
    · unfold maxLen at hmax; omega
  refine IsL.of_owns (by omega) h1 hl h2 (fun i hi => ?_)
  show _ = _
  rw [Nat.mul_one, List.drop_eq_getElem_cons (by simpa using hi)]
  simp

variable {w : World} {χ : Col} {W W' : World} {pt n n' : Nat} {lim : Int} {row row' : List (Nat × Int)} {ever : List Nat}
theorem Lw.other {χ' : Col} {c : Nat} (h : Lw w χ W pt lim row ever n) (hc3 : 3 < c) (ag : ∀ b, b < W.heap.size → χ' b = χ b) (hc : Chg χ (· = c) W W') : Lw w χ' W' pt lim row ever n :=
  ⟨h.tr.keep (Same.chg' hc ag fun x hx e => by omega), h.bel.trans (hc.below (fun b hb e => by rw [h.low b hb] at e; omega) h.bel.size), fun b hb => (ag b (Nat.lt_of_lt_of_le hb h.bel.size)).trans (h.low b hb)⟩
theorem Dats.other {χ' : Col} {L : List (Nat × Obj)} {c : Nat} (d : Dats χ W L) (hn : 15 ≤ c) (ag : ∀ b, b < W.heap.size → χ' b = χ b) (hc : Chg χ (· = c) W W') : Dats χ' W' L := fun p hp => by
  have hb := (Array.getElem?_eq_some_iff.1 (d p hp).at_).1
  exact ⟨by rw [ag _ hb]; exact (d p hp).col, (hc.blk _ hb (by have := (d p hp).col; omega)).trans (d p hp).at_⟩
theorem Dats.belowc {L : List (Nat × Obj)} (d : Dats χ W L) (hb : Below W.heap.size W W') (c : Nat) : Dats (paint χ W.heap.size c) W' L := fun p hp => (d p hp).below hb c
theorem OwnV.new (χ : Col) (W : World) (c : Nat) : OwnV c (paint χ W.heap.size c) (W.alloc (.cells #[] 2)) (.slice (some ⟨W.heap.size, 0, none⟩) 0 0) [] := by
  have o2 := World.ownsRow_made (base := 0) (e := 2) (size := 1) W #[] 0 (Nat.zero_le _) (Nat.zero_le _) rfl
  exact ⟨o2, fun b e => by cases e; exact paint_high (Nat.le_refl _)⟩
theorem OwnV.below {c : Nat} {v : Value} {xs : List Int} (h : OwnV c χ W v xs) (hb : Below W.heap.size W W') (c' : Nat) : OwnV c (paint χ W.heap.size c') W' v xs := h.keep (Same.below c' hb)
theorem IsP.below {c : Nat} {v : Value} {xs : List (Nat × Int)} (h : IsP c χ W v xs) (hb : Below W.heap.size W W') (c' : Nat) : IsP c (paint χ W.heap.size c') W' v xs := h.keep (Same.below c' hb)
theorem OwnV.push {c : Nat} {v v' : Value} {xs : List Int} {x : Int} {o : Obj} {w1 : World} (h : OwnV c χ W v xs) (hown : w1.ownsRow 0 2 1 v' (xs.length + 1) (xs.map (Value.int .i64) ++ [.int .i64 x])) (hg : (W.alloc o).grownBy w1 v.ownBlock) (hat : v'.ownBlock = v.ownBlock ∨ v'.ownBlock = some (W.alloc o).heap.size) :
    OwnV c (paint χ W.heap.size c) w1 v' (xs ++ [x]) ∧ Chg χ (· = c) W w1 := by
  obtain ⟨p1, p2⟩ := own_push h.1 h.2 hg hat
  refine ⟨⟨?_, p1⟩, p2⟩
  rw [List.length_append, List.map_append]
  exact hown
theorem IsP.other {χ' : Col} {c c' : Nat} {v : Value} {xs : List (Nat × Int)} (h : IsP c χ W v xs) (hc : c ≠ c') (ag : ∀ b, b < W.heap.size → χ' b = χ b) (ch : Chg χ (· = c') W W') : IsP c χ' W' v xs :=
  h.keep (Same.chg' ch ag fun _ hx e => hc (hx.symm.trans e))
theorem Lw.start {w W W' : World} {χ χ' : Col} {pt : Nat} {l : Int} (hb : Below w.heap.size w W) (low : ∀ b, b < w.heap.size → χ b = 0) (ag : ∀ b, b < W.heap.size → χ' b = χ b) (ht : STr 1 χ' W' pt l [] (fun _ => False) 0) (hb2 : Below W.heap.size W W') : Lw w χ' W' pt l [] [] 0 :=
  ⟨ht.congr (by simp), hb.trans (hb2.mono hb.size), fun b hl => (ag b (Nat.lt_of_lt_of_le hl hb.size)).trans (low b hl)⟩

theorem infoI64 : (Try.prog.info? 2).map (fun i => (i.zero, i.size, i.bytes)) = some (some (.int .i64 0), 1, 8) := by kernel_rfl

/-- The rows that All makes. -/
def rowA (ks : List Nat) (klo khi : Nat) : Nat → List (Nat × Int)
  | 0 => []
  | i + 1 => if i = ks.length / 2 then (putL (ks.getD i 0) ((i : Int) * i - 9) (rowA ks klo khi i)).filter (fun x => !inS klo khi x) else putL (ks.getD i 0) ((i : Int) * i - 9) (rowA ks klo khi i)
theorem rowA_len (ks : List Nat) (klo khi : Nat) (i : Nat) : (rowA ks klo khi i).length ≤ i := by
  induction i with
  | zero => exact Nat.le_refl _
  | succ i ih =>
    have h := putL_len (ks.getD i 0) ((i : Int) * i - 9) (rowA ks klo khi i)
    show (if _ then _ else _ : List (Nat × Int)).length ≤ _
    split
    · exact Nat.le_trans (List.length_filter_le _ _) (by omega)
    · omega

set_option maxRecDepth 100000 in
set_option maxHeartbeats 4000000 in
theorem all_no (w : World) (v : Value) (ks : List Nat) (klo khi slo shi : Nat) (hs : IsU 0 (fun _ => 0) w v ks) (h : 40 < ks.length) :
    Calls Try.prog 6 #[v, spn klo khi, spn slo shi] w fun e w' => e = .returned (.bool true) ∧ Below w.heap.size w w' := by
  obtain ⟨A, c, rfl, a1, a2, a3, -⟩ := id hs
  unfold maxLen at a2
  clear hs
  have k1 : (40 : Int) < ks.length := by omega
  have hb0 : Below w.heap.size w ((w.alloc (BoxS klo khi)).alloc (BoxS slo shi)) := ((Below.refl _ w).alloc (Nat.le_refl _) _).alloc (by simp) _
  go_enter Try.func6, Try.ntmps6
  go_wp2_with fail
  refine (alive_calls _).mono ?_
  rintro e w1 ⟨rfl, hb⟩
  go_wp2
  go_ret
  exact ⟨rfl, hb0.trans (hb.mono hb0.size)⟩

set_option maxRecDepth 100000 in
set_option maxHeartbeats 4000000 in
theorem all_yes (w : World) (v : Value) (ks : List Nat) (klo khi slo shi : Nat) (hs : IsU 0 (fun _ => 0) w v ks) (hn : ks.length ≤ 40) (_ : klo < 4294967296) (_ : khi < 4294967296) (_ : slo < 4294967296) (_ : shi < 4294967296) :
    Calls Try.prog 6 #[v, spn klo khi, spn slo shi] w fun e w' => e = .returned (.bool true) ∧ Below w.heap.size w w' := by
  obtain ⟨A, c, rfl, a1, a2, a3, -⟩ := id hs
  unfold maxLen at a2
  have HS := Lib.hid hs
  clear hs
  have hb0 : Below w.heap.size w ((w.alloc (BoxS klo khi)).alloc (BoxS slo shi)) := ((Below.refl _ w).alloc (Nat.le_refl _) _).alloc (by simp) _
  have D0 : Dats (paint (paint (fun _ => 0) w.heap.size 10) (w.alloc (BoxS klo khi)).heap.size 10) ((w.alloc (BoxS klo khi)).alloc (BoxS slo shi)) [((w.alloc (BoxS klo khi)).heap.size, BoxS slo shi), (w.heap.size, BoxS klo khi)] :=
    Dats.alloc (Dats.alloc (L := []) (fun p hp => by simp at hp) _) _
  go_enter Try.func6, Try.ntmps6
  go_wp2_with fail
  refine (alive_calls _).mono ?_
  rintro e w1 ⟨rfl, hb⟩
  have D1 := D0.below hb
  have hb1 := hb0.trans (hb.mono hb0.size)
  obtain ⟨χ1, hχ1⟩ : ∃ χ1, χ1 = paint (paint (paint (fun _ => 0) w.heap.size 10) (w.alloc (BoxS klo khi)).heap.size 10) ((w.alloc (BoxS klo khi)).alloc (BoxS slo shi)).heap.size 10 := ⟨_, rfl⟩
  have low1 : ∀ b, b < w.heap.size → χ1 b = 0 := fun b hl => by
    rw [hχ1, paint_low (by simp; omega), paint_low (by simp; omega), paint_low hl]
  rw [← hχ1] at D1
  rw [World.size_alloc] at D1
  clear hb hχ1 D0 hb0
  go_wp2_with fail
  refine (s_new w1 1048576 1 χ1 (by decide) (by decide)).mono ?_
  rintro e w2 ⟨pt, χ2, rfl, -, ag, ht, hb2⟩
  have L2 := Lw.start hb1 low1 ag ht hb2
  have D2 : Dats χ2 w2 [(w.heap.size + 1, BoxS slo shi), (w.heap.size, BoxS klo khi)] := D1.call ag (Chg.of_below hb2)
  clear ag ht hb2 D1 hb1
  have hks : ∀ k ∈ ks, k < 4294967296 := by
    intro k hk
    obtain ⟨i, hi, rfl⟩ := List.getElem_of_mem hk
    obtain ⟨_, _, _, _, h⟩ := HS.out.getU i hi
    exact h
  have HK := Lib.hid hks
  clear hks
  go_wp2
  go_loopw [25] (fun i wr => ∃ (k n : Nat) (χ : Col), k ≤ ks.length ∧ i = .int .i64 k ∧ n ≤ 33 * k ∧ Lw w χ wr pt 1048576 (rowA ks klo khi k) (evI ks k) n ∧ Dats χ wr [(w.heap.size + 1, BoxS slo shi), (w.heap.size, BoxS klo khi)]) (fun i _ => ks.length - (intOf i).toNat)
  case atStart => exact ⟨0, 0, χ2, by omega, rfl, by omega, L2, D2⟩
  case round =>
    obtain ⟨k, n, χ, hk, rfl, hn33, L, D⟩ := hrel
    by_cases hlt : k < ks.length
    · obtain ⟨gb, go, rfl, hcell0, hkl⟩ := HS.out.getU k hlt
      have hcell := below_cell L.bel hcell0
      have hE := Lib.hid (evI_succ ks k hlt)
      have hm := lackL_le (evI ks k) ks[k]
      obtain ⟨m, hmm⟩ : ∃ m, lackL (evI ks k) ks[k] = m := ⟨_, rfl⟩
      rw [hmm] at hm
      have HMM := Lib.hid hmm
      clear hmm
      have hev : ∀ x ∈ evI ks k, x < 4294967296 := fun x hx => HK.out x (List.mem_of_mem_take (List.mem_reverse.1 hx))
      have hG : Hid (ks.getD k 0 = ks[k]) := by show _ = _; simp [hlt]
      have hkk : (k : Int) * k ≤ 1600 := by
        have : k * k ≤ 40 * 40 := Nat.mul_le_mul (by omega) (by omega)
        have e : (k : Int) * k = ((k * k : Nat) : Int) := by push_cast; rfl
        omega
      have hkk0 : (0 : Int) ≤ (k : Int) * k := by
        have e : (k : Int) * k = ((k * k : Nat) : Int) := by push_cast; rfl
        omega
      go_wp2_with fail
      refine (s_putok wr ks[k] m ((k : Int) * k - 9) L hev hkl (by unfold wrap64; omega) (by decide) HMM.out (by omega)).mono ?_
      rintro e w3 ⟨rfl, hs⟩
      obtain ⟨χ3, ag, ch, L3⟩ := L.put hs
      have D3 := D.call ag ch
      clear L D hs ag ch
      by_cases hmid : k = ks.length / 2
      · have hR : Hid (rowA ks klo khi (k + 1) = (putL ks[k] ((k : Int) * k - 9) (rowA ks klo khi k)).filter (fun x => !inS klo khi x)) := by
          show (if k = ks.length / 2 then _ else _) = _
          rw [if_pos hmid, hG.out]
        subst hmid
        obtain ⟨⟨x0, x1⟩, -⟩ := cells2 (D3 (w.heap.size, BoxS klo khi) (by simp)).at_
        go_wp2_with fail
        refine (s_kill _ klo khi L3.tr).mono ?_
        rintro e w4 ⟨rfl, hs⟩
        obtain ⟨χ4, ag, ch, L4⟩ := L3.call hs
        have D4 := D3.call ag ch
        clear L3 D3 hs ag ch
        rw [← hR.out] at L4
        rw [← hG.out, ← hE.out] at L4
        go_wp2
        refine ⟨⟨ks.length / 2 + 1, n + m, χ4, by omega, by go_num, by omega, L4, D4⟩, by simp [intOf]; omega⟩
      · have hR : Hid (rowA ks klo khi (k + 1) = putL ks[k] ((k : Int) * k - 9) (rowA ks klo khi k)) := by
          show (if k = ks.length / 2 then _ else _) = _
          rw [if_neg hmid, hG.out]
        rw [← hR.out] at L3
        rw [← hG.out, ← hE.out] at L3
        go_wp2
        refine ⟨⟨k + 1, n + m, χ3, by omega, by go_num, by omega, L3, D3⟩, by simp [intOf]; omega⟩
    · have hkk : k = ks.length := by omega
      subst hkk
      have hrl := rowA_len ks klo khi ks.length
      obtain ⟨row, hrow⟩ : ∃ row, row = rowA ks klo khi ks.length := ⟨_, rfl⟩
      obtain ⟨ever, hev⟩ : ∃ ever, ever = evI ks ks.length := ⟨_, rfl⟩
      rw [← hrow, ← hev] at L
      rw [← hrow] at hrl
      clear hrow hev
      have hba := (Below.refl _ wr).alloc (Nat.le_refl _) (.cells #[] 2)
      have L3 := L.below hba 30
      have D3 := D.belowc hba 30
      have V3 := OwnV.new χ wr 30
      clear L D hba
      go_wp2_with fail
      refine (s_pairs1 _ 1000 20 L3 (by decide) (by omega)).mono ?_
      rintro e w4 hs
      obtain ⟨A4, cap4, χ4, rfl, ag, ch, L4, P4⟩ := L3.pairs hs (by omega)
      have D4 := D3.call ag ch
      have V4 : OwnV 30 χ4 w4 _ _ := V3.keep (Same.chg' ch ag fun x hx e => by obtain ⟨e1, e2⟩ := e; omega)
      clear L3 D3 V3 hs ag ch
      obtain ⟨i0, hi, hz0, hz1, hz2⟩ := info_parts infoI64
      go_wp2
      go_loopw [11, 50] (fun v i wr => ∃ (j : Nat) (χ : Col), j ≤ row.length ∧ i = .int .i64 j ∧ Lw w χ wr pt 1048576 row ever n ∧ Dats χ wr [(w.heap.size + 1, BoxS slo shi), (w.heap.size, BoxS klo khi)] ∧ IsP 20 χ wr (.slice A4 row.length cap4) row ∧ OwnV 30 χ wr v (vals ((row.take j).filter (inS slo shi)))) (fun _ i _ => row.length - (intOf i).toNat)
      case atStart => exact ⟨0, χ4, by omega, rfl, L4, D4, P4, V4⟩
      case round =>
        obtain ⟨j, χ, hj, rfl, L, D, P, V⟩ := hrel
        by_cases hltj : j < row.length
        · obtain ⟨gb, go, rfl, p0, p1⟩ := P.rd.getP j hltj
          obtain ⟨A5, cap5, rfl⟩ := owns_form V.1
          have hT : Hid ((row.take (j + 1)).filter (inS slo shi) = (row.take j).filter (inS slo shi) ++ [row[j]].filter (inS slo shi)) := by
            show _ = _; rw [List.take_succ_eq_append_getElem hltj, List.filter_append]
          have hfl : (vals ((row.take j).filter (inS slo shi))).length ≤ j := by rw [List.length_map]; exact Nat.le_trans (List.length_filter_le _ _) (by simp; omega)
          have hb5 := (Below.refl _ wr).alloc (Nat.le_refl _) (.cells #[.int .u32 row[j].1, .int .i64 row[j].2] 61)
          have L5 := L.below hb5 10
          have D5 := D.belowc hb5 10
          have P5 := P.below hb5 10
          have V5 := V.below hb5 10
          obtain ⟨⟨x0, x1⟩, -⟩ := cells2 (D5 (w.heap.size + 1, BoxS slo shi) (by simp)).at_
          by_cases c1 : slo ≤ row[j].1
          · by_cases c2 : row[j].1 ≤ shi
            · have V5o := V5.1
              go_wp2_with (at_builtin; refine wpList_append_own_at _ rfl _ _ 57 rfl 0 2 i0 _ 1 8 Try.underlying57 hi hz0 hz1 hz2 rfl (by decide) _ _ _ rfl (V5o.alloc _) ⟨wr.heap.size + 1, 0, none⟩ 1 1 [.int .i64 row[j].2] rfl rfl (World.news_of_block (by have := heap_alloc_new (wr.alloc (.cells #[.int .u32 row[j].1, .int .i64 row[j].2] 61)) (.cells #[.int .i64 row[j].2] 2); simpa using this)) (by simp [Value.oneCell']) (by unfold maxLen; omega) (by omega) (Nat.zero_le _) ?_; intro v' w6 hown' hgrow _ hat)
              obtain ⟨V6, ch6⟩ := V5.push hown' hgrow hat
              have ag6 : ∀ b, b < (wr.alloc (.cells #[.int .u32 row[j].1, .int .i64 row[j].2] 61)).heap.size → paint (paint χ wr.heap.size 10) (wr.alloc (.cells #[.int .u32 row[j].1, .int .i64 row[j].2] 61)).heap.size 30 b = paint χ wr.heap.size 10 b := fun b hb => paint_low hb
              refine ⟨⟨j + 1, _, hltj, by go_num, L5.other (by decide) ag6 ch6, D5.other (by decide) ag6 ch6, P5.other (by decide) ag6 ch6, ?_⟩, by simp [intOf]; omega⟩
              rw [hT.out, vals, List.map_append, List.filter_cons, if_pos (inS_iff.2 ⟨c1, c2⟩)]
              exact V6
            · go_wp2
              refine ⟨⟨j + 1, _, hltj, by go_num, L5, D5, P5, ?_⟩, by simp [intOf]; omega⟩
              rw [hT.out, List.filter_cons, if_neg (by rw [inS_iff]; omega), List.filter_nil, List.append_nil]
              exact V5
          · go_wp2
            refine ⟨⟨j + 1, _, hltj, by go_num, L5, D5, P5, ?_⟩, by simp [intOf]; omega⟩
            rw [hT.out, List.filter_cons, if_neg (by rw [inS_iff]; omega), List.filter_nil, List.append_nil]
            exact V5
        · have hjj : j = row.length := by omega
          subst hjj
          rw [List.take_length] at V
          obtain ⟨⟨x0, x1⟩, -⟩ := cells2 (D (w.heap.size + 1, BoxS slo shi) (by simp)).at_
          obtain ⟨vs, hvs⟩ : ∃ vs, vs = vals (row.filter (inS slo shi)) := ⟨_, rfl⟩
          rw [← hvs] at V
          have HV := Lib.hid hvs
          clear hvs
          go_wp2_with fail
          refine (s_fold _ slo shi L.tr).mono ?_
          rw [← HV.out]
          rintro e w6 ⟨rfl, hs⟩
          obtain ⟨χ6, ag, ch, L6⟩ := L.call hs
          have D6 := D.call ag ch
          have V6 : OwnV 30 χ6 w6 _ _ := V.keep (Same.chg' ch ag fun x hx e => by obtain ⟨e1, e2⟩ := e; omega)
          clear L D V P hs ag ch x0 x1
          obtain ⟨A5, cap5, rfl⟩ := owns_form V6.1
          go_wp2_with fail
          refine (refOf_calls _ _ _ V6.isI).mono ?_
          rintro e w7 ⟨rfl, hb7⟩
          have L7 := L6.below hb7 10
          have D7 := D6.belowc hb7 10
          clear L6 D6 V6 hb7
          obtain ⟨⟨x0, x1⟩, -⟩ := cells2 (D7 (w.heap.size + 1, BoxS slo shi) (by simp)).at_
          go_wp2_with fail
          refine (s_kill _ slo shi L7.tr).mono ?_
          rw [← HV.out, agV_len]
          rintro e w8 ⟨rfl, hs⟩
          obtain ⟨χ8, ag, ch, L8⟩ := L7.call hs
          go_wp2
          go_ret
          exact ⟨rfl, L8.bel⟩

theorem all_law (w : World) (v : Value) (ks : List Nat) (klo khi slo shi : Nat) (hs : IsU 0 (fun _ => 0) w v ks) (hk : klo < 4294967296 ∧ khi < 4294967296) (hs2 : slo < 4294967296 ∧ shi < 4294967296) :
    Calls Try.prog 6 #[v, spn klo khi, spn slo shi] w fun e w' => e = .returned (.bool true) ∧ Below w.heap.size w w' := by
  by_cases h : 40 < ks.length
  · exact all_no w v ks klo khi slo shi hs h
  · exact all_yes w v ks klo khi slo shi hs (by omega) hk.1 hk.2 hs2.1 hs2.2
end Go.Proofs.Ytcdldjiogoapkaa
