import Derived.Test.YtjlkkbjolfhobaaDoorArK
namespace Go.Proofs.YtjlkkbjolfhobaaDoor
open Go.RowKit
attribute [local go_sem] World.cell?_alloc_some frozen_alloc_some

/-- rows of areas that can be read. -/
def RdAA (w : World) (L : List (Value × Ar)) : Prop := ∀ p ∈ L, RdA w p.1 p.2
theorem RdAA.keep {w w' : World} {L : List (Value × Ar)} (h : RdAA w L) (hb : Below w.heap.size w w') : RdAA w' L := fun p hp => (h p hp).keep hb
theorem RdAA.cons {w : World} {L : List (Value × Ar)} {v : Value} {l : Ar} (h : RdAA w L) (hv : RdA w v l) : RdAA w ((v, l) :: L) := fun p hp => by
  rcases List.mem_cons.1 hp with rfl | hp
  · exact hv
  · exact h p hp
theorem RdAA.nil {w : World} : RdAA w [] := fun p hp => by simp at hp
theorem RdAA.at_ {w : World} {L : List (Value × Ar)} (h : RdAA w L) (i : Nat) {v : Value} {l : Ar} (hp : L[i]? = some (v, l)) : RdA w v l := h (v, l) (List.mem_of_getElem? hp)
theorem ar_ext {r m : Ar} (hl : r.length = m.length) (h : ∀ i, i < m.length → atA r i = atA m i) : r = m := by
  refine List.ext_getElem hl fun i h1 h2 => ?_
  have := h i h2
  rwa [atA_lt h1, atA_lt h2] at this
/-- an area whose labels are sets is known by its keys. -/
theorem ar_eq {r m : Ar} {P : Nat → Nat → Prop} (hl : r.length = m.length) (hs : ∀ i, IsSet (P i) (atA r i)) (hm : ∀ l ∈ m, NF l) (h : ∀ i, i < m.length → ∀ k, P i k ↔ Mem k (atA m i)) : r = m :=
  ar_ext hl fun i hi => (hs i).eq (q := fun k => Mem k (atA m i)) ⟨by rw [atA_lt hi]; exact hm _ (List.getElem_mem hi), fun _ => Iff.rfl⟩ (h i hi)

theorem pre3 (a b c : Value) (Z : Array Value) : (#[a, b, c] ++ Z)[0]? = some a ∧ (#[a, b, c] ++ Z)[1]? = some b ∧ (#[a, b, c] ++ Z)[2]? = some c := by
  refine ⟨?_, ?_, ?_⟩ <;> (rw [Array.getElem?_append_left (by simp)]; rfl)
theorem grown_none {w w' : World} {o : Obj} (h : (w.alloc o).grownBy w' none) : Below w.heap.size w w' :=
  ⟨h.os, h.tape, h.output, by have := h.size; simp at this; omega, fun b hb => (h.block b (by simp; omega) (by simp)).trans (Below.heap_alloc _ _ _ hb)⟩
theorem of1 : ofL 2 (bitsN 2) (nf [(1, 3)]) = [[], [(1, 3)]] := by decide
theorem of2 : ofL 3 (bitsN 6) (nf [(3, 4)]) = [[], [(3, 4)], [(3, 4)]] := by decide
theorem sub_by {a b : Ar} (h : ∀ i, i < a.length → ∀ k, Mem k (atA a i) → Mem k (atA b i)) : SubA a b := fun i k hk => by
  by_cases c : i < a.length
  · exact h i c k hk
  · rw [atA_ge (by omega)] at hk; exact (mem_nil hk).elim
theorem uEq {r : Ar} (hl : r.length = max [[], [((1 : Nat), (3 : Nat))]].length [[], [((3 : Nat), (4 : Nat))], [(3, 4)]].length) (hs : ∀ i, IsSet (fun k => Mem k (atA [[], [(1, 3)]] i) ∨ Mem k (atA [[], [(3, 4)], [(3, 4)]] i)) (atA r i)) : r = [[], [(1, 4)], [(3, 4)]] :=
  ar_eq (P := fun i k => Mem k (atA [[], [(1, 3)]] i) ∨ Mem k (atA [[], [(3, 4)], [(3, 4)]] i)) hl hs (by intro l hl; simp at hl; rcases hl with rfl | rfl | rfl <;> exact ⟨by decide, by decide⟩) fun i hi k => by
    match i, hi with
    | 0, _ => simp [atA, Mem]
    | 1, _ => simp [atA, Mem]; omega
    | 2, _ => simp [atA, Mem]
theorem mEq {r : Ar} (hl : r.length = max [[], [((1 : Nat), (3 : Nat))]].length [[], [((3 : Nat), (4 : Nat))], [(3, 4)]].length) (hs : ∀ i, IsSet (fun k => Mem k (atA [[], [(1, 3)]] i) ∧ Mem k (atA [[], [(3, 4)], [(3, 4)]] i)) (atA r i)) : r = [[], [(3, 3)], []] :=
  ar_eq (P := fun i k => Mem k (atA [[], [(1, 3)]] i) ∧ Mem k (atA [[], [(3, 4)], [(3, 4)]] i)) hl hs (by intro l hl; simp at hl; rcases hl with rfl | rfl | rfl <;> exact ⟨by decide, by decide⟩) fun i hi k => by
    match i, hi with
    | 0, _ => simp [atA, Mem]
    | 1, _ => simp [atA, Mem]; omega
    | 2, _ => simp [atA, Mem]
theorem dEq {r : Ar} (hl : r.length = max [[], [((1 : Nat), (3 : Nat))]].length [[], [((3 : Nat), (4 : Nat))], [(3, 4)]].length) (hs : ∀ i, IsSet (fun k => Mem k (atA [[], [(1, 3)]] i) ∧ ¬ Mem k (atA [[], [(3, 4)], [(3, 4)]] i)) (atA r i)) : r = [[], [(1, 2)], []] :=
  ar_eq (P := fun i k => Mem k (atA [[], [(1, 3)]] i) ∧ ¬ Mem k (atA [[], [(3, 4)], [(3, 4)]] i)) hl hs (by intro l hl; simp at hl; rcases hl with rfl | rfl | rfl <;> exact ⟨by decide, by decide⟩) fun i hi k => by
    match i, hi with
    | 0, _ => simp [atA, Mem]
    | 1, _ => simp [atA, Mem]; omega
    | 2, _ => simp [atA, Mem]
theorem subDA : SubA [[], [(1, 2)], []] [[], [(1, 3)]] := sub_by fun i hi k => by
  match i, hi with
  | 0, _ => simp [atA, Mem]
  | 1, _ => simp [atA, Mem]; omega
  | 2, _ => simp [atA, Mem]
theorem subAB : ¬ SubA [[], [(1, 3)]] [[], [(3, 4)], [(3, 4)]] := fun h => by
  have := h 1 1 (by simp [atA, Mem])
  simp [atA, Mem] at this
theorem subAM : SubA [[], [(1, 3)]] [[], [(1, 3)], []] ∧ SubA [[], [(1, 3)], []] [[], [(1, 3)]] := ⟨sub_by fun i hi k => by
  match i, hi with
  | 0, _ => simp [atA, Mem]
  | 1, _ => simp [atA, Mem], sub_by fun i hi k => by
  match i, hi with
  | 0, _ => simp [atA, Mem]
  | 1, _ => simp [atA, Mem]
  | 2, _ => simp [atA, Mem]⟩
theorem maskU : maskN ((cellsL [[], [(1, 4)], [(3, 4)]]).map (·.1)) = 6 := by decide
theorem cellM : (cellsL [[], [(3, 3)], []]).take (9 : Int).toNat = [(1, (3, 3))] := by decide
theorem emA : emptyB [[], [(1, 3)]] = false := by decide
theorem emN : emptyB [] = true := by decide

set_option maxRecDepth 100000 in
set_option maxHeartbeats 8000000 in
theorem alive_calls (w : World) (hT : Tab w) : Calls Tryd.prog 8 #[] w fun e w' => e = .returned (.bool true) ∧ Below w.heap.size w w' := by
  have hb0 := (Below.refl w.heap.size w).alloc (Nat.le_refl _) (.cells ([(1, 3)].flatMap spc).toArray 37)
  have HL0 := Lib.hid (rdS_at [(1, 3)] (heap_alloc_at w _) (by decide) (by decide) 1 rfl : RdS (w.alloc (.cells ([(1, 3)].flatMap spc).toArray 37)) _ _)
  have HT := Lib.hid (hT.keep hb0)
  have hbw := hb0
  clear hT hb0
  go_enter Tryd.func8, Tryd.ntmps8
  go_wp2_with fail
  refine (of_calls _ 2 2 _ [(1, 3)] HL0.out (by decide) (by decide) HT.out).mono ?_
  rw [show (min (max (2 : Int) 0) 16).toNat = 2 by decide, of1]
  rintro e W1 ⟨χa, rfl, O, hb⟩
  obtain ⟨ga, hga⟩ : ∃ g, g = (w.alloc (.cells ([(1, 3)].flatMap spc).toArray 37)).heap.size + 1 := ⟨_, rfl⟩
  rw [← hga] at O ⊢
  have hR := O.rd (by decide)
  have HL := Lib.hid (RdAA.nil.cons hR)
  have HT := Lib.hid (HT.out.keep hb)
  have hbw := hbw.trans (hb.mono hbw.size)
  obtain ⟨g0, o0, u0, e0, hc0, hu0⟩ := hR.get 0 (by decide)
  cases e0
  obtain ⟨g1, o1, u1, e1, hc1, hu1⟩ := hR.get 1 (by decide)
  cases e1
  obtain ⟨A0, c0, rfl, -⟩ := hu0
  obtain ⟨A1, c1, rfl, -⟩ := hu1
  have hc0 : W1.cell? ⟨ga, 0, none⟩ = some (.slice A0 0 c0) := hc0
  have hc1 : W1.cell? ⟨ga, 1, none⟩ = some (.slice A1 1 c1) := hc1
  have hbB := (Below.refl W1.heap.size W1).alloc (Nat.le_refl _) (.cells ([(3, 4)].flatMap spc).toArray 37)
  have HLB := Lib.hid (rdS_at [(3, 4)] (heap_alloc_at W1 _) (by decide) (by decide) 1 rfl : RdS (W1.alloc (.cells ([(3, 4)].flatMap spc).toArray 37)) _ _)
  have HL := Lib.hid (HL.out.keep hbB)
  have HT := Lib.hid (HT.out.keep hbB)
  have hbw := hbw.trans (hbB.mono hbw.size)
  clear O hR hb hga
  go_wp2_with fail
  refine (of_calls _ 3 6 _ [(3, 4)] HLB.out (by decide) (by decide) HT.out).mono ?_
  rw [show (min (max (3 : Int) 0) 16).toNat = 3 by decide, of2]
  rintro e W2 ⟨χb, rfl, Ob, hb⟩
  obtain ⟨gb, hgb⟩ : ∃ g, g = (W1.alloc (.cells ([(3, 4)].flatMap spc).toArray 37)).heap.size + 1 := ⟨_, rfl⟩
  rw [← hgb] at Ob ⊢
  have HL := Lib.hid ((HL.out.keep hb).cons (Ob.rd (by decide)))
  have HT := Lib.hid (HT.out.keep hb)
  have hbw := hbw.trans (hb.mono hbw.size)
  clear Ob hb hc0 hc1 hbB hgb
  have hia1 : inA [[], [(1, 3)]] 1 3 = true := by decide
  have hia0 : inA [[], [(1, 3)]] 0 3 = false := by decide
  go_wp2_with fail
  refine (ahas_calls _ _ [[], [(1, 3)]] 1 3 (HL.out.at_ 1 rfl)).mono ?_
  rw [hia1]
  rintro e W3 ⟨rfl, hb⟩
  have HL := Lib.hid (HL.out.keep hb)
  have HT := Lib.hid (HT.out.keep hb)
  have hbw := hbw.trans (hb.mono hbw.size)
  clear hb
  go_wp2_with fail
  refine (ahas_calls _ _ [[], [(1, 3)]] 0 3 (HL.out.at_ 1 rfl)).mono ?_
  rw [hia0]
  rintro e W4 ⟨rfl, hb⟩
  have HL := Lib.hid (HL.out.keep hb)
  have HT := Lib.hid (HT.out.keep hb)
  have hbw := hbw.trans (hb.mono hbw.size)
  clear hb
  clear hia1 hia0
  go_wp2_with fail
  refine (area_union _ _ _ [[], [(1, 3)]] [[], [(3, 4)], [(3, 4)]] 400 400 (HL.out.at_ 1 rfl) (HL.out.at_ 0 rfl) (by decide) (by decide) (by unfold Sm; decide) (by unfold Sm; decide) (by omega) (by omega)).mono ?_
  rintro e W5 ⟨vu, r, rfl, Ru, hl, hs, -, hb⟩
  obtain rfl := uEq hl hs
  have RU := Lib.hid Ru
  have HL := Lib.hid (HL.out.keep hb)
  have HT := Lib.hid (HT.out.keep hb)
  have hbw := hbw.trans (hb.mono hbw.size)
  clear hb
  clear hl hs Ru
  go_wp2_with fail
  refine (mask_calls _ _ _ RU.out (by unfold Sm; decide) (by decide)).mono ?_
  rw [maskU]
  rintro e W6 ⟨rfl, hb⟩
  have HL := Lib.hid (HL.out.keep hb)
  have HT := Lib.hid (HT.out.keep hb)
  have hbw := hbw.trans (hb.mono hbw.size)
  clear hb
  clear RU
  go_wp2_with fail
  refine (area_meet _ _ _ [[], [(1, 3)]] [[], [(3, 4)], [(3, 4)]] 400 400 (HL.out.at_ 1 rfl) (HL.out.at_ 0 rfl) (by decide) (by decide) (by unfold Sm; decide) (by unfold Sm; decide) (by omega) (by omega)).mono ?_
  rintro e W7 ⟨vu, r, rfl, Ru, hl, hs, -, hb⟩
  obtain rfl := mEq hl hs
  have RU := Lib.hid Ru
  have HL := Lib.hid (HL.out.keep hb)
  have HT := Lib.hid (HT.out.keep hb)
  have hbw := hbw.trans (hb.mono hbw.size)
  clear hb
  clear hl hs Ru
  go_wp2_with fail
  refine (lcells_calls _ _ _ 9 RU.out (by unfold Sm; decide) (by decide)).mono ?_
  rw [cellM]
  rintro e W8 ⟨uc, rfl, ⟨oc, -⟩, hb⟩
  obtain ⟨Ac, cc, rfl⟩ : ∃ A c, uc = .slice A 1 c := owns_form oc
  have HL := Lib.hid (HL.out.keep hb)
  have HT := Lib.hid (HT.out.keep hb)
  have hbw := hbw.trans (hb.mono hbw.size)
  clear hb
  clear RU oc
  go_wp2_with fail
  refine (area_minus _ _ _ [[], [(1, 3)]] [[], [(3, 4)], [(3, 4)]] 400 400 (HL.out.at_ 1 rfl) (HL.out.at_ 0 rfl) (by decide) (by decide) (by unfold Sm; decide) (by unfold Sm; decide) (by omega) (by omega)).mono ?_
  rintro e W9 ⟨vu, r, rfl, Ru, hl, hs, -, hb⟩
  obtain rfl := dEq hl hs
  have RU := Lib.hid Ru
  have HL := Lib.hid (HL.out.keep hb)
  have HT := Lib.hid (HT.out.keep hb)
  have hbw := hbw.trans (hb.mono hbw.size)
  clear hb
  clear hl hs Ru
  go_wp2_with fail
  refine (awithin_calls _ _ _ _ [[], [(1, 3)]] RU.out (HL.out.at_ 1 rfl) (by decide) (by decide) (by unfold Sm; decide) (by unfold Sm; decide)).mono ?_
  rintro e W10 ⟨q, rfl, hq, hb⟩
  obtain rfl : q = true := hq.2 subDA
  have HL := Lib.hid (HL.out.keep hb)
  have HT := Lib.hid (HT.out.keep hb)
  have hbw := hbw.trans (hb.mono hbw.size)
  clear hb
  clear RU hq
  go_wp2_with fail
  refine (awithin_calls _ _ _ [[], [(1, 3)]] [[], [(3, 4)], [(3, 4)]] (HL.out.at_ 1 rfl) (HL.out.at_ 0 rfl) (by decide) (by decide) (by unfold Sm; decide) (by unfold Sm; decide)).mono ?_
  rintro e W11 ⟨q, rfl, hq, hb⟩
  obtain rfl : q = false := Bool.eq_false_iff.2 fun h => subAB (hq.1 h)
  have HL := Lib.hid (HL.out.keep hb)
  have HT := Lib.hid (HT.out.keep hb)
  have hbw := hbw.trans (hb.mono hbw.size)
  clear hb
  clear hq
  go_wp2_with fail
  refine (aempty_calls _ _ [] RdA.nil (by unfold Sm; decide)).mono ?_
  rw [emN]
  rintro e W12 ⟨rfl, hb⟩
  have HL := Lib.hid (HL.out.keep hb)
  have HT := Lib.hid (HT.out.keep hb)
  have hbw := hbw.trans (hb.mono hbw.size)
  clear hb
  go_wp2_with fail
  refine (aempty_calls _ _ [[], [(1, 3)]] (HL.out.at_ 1 rfl) (by unfold Sm; decide)).mono ?_
  rw [emA]
  rintro e W13 ⟨rfl, hb⟩
  have HL := Lib.hid (HL.out.keep hb)
  have HT := Lib.hid (HT.out.keep hb)
  have hbw := hbw.trans (hb.mono hbw.size)
  clear hb
  obtain ⟨g0, o0, u0, e0, hc0, hu0⟩ := (HL.out.at_ 1 rfl : RdA W13 (.slice (some ⟨ga, 0, none⟩) 2 2) [[], [(1, 3)]]).get 0 (by decide)
  cases e0
  obtain ⟨g1, o1, u1, e1, hc1, hu1⟩ := (HL.out.at_ 1 rfl : RdA W13 (.slice (some ⟨ga, 0, none⟩) 2 2) [[], [(1, 3)]]).get 1 (by decide)
  cases e1
  obtain ⟨A0, c0, rfl, -⟩ := id hu0
  obtain ⟨A1, c1, rfl, -⟩ := id hu1
  have hc0 : W13.cell? ⟨ga, 0, none⟩ = some (.slice A0 0 c0) := hc0
  have hc1 : W13.cell? ⟨ga, 1, none⟩ = some (.slice A1 1 c1) := hc1
  have HU0 : Hid (RdS W13 (.slice A0 0 c0) []) := hu0
  have HU1 : Hid (RdS W13 (.slice A1 1 c1) [(1, 3)]) := hu1
  have hb : ∀ o1 o2, Below W13.heap.size W13 ((W13.alloc o1).alloc o2).drew := fun o1 o2 => (((Below.refl W13.heap.size W13).alloc (Nat.le_refl _) o1).alloc (by simp only [World.size_alloc]; omega) o2).trans (below_drewN _ _ 1)
  have HB := Lib.hid hb
  clear hu0 hu1 hb
  go_wp2_with fail
  obtain ⟨C, hC⟩ : ∃ C, C = (Question.appendCap 3 2 32).cut (W13.tape W13.drawn (Question.appendCap 3 2 32)) := ⟨_, rfl⟩
  have hge : 3 ≤ C := by rw [hC]; exact grownCap_ge W13 3 2 32
  have hle : C ≤ maxLen := by rw [hC]; exact grownCap_le_maxLen W13 3 2 32 (by unfold maxLen; omega)
  rw [← hC]
  obtain ⟨Z, hZ⟩ : ∃ Z, Z = Builtin.zeroCells #[Value.slice none 0 0] (C - 3) := ⟨_, rfl⟩
  rw [← hZ]
  have hb := HB.out (.cells #[.slice none 0 0] 32) (.cells (#[.slice A0 0 c0, .slice A1 1 c1, .slice none 0 0] ++ Z) 32)
  have hblk : (((W13.alloc (.cells #[.slice none 0 0] 32)).alloc (.cells (#[.slice A0 0 c0, .slice A1 1 c1, .slice none 0 0] ++ Z) 32)).drew).heap[W13.heap.size + 1]? = some (.cells (#[.slice A0 0 c0, .slice A1 1 c1, .slice none 0 0] ++ Z) 32) := by
    have := heap_alloc_at (W13.alloc (.cells #[.slice none 0 0] 32)) (.cells (#[.slice A0 0 c0, .slice A1 1 c1, .slice none 0 0] ++ Z) 32)
    rw [World.size_alloc] at this; exact this
  obtain ⟨W14, hW14⟩ : ∃ W14, W14 = (((W13.alloc (.cells #[.slice none 0 0] 32)).alloc (.cells (#[.slice A0 0 c0, .slice A1 1 c1, .slice none 0 0] ++ Z) 32)).drew) := ⟨_, rfl⟩
  rw [← hW14] at hb hblk ⊢
  have RM : Hid (RdA W14 (.slice (some ⟨W13.heap.size + 1, 0, none⟩) 3 C) [[], [(1, 3)], []]) := by
    refine ⟨_, _, rfl, hge, hle, ⟨by decide, fun h => by cases h⟩, fun i hi => ?_⟩
    match i, hi with
    | 0, _ => exact ⟨_, _, [.slice A0 0 c0], rfl, rfl, rfl, ⟨_, rfl, HU0.out.keep hb⟩, fun j hj => by
        have hj0 : j = 0 := by simpa using hj
        subst hj0; simpa [World.cell?, hblk] using (pre3 _ _ _ _).1⟩
    | 1, _ => exact ⟨_, _, [.slice A1 1 c1], rfl, rfl, rfl, ⟨_, rfl, HU1.out.keep hb⟩, fun j hj => by
        have hj0 : j = 0 := by simpa using hj
        subst hj0; simpa [World.cell?, hblk] using (pre3 _ _ _ _).2.1⟩
    | 2, _ => exact ⟨_, _, [.slice none 0 0], rfl, rfl, rfl, ⟨_, rfl, RdS.nil⟩, fun j hj => by
        have hj0 : j = 0 := by simpa using hj
        subst hj0; simpa [World.cell?, hblk] using (pre3 _ _ _ _).2.2⟩
  clear hblk hW14 hC hZ hge hle HB
  have HL := Lib.hid (HL.out.keep hb)
  have HT := Lib.hid (HT.out.keep hb)
  have hbw := hbw.trans (hb.mono hbw.size)
  clear hb
  clear HU0 HU1
  refine (asame_calls _ _ _ [[], [(1, 3)]] [[], [(1, 3)], []] (HL.out.at_ 1 rfl) RM.out (by decide) (by decide) (by unfold Sm; decide) (by unfold Sm; decide)).mono ?_
  rintro e W15 ⟨q, rfl, hq, hb⟩
  obtain rfl : q = true := hq.2 subAM
  have HL := Lib.hid (HL.out.keep hb)
  have HT := Lib.hid (HT.out.keep hb)
  have hbw := hbw.trans (hb.mono hbw.size)
  clear hb
  clear hq RM
  go_wp2_with fail
  refine (asame_calls _ _ _ [[], [(1, 3)]] [[], [(3, 4)], [(3, 4)]] (HL.out.at_ 1 rfl) (HL.out.at_ 0 rfl) (by decide) (by decide) (by unfold Sm; decide) (by unfold Sm; decide)).mono ?_
  rintro e W16 ⟨q, rfl, hq, hb⟩
  obtain rfl : q = false := Bool.eq_false_iff.2 fun h => subAB (hq.1 h).1
  have HL := Lib.hid (HL.out.keep hb)
  have HT := Lib.hid (HT.out.keep hb)
  have hbw := hbw.trans (hb.mono hbw.size)
  clear hb
  clear hq
  go_wp2
  go_ret
  exact ⟨rfl, hbw⟩
end Go.Proofs.YtjlkkbjolfhobaaDoor
