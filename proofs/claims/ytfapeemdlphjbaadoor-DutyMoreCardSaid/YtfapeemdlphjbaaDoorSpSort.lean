import Derived.Test.YtfapeemdlphjbaaDoorSpR
import Derived.Test.YtfapeemdlphjbaaDoorIvP
import Derived.Shelf.SlSortCmp.NoneTotal
namespace Go.Proofs.YtfapeemdlphjbaaDoor
open Go.RowKit Go.Shelf

def Tryd.sortSp_ren : Go.Shelf.Ren := ⟨fun | 6 => 33 | 15 => 43 | 14 => 42 | 28 => 56 | 29 => 57 | 20 => 48 | 21 => 49 | 22 => 50 | 23 => 51 | 24 => 52 | 25 => 53 | 26 => 54 | 27 => 55 | 46 => 59 | 47 => 60 | 48 => 61 | 49 => 62 | 50 => 63 | 57 => 65 | n => n, fun | 22 => 45 | 24 => 44 | 25 => 69 | 3 => 3 | 39 => 76 | 0 => 0 | 53 => 42 | 55 => 61 | 4 => 4 | 46 => 82 | 45 => 81 | 50 => 86 | 5 => 5 | 9 => 9 | 66 => 90 | 70 => 94 | 76 => 97 | 77 => 98 | n => n, fun | n => n⟩
theorem Tryd.sortSp : Go.Proofs.SlLaysF0.n6 Tryd.prog Tryd.sortSp_ren := {
  mixed := by kernel_rfl,
  f6 := ⟨Tryd.f33.name, by decide, Tryd.func33.trans (congrArg some (by kernel_rfl))⟩,
  f14 := ⟨Tryd.f42.name, by decide, Tryd.func42.trans (congrArg some (by kernel_rfl))⟩,
  f15 := Tryd.func43.trans (congrArg some (by kernel_rfl)),
  f20 := ⟨Tryd.f48.name, by decide, Tryd.func48.trans (congrArg some (by kernel_rfl))⟩,
  f21 := ⟨Tryd.f49.name, by decide, Tryd.func49.trans (congrArg some (by kernel_rfl))⟩,
  f22 := ⟨Tryd.f50.name, by decide, Tryd.func50.trans (congrArg some (by kernel_rfl))⟩,
  f23 := ⟨Tryd.f51.name, by decide, Tryd.func51.trans (congrArg some (by kernel_rfl))⟩,
  f24 := ⟨Tryd.f52.name, by decide, Tryd.func52.trans (congrArg some (by kernel_rfl))⟩,
  f25 := ⟨Tryd.f53.name, by decide, Tryd.func53.trans (congrArg some (by kernel_rfl))⟩,
  f26 := ⟨Tryd.f54.name, by decide, Tryd.func54.trans (congrArg some (by kernel_rfl))⟩,
  f27 := ⟨Tryd.f55.name, by decide, Tryd.func55.trans (congrArg some (by kernel_rfl))⟩,
  f28 := Tryd.func56.trans (congrArg some (by kernel_rfl)),
  f29 := Tryd.func57.trans (congrArg some (by kernel_rfl)),
  f46 := ⟨Tryd.f59.name, by decide, Tryd.func59.trans (congrArg some (by kernel_rfl))⟩,
  f47 := Tryd.func60.trans (congrArg some (by kernel_rfl)),
  f48 := Tryd.func61.trans (congrArg some (by kernel_rfl)),
  f49 := ⟨Tryd.f62.name, by decide, Tryd.func62.trans (congrArg some (by kernel_rfl))⟩,
  f50 := ⟨Tryd.f63.name, by decide, Tryd.func63.trans (congrArg some (by kernel_rfl))⟩,
  f57 := ⟨Tryd.f65.name, by decide, Tryd.func65.trans (congrArg some (by kernel_rfl))⟩,
  t0 := Tryd.underlying0,
  a0 := Tryd.isAgg0,
  z0 := Tryd.sizeOf0,
  v0 := Tryd.zeroValue0,
  t3 := Tryd.underlying3,
  a3 := Tryd.isAgg3,
  z3 := Tryd.sizeOf3,
  v3 := Tryd.zeroValue3,
  t4 := Tryd.underlying4,
  a4 := Tryd.isAgg4,
  z4 := Tryd.sizeOf4,
  v4 := Tryd.zeroValue4,
  t5 := Tryd.underlying5,
  a5 := Tryd.isAgg5,
  z5 := Tryd.sizeOf5,
  v5 := Tryd.zeroValue5,
  t9 := Tryd.underlying9,
  a9 := Tryd.isAgg9,
  z9 := Tryd.sizeOf9,
  v9 := Tryd.zeroValue9,
  t22 := Tryd.underlying45,
  a22 := Tryd.isAgg45,
  z22 := Tryd.sizeOf45,
  v22 := Tryd.zeroValue45,
  t25 := Tryd.underlying69,
  a25 := Tryd.isAgg69,
  z25 := Tryd.sizeOf69,
  v25 := Tryd.zeroValue69,
  t39 := Tryd.underlying76,
  a39 := Tryd.isAgg76,
  z39 := Tryd.sizeOf76,
  v39 := Tryd.zeroValue76,
  t45 := Tryd.underlying81,
  a45 := Tryd.isAgg81,
  z45 := Tryd.sizeOf81,
  v45 := Tryd.zeroValue81,
  t46 := Tryd.underlying82,
  a46 := Tryd.isAgg82,
  z46 := Tryd.sizeOf82,
  v46 := Tryd.zeroValue82,
  t50 := Tryd.underlying86,
  a50 := Tryd.isAgg86,
  z50 := Tryd.sizeOf86,
  v50 := Tryd.zeroValue86,
  t53 := Tryd.underlying42,
  a53 := Tryd.isAgg42,
  z53 := Tryd.sizeOf42,
  v53 := Tryd.zeroValue42,
  t55 := Tryd.underlying61,
  a55 := Tryd.isAgg61,
  z55 := Tryd.sizeOf61,
  v55 := Tryd.zeroValue61,
  t66 := Tryd.underlying90,
  a66 := Tryd.isAgg90,
  z66 := Tryd.sizeOf90,
  v66 := Tryd.zeroValue90,
  t70 := Tryd.underlying94,
  a70 := Tryd.isAgg94,
  z70 := Tryd.sizeOf94,
  v70 := Tryd.zeroValue94,
  t76 := Tryd.underlying97,
  a76 := Tryd.isAgg97,
  z76 := Tryd.sizeOf97,
  v76 := Tryd.zeroValue97,
  t77 := Tryd.underlying98,
  a77 := Tryd.isAgg98,
  z77 := Tryd.sizeOf98,
  v77 := Tryd.zeroValue98 }


def cmpSp (x y : Sp) : Int := if x.1 < y.1 then -1 else if y.1 < x.1 then 1 else 0
theorem ltSp (x y : Sp) : ltOf cmpSp x y = decide (x.1 < y.1) := by
  unfold ltOf cmpSp
  by_cases h1 : x.1 < y.1
  · simp [h1]
  · by_cases h2 : y.1 < x.1 <;> simp [h1, h2]
theorem swoSp : Go.Sort.SWO (ltOf cmpSp) where
  irrefl x := by rw [ltSp]; simp
  trans x y z h1 h2 := by rw [ltSp] at *; simp at *; omega
  ntrans x y z h1 h2 := by rw [ltSp] at *; simp at *; omega

theorem nan_u32 (w : World) (x : Nat) : Calls Tryd.prog 44 #[.int .u32 x] w fun e w' => e = .returned (.bool false) ∧ w' = w := by
  go_enter Tryd.func44, Tryd.ntmps44
  go_wp2
  go_ret
  exact ⟨rfl, rfl⟩
theorem cmp_u32 (w : World) (x y : Nat) : Calls Tryd.prog 35 #[.int .u32 x, .int .u32 y] w fun e w' => e = .returned (.int .i64 (if x < y then -1 else if y < x then 1 else 0)) ∧ w' = w := by
  go_enter Tryd.func35, Tryd.ntmps35
  by_cases h1 : x < y
  · rw [if_pos h1]
    go_wp2_with (go_at_call 44; refine (nan_u32 _ _).mono ?_; rintro e w' ⟨rfl, rfl⟩)
    go_ret
    exact ⟨rfl, rfl⟩
  · rw [if_neg h1]
    by_cases h2 : y < x
    · rw [if_pos h2]
      go_wp2_with (go_at_call 44; refine (nan_u32 _ _).mono ?_; rintro e w' ⟨rfl, rfl⟩)
      go_ret
      exact ⟨rfl, rfl⟩
    · rw [if_neg h2]
      go_wp2_with (go_at_call 44; refine (nan_u32 _ _).mono ?_; rintro e w' ⟨rfl, rfl⟩)
      go_ret
      exact ⟨rfl, rfl⟩
set_option maxHeartbeats 1000000 in
theorem less_sp (x y : Sp) (W : World) : Calls Tryd.prog 34 #[.agg #[.int .u32 x.1, .int .u32 x.2], .agg #[.int .u32 y.1, .int .u32 y.2]] W fun e w' => e = .returned (.int .i64 (cmpSp x y)) ∧ ∃ q os', w' = Go.Sort.grow (W.drewN q) os' := by
  have hcon := fun W' => cmp_u32 W' x.1 y.1
  unfold cmpSp
  generalize (if x.1 < y.1 then (-1 : Int) else if y.1 < x.1 then 1 else 0) = r at hcon ⊢
  go_enter Tryd.func34, Tryd.ntmps34
  go_wp2_with (go_at_call 35; refine (hcon _).mono ?_; rintro e w' ⟨rfl, rfl⟩)
  go_ret
  exact ⟨rfl, 0, _, by rw [Go.Sort.alloc_eq_grow, Go.Sort.alloc_eq_grow, Go.Sort.grow_grow]; rfl⟩

theorem flatK_sp (d : List Sp) : (Go.Sort.flatK spc 2 d.toArray) = (d.flatMap spc).toArray := by
  refine Go.Sort.ext_get! (by simp [flat_len spc 2 (fun _ => rfl)]) fun t ht => ?_
  have ht' : t < d.length * 2 := by simpa using ht
  rw [Go.Sort.get_flatK _ _ _ _ (by simpa using ht')]
  have hd : t / 2 < d.length := by omega
  have hc := flat_chunk spc 2 (fun _ => rfl) d (t / 2) hd
  have hl := flat_len spc 2 (fun _ => rfl) d
  rw [getElem!_pos d.toArray _ (by simpa using hd), getElem!_pos (d.flatMap spc).toArray t (by simp [hl]; omega)]
  simp only [List.getElem_toArray]
  rw [← hc, getElem!_pos _ (t % 2) (by simp [hl]; omega), List.getElem_take, List.getElem_drop]
  congr 1; omega

theorem isAggSp : ∀ w, (isAgg 44).run Tryd.prog w = .ok true w := Tryd.isAgg44
theorem sizeSp : ∀ w, (Go.sizeOf 44).run Tryd.prog w = .ok 2 w := Tryd.sizeOf44

theorem sort_sp (w : World) (v : Value) (l : List Sp) {base : Nat} (h : w.ownsRow base 44 2 v l.length (l.flatMap spc)) (hl : l.length ≤ 1000000) :
    Calls Tryd.prog 33 #[v, .func (.func 34) #[] #[]] w fun e w' => e = .returned (.tuple #[]) ∧
      ∃ l' : List Sp, l'.Perm l ∧ l'.Pairwise (fun s t => s.1 ≤ t.1) ∧ w'.ownsRow base 44 2 v l.length (l'.flatMap spc) ∧ w.grownBy w' v.ownBlock := by
  obtain ⟨h1, (⟨rfl, h0⟩ | ⟨g, cap, cur, rfl, hg, hh, hcap, hmax, hsz, htk⟩)⟩ := id h
  · have : l = [] := List.length_eq_zero_iff.1 h0
    subst this
    refine (AnyF.slices_SortFunc_none Tryd.sortSp none 0 _ w).mono ?_
    rintro e w' ⟨rfl, rfl⟩
    exact ⟨rfl, [], .refl _, .nil, h, ⟨rfl, rfl, rfl, Nat.le_refl _, fun _ _ _ => rfl⟩⟩
  · have hlen := flat_len spc 2 (fun _ => rfl) l
    have hlt : g < w.heap.size := (h.lt g rfl).2
    have hcell : ∀ j, j < l.length * 2 → w.cell? ⟨g, 0 + j, none⟩ = some (l.flatMap spc).toArray[j]! ∧ w.frozen? ⟨g, 0 + j, none⟩ = false := fun j hj => by
      have e1 : cur.toList[j]? = (l.flatMap spc)[j]? := by rw [← htk, List.getElem?_take, if_pos hj]
      have e2 : cur[j]? = (l.flatMap spc)[j]? := by rw [← e1, Array.getElem?_toList]
      rw [List.getElem?_eq_getElem (by omega)] at e2
      refine ⟨?_, ?_⟩
      · rw [getElem!_pos _ j (by simp [hlen]; omega)]
        simp [World.cell?, hh, e2]
      · simp [World.frozen?, hh]
    have hH : Go.Sort.HoldsK spc 2 w g 0 l.toArray := by
      intro j hj
      rw [flatK_sp] at hj ⊢
      exact hcell j (by simpa [hlen] using hj)
    have eg : ∀ args w, (callFunc 34 args).run Tryd.prog w = .ok (.enter 34 args) w := enters_of Tryd.func34 (by kernel_rfl) rfl
    have hcon := AnyQ.slices_SortFunc Tryd.sortSp 2 isAggSp sizeSp spc (fun _ => rfl) (fun x v hv => by simp [spc] at hv; rcases hv with rfl | rfl <;> rfl) cmpSp swoSp 34 #[] g 0 cap l.toArray w eg (fun _ _ _ _ x y => less_sp x y _) hH hlt (by simp; omega)
    refine hcon.mono ?_
    rintro e w' ⟨rfl, d', n, os, hp, hs, rfl⟩
    obtain ⟨p1, p2, p3⟩ := hp
    simp only [List.size_toArray] at p1 p3 hs
    have hperm : d'.toList.Perm l := by
      have e1 : d'.extract 0 l.length = d' := by rw [← p1]; exact Array.extract_size
      have e2 : l.toArray.extract 0 l.length = l.toArray := by simp
      rw [e1, e2] at p3
      simpa using p3
    refine ⟨rfl, d'.toList, hperm, ?_, ?_, ?_⟩
    · rw [List.pairwise_iff_getElem]
      intro i j hi hj hij
      have := hs i j (Nat.zero_le _) hij (by simpa [p1] using hj)
      rw [ltSp, getElem!_pos d' j (by simpa using hj), getElem!_pos d' i (by simpa using hi)] at this
      simp at this
      simpa using this
    · have hl2 := flat_len spc 2 (fun _ => rfl) d'.toList
      have hdl : d'.toList.length = l.length := by simpa using p1
      refine ⟨by rw [hl2, hdl], .inr ⟨g, cap, Go.Sort.putCells id 0 (d'.toList.flatMap spc).toArray cur, rfl, hg, ?_, hcap, hmax, by simp [Go.Sort.putCells, hsz], ?_⟩⟩
      · unfold sortWorldK Go.Sort.putRowK Go.Sort.putRow
        rw [Go.Sort.heap_grow_old _ _ (by simpa [Go.Sort.mapBlock, Go.Sort.ahead] using hlt)]
        have e : Go.Sort.flatK spc 2 d' = (d'.toList.flatMap spc).toArray := by rw [← flatK_sp]
        rw [e]
        simp [Go.Sort.mapBlock, Go.Sort.ahead, Array.getElem?_modify, hh, Go.Sort.onCells]
      · apply List.ext_getElem
        · simp [Go.Sort.putCells, hsz, hl2, hdl]; omega
        · intro j hj1 hj2
          rw [hl2, hdl] at hj2
          have hjs : j < cur.size := by rw [hsz]; have := Nat.mul_le_mul_right 2 hcap; omega
          rw [List.getElem_take]
          simp only [Go.Sort.putCells, Array.getElem_toList, Array.getElem_mapIdx, List.size_toArray, hl2, hdl, Nat.zero_add, Nat.zero_le, true_and]
          rw [if_pos hj2]
          simp [hl2, hdl, hj2]
    · refine ⟨rfl, rfl, rfl, ?_, fun b hb hne => ?_⟩
      · simp [sortWorldK, Go.Sort.putRowK, Go.Sort.putRow, Go.Sort.mapBlock, Go.Sort.ahead]
      · unfold sortWorldK Go.Sort.putRowK Go.Sort.putRow
        rw [Go.Sort.heap_grow_old _ _ (by simpa [Go.Sort.mapBlock, Go.Sort.ahead] using hb)]
        have : g ≠ b := fun e => hne (by subst e; rfl)
        simp [Go.Sort.mapBlock, Go.Sort.ahead, Array.getElem?_modify, this]
end Go.Proofs.YtfapeemdlphjbaaDoor
