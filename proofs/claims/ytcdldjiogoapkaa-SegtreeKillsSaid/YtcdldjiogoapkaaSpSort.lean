import Derived.Test.YtcdldjiogoapkaaSpR
import Derived.Test.YtcdldjiogoapkaaIvP
import Derived.Shelf.SlSortCmp.NoneTotal
namespace Go.Proofs.Ytcdldjiogoapkaa
open Go.RowKit Go.Shelf

def Try.sortSp_ren : Go.Shelf.Ren := ⟨fun | 6 => 40 | 15 => 59 | 14 => 58 | 28 => 72 | 29 => 73 | 20 => 64 | 21 => 65 | 22 => 66 | 23 => 67 | 24 => 68 | 25 => 69 | 26 => 70 | 27 => 71 | 46 => 74 | 47 => 75 | 48 => 76 | 49 => 77 | 50 => 78 | 57 => 79 | n => n, fun | 22 => 66 | 24 => 36 | 25 => 88 | 3 => 3 | 39 => 110 | 0 => 0 | 53 => 32 | 55 => 89 | 4 => 4 | 46 => 117 | 45 => 116 | 50 => 121 | 5 => 5 | 9 => 9 | 66 => 124 | 70 => 128 | 76 => 130 | 77 => 131 | n => n, fun | n => n⟩
theorem Try.sortSp : Go.Proofs.SlLaysF0.n6 Try.prog Try.sortSp_ren := {
  mixed := by kernel_rfl,
  f6 := ⟨Try.f40.name, by decide, Try.func40.trans (congrArg some (by kernel_rfl))⟩,
  f14 := ⟨Try.f58.name, by decide, Try.func58.trans (congrArg some (by kernel_rfl))⟩,
  f15 := Try.func59.trans (congrArg some (by kernel_rfl)),
  f20 := ⟨Try.f64.name, by decide, Try.func64.trans (congrArg some (by kernel_rfl))⟩,
  f21 := ⟨Try.f65.name, by decide, Try.func65.trans (congrArg some (by kernel_rfl))⟩,
  f22 := ⟨Try.f66.name, by decide, Try.func66.trans (congrArg some (by kernel_rfl))⟩,
  f23 := ⟨Try.f67.name, by decide, Try.func67.trans (congrArg some (by kernel_rfl))⟩,
  f24 := ⟨Try.f68.name, by decide, Try.func68.trans (congrArg some (by kernel_rfl))⟩,
  f25 := ⟨Try.f69.name, by decide, Try.func69.trans (congrArg some (by kernel_rfl))⟩,
  f26 := ⟨Try.f70.name, by decide, Try.func70.trans (congrArg some (by kernel_rfl))⟩,
  f27 := ⟨Try.f71.name, by decide, Try.func71.trans (congrArg some (by kernel_rfl))⟩,
  f28 := Try.func72.trans (congrArg some (by kernel_rfl)),
  f29 := Try.func73.trans (congrArg some (by kernel_rfl)),
  f46 := ⟨Try.f74.name, by decide, Try.func74.trans (congrArg some (by kernel_rfl))⟩,
  f47 := Try.func75.trans (congrArg some (by kernel_rfl)),
  f48 := Try.func76.trans (congrArg some (by kernel_rfl)),
  f49 := ⟨Try.f77.name, by decide, Try.func77.trans (congrArg some (by kernel_rfl))⟩,
  f50 := ⟨Try.f78.name, by decide, Try.func78.trans (congrArg some (by kernel_rfl))⟩,
  f57 := ⟨Try.f79.name, by decide, Try.func79.trans (congrArg some (by kernel_rfl))⟩,
  t0 := Try.underlying0,
  a0 := Try.isAgg0,
  z0 := Try.sizeOf0,
  v0 := Try.zeroValue0,
  t3 := Try.underlying3,
  a3 := Try.isAgg3,
  z3 := Try.sizeOf3,
  v3 := Try.zeroValue3,
  t4 := Try.underlying4,
  a4 := Try.isAgg4,
  z4 := Try.sizeOf4,
  v4 := Try.zeroValue4,
  t5 := Try.underlying5,
  a5 := Try.isAgg5,
  z5 := Try.sizeOf5,
  v5 := Try.zeroValue5,
  t9 := Try.underlying9,
  a9 := Try.isAgg9,
  z9 := Try.sizeOf9,
  v9 := Try.zeroValue9,
  t22 := Try.underlying66,
  a22 := Try.isAgg66,
  z22 := Try.sizeOf66,
  v22 := Try.zeroValue66,
  t25 := Try.underlying88,
  a25 := Try.isAgg88,
  z25 := Try.sizeOf88,
  v25 := Try.zeroValue88,
  t39 := Try.underlying110,
  a39 := Try.isAgg110,
  z39 := Try.sizeOf110,
  v39 := Try.zeroValue110,
  t45 := Try.underlying116,
  a45 := Try.isAgg116,
  z45 := Try.sizeOf116,
  v45 := Try.zeroValue116,
  t46 := Try.underlying117,
  a46 := Try.isAgg117,
  z46 := Try.sizeOf117,
  v46 := Try.zeroValue117,
  t50 := Try.underlying121,
  a50 := Try.isAgg121,
  z50 := Try.sizeOf121,
  v50 := Try.zeroValue121,
  t53 := Try.underlying32,
  a53 := Try.isAgg32,
  z53 := Try.sizeOf32,
  v53 := Try.zeroValue32,
  t55 := Try.underlying89,
  a55 := Try.isAgg89,
  z55 := Try.sizeOf89,
  v55 := Try.zeroValue89,
  t66 := Try.underlying124,
  a66 := Try.isAgg124,
  z66 := Try.sizeOf124,
  v66 := Try.zeroValue124,
  t70 := Try.underlying128,
  a70 := Try.isAgg128,
  z70 := Try.sizeOf128,
  v70 := Try.zeroValue128,
  t76 := Try.underlying130,
  a76 := Try.isAgg130,
  z76 := Try.sizeOf130,
  v76 := Try.zeroValue130,
  t77 := Try.underlying131,
  a77 := Try.isAgg131,
  z77 := Try.sizeOf131,
  v77 := Try.zeroValue131 }


def cmpSp (x y : Sp) : Int := if x.1 < y.1 then -1 else if y.1 < x.1 then 1 else 0
theorem ltSp (x y : Sp) : ltOf cmpSp x y = decide (x.1 < y.1) := by
  unfold ltOf cmpSp
  by_cases h1 : x.1 < y.1
  · simp [h1]
  · by_cases h2 : y.1 < x.1 <;> simp [h1, h2]
theorem swoSp : Go.Sort.SWO (ltOf cmpSp) where
  irrefl x := by rw [ltSp]; simp
  trans x y z h1 h2 := by rw [ltSp] at *; simp at *; omega
  ntrans x y z h1 h2 := by rw [ltSp] at *; simp at *; omega

theorem nan_u32 (w : World) (x : Nat) : Calls Try.prog 60 #[.int .u32 x] w fun e w' => e = .returned (.bool false) ∧ w' = w := by
  go_enter Try.func60, Try.ntmps60
  go_wp2
  go_ret
  exact ⟨rfl, rfl⟩
theorem cmp_u32 (w : World) (x y : Nat) : Calls Try.prog 42 #[.int .u32 x, .int .u32 y] w fun e w' => e = .returned (.int .i64 (if x < y then -1 else if y < x then 1 else 0)) ∧ w' = w := by
  go_enter Try.func42, Try.ntmps42
  by_cases h1 : x < y
  · rw [if_pos h1]
    go_wp2_with (go_at_call 60; refine (nan_u32 _ _).mono ?_; rintro e w' ⟨rfl, rfl⟩)
    go_ret
    exact ⟨rfl, rfl⟩
  · rw [if_neg h1]
    by_cases h2 : y < x
    · rw [if_pos h2]
      go_wp2_with (go_at_call 60; refine (nan_u32 _ _).mono ?_; rintro e w' ⟨rfl, rfl⟩)
      go_ret
      exact ⟨rfl, rfl⟩
    · rw [if_neg h2]
      go_wp2_with (go_at_call 60; refine (nan_u32 _ _).mono ?_; rintro e w' ⟨rfl, rfl⟩)
      go_ret
      exact ⟨rfl, rfl⟩
set_option maxHeartbeats 1000000 in
theorem less_sp (x y : Sp) (W : World) : Calls Try.prog 41 #[.agg #[.int .u32 x.1, .int .u32 x.2], .agg #[.int .u32 y.1, .int .u32 y.2]] W fun e w' => e = .returned (.int .i64 (cmpSp x y)) ∧ ∃ q os', w' = Go.Sort.grow (W.drewN q) os' := by
  have hcon := fun W' => cmp_u32 W' x.1 y.1
  unfold cmpSp
  generalize (if x.1 < y.1 then (-1 : Int) else if y.1 < x.1 then 1 else 0) = r at hcon ⊢
  go_enter Try.func41, Try.ntmps41
  go_wp2_with (go_at_call 42; refine (hcon _).mono ?_; rintro e w' ⟨rfl, rfl⟩)
  go_ret
  exact ⟨rfl, 0, _, by rw [Go.Sort.alloc_eq_grow, Go.Sort.alloc_eq_grow, Go.Sort.grow_grow]; rfl⟩

theorem flatK_sp (d : List Sp) : (Go.Sort.flatK spc 2 d.toArray) = (d.flatMap spc).toArray := by
  refine Go.Sort.ext_get! (by simp [flat_len spc 2 (fun _ => rfl)]) fun t ht => ?_
  have ht' : t < d.length * 2 := by simpa using ht
  rw [Go.Sort.get_flatK _ _ _ _ (by simpa using ht')]
  have hd : t / 2 < d.length := by omega
  have hc := flat_chunk spc 2 (fun _ => rfl) d (t / 2) hd
  have hl := flat_len spc 2 (fun _ => rfl) d
  rw [getElem!_pos d.toArray _ (by simpa using hd), getElem!_pos (d.flatMap spc).toArray t (by simp [hl]; omega)]
  simp only [List.getElem_toArray]
  rw [← hc, getElem!_pos _ (t % 2) (by simp [hl]; omega), List.getElem_take, List.getElem_drop]
  congr 1; omega

theorem isAggSp : ∀ w, (isAgg 36).run Try.prog w = .ok true w := Try.isAgg36
theorem sizeSp : ∀ w, (Go.sizeOf 36).run Try.prog w = .ok 2 w := Try.sizeOf36

theorem sort_sp (w : World) (v : Value) (l : List Sp) {base : Nat} (h : w.ownsRow base 36 2 v l.length (l.flatMap spc)) (hl : l.length ≤ 1000000) :
    Calls Try.prog 40 #[v, .func (.func 41) #[] #[]] w fun e w' => e = .returned (.tuple #[]) ∧
      ∃ l' : List Sp, l'.Perm l ∧ l'.Pairwise (fun s t => s.1 ≤ t.1) ∧ w'.ownsRow base 36 2 v l.length (l'.flatMap spc) ∧ w.grownBy w' v.ownBlock := by
  obtain ⟨h1, (⟨rfl, h0⟩ | ⟨g, cap, cur, rfl, hg, hh, hcap, hmax, hsz, htk⟩)⟩ := id h
  · have : l = [] := List.length_eq_zero_iff.1 h0
    subst this
    refine (AnyF.slices_SortFunc_none Try.sortSp none 0 _ w).mono ?_
    rintro e w' ⟨rfl, rfl⟩
    exact ⟨rfl, [], .refl _, .nil, h, ⟨rfl, rfl, rfl, Nat.le_refl _, fun _ _ _ => rfl⟩⟩
  · have hlen := flat_len spc 2 (fun _ => rfl) l
    have hlt : g < w.heap.size := (h.lt g rfl).2
    have hcell : ∀ j, j < l.length * 2 → w.cell? ⟨g, 0 + j, none⟩ = some (l.flatMap spc).toArray[j]! ∧ w.frozen? ⟨g, 0 + j, none⟩ = false := fun j hj => by
      have e1 : cur.toList[j]? = (l.flatMap spc)[j]? := by rw [← htk, List.getElem?_take, if_pos hj]
      have e2 : cur[j]? = (l.flatMap spc)[j]? := by rw [← e1, Array.getElem?_toList]
      rw [List.getElem?_eq_getElem (by omega)] at e2
      refine ⟨?_, ?_⟩
      · rw [getElem!_pos _ j (by simp [hlen]; omega)]
        simp [World.cell?, hh, e2]
      · simp [World.frozen?, hh]
    have hH : Go.Sort.HoldsK spc 2 w g 0 l.toArray := by
      intro j hj
      rw [flatK_sp] at hj ⊢
      exact hcell j (by simpa [hlen] using hj)
    have eg : ∀ args w, (callFunc 41 args).run Try.prog w = .ok (.enter 41 args) w := enters_of Try.func41 (by kernel_rfl) rfl
    have hcon := AnyQ.slices_SortFunc Try.sortSp 2 isAggSp sizeSp spc (fun _ => rfl) (fun x v hv => by simp [spc] at hv; rcases hv with rfl | rfl <;> rfl) cmpSp swoSp 41 #[] g 0 cap l.toArray w eg (fun _ _ _ _ x y => less_sp x y _) hH hlt (by simp; omega)
    refine hcon.mono ?_
    rintro e w' ⟨rfl, d', n, os, hp, hs, rfl⟩
    obtain ⟨p1, p2, p3⟩ := hp
    simp only [List.size_toArray] at p1 p3 hs
    have hperm : d'.toList.Perm l := by
      have e1 : d'.extract 0 l.length = d' := by rw [← p1]; exact Array.extract_size
      have e2 : l.toArray.extract 0 l.length = l.toArray := by simp
      rw [e1, e2] at p3
      simpa using p3
    refine ⟨rfl, d'.toList, hperm, ?_, ?_, ?_⟩
    · rw [List.pairwise_iff_getElem]
      intro i j hi hj hij
      have := hs i j (Nat.zero_le _) hij (by simpa [p1] using hj)
      rw [ltSp, getElem!_pos d' j (by simpa using hj), getElem!_pos d' i (by simpa using hi)] at this
      simp at this
      simpa using this
    · have hl2 := flat_len spc 2 (fun _ => rfl) d'.toList
      have hdl : d'.toList.length = l.length := by simpa using p1
      refine ⟨by rw [hl2, hdl], .inr ⟨g, cap, Go.Sort.putCells id 0 (d'.toList.flatMap spc).toArray cur, rfl, hg, ?_, hcap, hmax, by simp [Go.Sort.putCells, hsz], ?_⟩⟩
      · unfold sortWorldK Go.Sort.putRowK Go.Sort.putRow
        rw [Go.Sort.heap_grow_old _ _ (by simpa [Go.Sort.mapBlock, Go.Sort.ahead] using hlt)]
        have e : Go.Sort.flatK spc 2 d' = (d'.toList.flatMap spc).toArray := by rw [← flatK_sp]
        rw [e]
        simp [Go.Sort.mapBlock, Go.Sort.ahead, Array.getElem?_modify, hh, Go.Sort.onCells]
      · apply List.ext_getElem
        · simp [Go.Sort.putCells, hsz, hl2, hdl]; omega
        · intro j hj1 hj2
          rw [hl2, hdl] at hj2
          have hjs : j < cur.size := by rw [hsz]; have := Nat.mul_le_mul_right 2 hcap; omega
          rw [List.getElem_take]
          simp only [Go.Sort.putCells, Array.getElem_toList, Array.getElem_mapIdx, List.size_toArray, hl2, hdl, Nat.zero_add, Nat.zero_le, true_and]
          rw [if_pos hj2]
          simp [hl2, hdl, hj2]
    · refine ⟨rfl, rfl, rfl, ?_, fun b hb hne => ?_⟩
      · simp [sortWorldK, Go.Sort.putRowK, Go.Sort.putRow, Go.Sort.mapBlock, Go.Sort.ahead]
      · unfold sortWorldK Go.Sort.putRowK Go.Sort.putRow
        rw [Go.Sort.heap_grow_old _ _ (by simpa [Go.Sort.mapBlock, Go.Sort.ahead] using hb)]
        have : g ≠ b := fun e => hne (by subst e; rfl)
        simp [Go.Sort.mapBlock, Go.Sort.ahead, Array.getElem?_modify, this]
end Go.Proofs.Ytcdldjiogoapkaa
