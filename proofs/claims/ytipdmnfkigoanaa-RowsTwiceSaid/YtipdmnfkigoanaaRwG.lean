import Derived.Test.YtipdmnfkigoanaaRwF
import Derived.Test.YtipdmnfkigoanaaSpR
import Derived.Shelf.SlSortCmp.NoneTotal
namespace Go.Proofs.Ytipdmnfkigoanaa
open Go.RowKit Go.Maps Go.Shelf
attribute [local go_sem] World.cell?_alloc_some frozen_alloc_some

/-! Rows of cells; how they are sorted. -/
instance : Inhabited Cl := ⟨⟨0, 0, by decide, by omega⟩⟩
def clc (x : Cl) : List Value := [.int .i64 x.lab, .int .u32 x.key]
/-- A row of cells of the call's own. -/
def NewK (n : Nat) (w : World) (v : Value) (l : List Cl) : Prop := w.ownsRow n 36 2 v l.length (l.flatMap clc)
theorem NewK.keep {n : Nat} {w w' : World} {v : Value} {l : List Cl} (h : NewK n w v l) (hb : Below w.heap.size w w') : NewK n w' v l := owns_same h fun b e => hb.block b (World.ownsRow.lt h b e).2
theorem NewK.mono {n m : Nat} {w : World} {v : Value} {l : List Cl} (h : NewK n w v l) (hm : m ≤ n) : NewK m w v l := World.ownsRow.mono_base h hm
theorem NewK.form {n : Nat} {w : World} {v : Value} {l : List Cl} (h : NewK n w v l) : ∃ A cap, v = .slice A l.length cap := owns_form h
theorem infoCl : (Try.prog.info? 36).map (fun i => (i.zero, i.size, i.bytes)) = some (some (.agg #[.int .i64 0, .int .u32 0]), 2, 16) := by kernel_rfl
def Try.sortCl_ren : Go.Shelf.Ren := ⟨fun | 6 => 34 | 15 => 42 | 14 => 41 | 28 => 55 | 29 => 56 | 20 => 47 | 21 => 48 | 22 => 49 | 23 => 50 | 24 => 51 | 25 => 52 | 26 => 53 | 27 => 54 | 46 => 58 | 47 => 59 | 48 => 60 | 49 => 61 | 50 => 62 | 57 => 63 | n => n, fun | 22 => 30 | 24 => 36 | 25 => 75 | 3 => 3 | 39 => 82 | 0 => 0 | 53 => 34 | 55 => 96 | 4 => 4 | 46 => 89 | 45 => 88 | 50 => 43 | 5 => 5 | 9 => 9 | 66 => 98 | 70 => 102 | 76 => 104 | 77 => 105 | n => n, fun | n => n⟩
theorem Try.sortCl : Go.Proofs.SlLaysF0.n6 Try.prog Try.sortCl_ren := {
  mixed := by kernel_rfl,
  f6 := ⟨Try.f34.name, by decide, Try.func34.trans (congrArg some (by kernel_rfl))⟩,
  f14 := ⟨Try.f41.name, by decide, Try.func41.trans (congrArg some (by kernel_rfl))⟩,
  f15 := Try.func42.trans (congrArg some (by kernel_rfl)),
  f20 := ⟨Try.f47.name, by decide, Try.func47.trans (congrArg some (by kernel_rfl))⟩,
  f21 := ⟨Try.f48.name, by decide, Try.func48.trans (congrArg some (by kernel_rfl))⟩,
  f22 := ⟨Try.f49.name, by decide, Try.func49.trans (congrArg some (by kernel_rfl))⟩,
  f23 := ⟨Try.f50.name, by decide, Try.func50.trans (congrArg some (by kernel_rfl))⟩,
  f24 := ⟨Try.f51.name, by decide, Try.func51.trans (congrArg some (by kernel_rfl))⟩,
  f25 := ⟨Try.f52.name, by decide, Try.func52.trans (congrArg some (by kernel_rfl))⟩,
  f26 := ⟨Try.f53.name, by decide, Try.func53.trans (congrArg some (by kernel_rfl))⟩,
  f27 := ⟨Try.f54.name, by decide, Try.func54.trans (congrArg some (by kernel_rfl))⟩,
  f28 := Try.func55.trans (congrArg some (by kernel_rfl)),
  f29 := Try.func56.trans (congrArg some (by kernel_rfl)),
  f46 := ⟨Try.f58.name, by decide, Try.func58.trans (congrArg some (by kernel_rfl))⟩,
  f47 := Try.func59.trans (congrArg some (by kernel_rfl)),
  f48 := Try.func60.trans (congrArg some (by kernel_rfl)),
  f49 := ⟨Try.f61.name, by decide, Try.func61.trans (congrArg some (by kernel_rfl))⟩,
  f50 := ⟨Try.f62.name, by decide, Try.func62.trans (congrArg some (by kernel_rfl))⟩,
  f57 := ⟨Try.f63.name, by decide, Try.func63.trans (congrArg some (by kernel_rfl))⟩,
  t0 := Try.underlying0,
  a0 := Try.isAgg0,
  z0 := Try.sizeOf0,
  v0 := Try.zeroValue0,
  t3 := Try.underlying3,
  a3 := Try.isAgg3,
  z3 := Try.sizeOf3,
  v3 := Try.zeroValue3,
  t4 := Try.underlying4,
  a4 := Try.isAgg4,
  z4 := Try.sizeOf4,
  v4 := Try.zeroValue4,
  t5 := Try.underlying5,
  a5 := Try.isAgg5,
  z5 := Try.sizeOf5,
  v5 := Try.zeroValue5,
  t9 := Try.underlying9,
  a9 := Try.isAgg9,
  z9 := Try.sizeOf9,
  v9 := Try.zeroValue9,
  t22 := Try.underlying30,
  a22 := Try.isAgg30,
  z22 := Try.sizeOf30,
  v22 := Try.zeroValue30,
  t25 := Try.underlying75,
  a25 := Try.isAgg75,
  z25 := Try.sizeOf75,
  v25 := Try.zeroValue75,
  t39 := Try.underlying82,
  a39 := Try.isAgg82,
  z39 := Try.sizeOf82,
  v39 := Try.zeroValue82,
  t45 := Try.underlying88,
  a45 := Try.isAgg88,
  z45 := Try.sizeOf88,
  v45 := Try.zeroValue88,
  t46 := Try.underlying89,
  a46 := Try.isAgg89,
  z46 := Try.sizeOf89,
  v46 := Try.zeroValue89,
  t50 := Try.underlying43,
  a50 := Try.isAgg43,
  z50 := Try.sizeOf43,
  v50 := Try.zeroValue43,
  t53 := Try.underlying34,
  a53 := Try.isAgg34,
  z53 := Try.sizeOf34,
  v53 := Try.zeroValue34,
  t55 := Try.underlying96,
  a55 := Try.isAgg96,
  z55 := Try.sizeOf96,
  v55 := Try.zeroValue96,
  t66 := Try.underlying98,
  a66 := Try.isAgg98,
  z66 := Try.sizeOf98,
  v66 := Try.zeroValue98,
  t70 := Try.underlying102,
  a70 := Try.isAgg102,
  z70 := Try.sizeOf102,
  v70 := Try.zeroValue102,
  t76 := Try.underlying104,
  a76 := Try.isAgg104,
  z76 := Try.sizeOf104,
  v76 := Try.zeroValue104,
  t77 := Try.underlying105,
  a77 := Try.isAgg105,
  z77 := Try.sizeOf105,
  v77 := Try.zeroValue105 }

def vOf (F : Cl → Option Int) (x : Cl) : Int := (F x).getD 0
def cmpF (F : Cl → Option Int) (x y : Cl) : Int := if vOf F x < vOf F y then -1 else if vOf F y < vOf F x then 1 else 0
theorem ltF (F : Cl → Option Int) (x y : Cl) : ltOf (cmpF F) x y = decide (vOf F x < vOf F y) := by
  unfold ltOf cmpF
  by_cases h1 : vOf F x < vOf F y
  · simp [h1]
  · by_cases h2 : vOf F y < vOf F x <;> simp [h1, h2]
theorem swoF (F : Cl → Option Int) : Go.Sort.SWO (ltOf (cmpF F)) where
  irrefl x := by rw [ltF]; simp
  trans x y z h1 h2 := by rw [ltF] at *; simp at *; omega
  ntrans x y z h1 h2 := by rw [ltF] at *; simp at *; omega
theorem nan_int (w : World) (x : Int) : Calls Try.prog 43 #[.int .i64 x] w fun e w' => e = .returned (.bool false) ∧ w' = w := by
  go_enter Try.func43, Try.ntmps43
  go_wp2
  go_ret
  exact ⟨rfl, rfl⟩
theorem cmp_int (w : World) (x y : Int) : Calls Try.prog 36 #[.int .i64 x, .int .i64 y] w fun e w' => e = .returned (.int .i64 (if x < y then -1 else if y < x then 1 else 0)) ∧ w' = w := by
  go_enter Try.func36, Try.ntmps36
  by_cases h1 : x < y
  · rw [if_pos h1]
    go_wp2_with (go_at_call 43; refine (nan_int _ _).mono ?_; rintro e w' ⟨rfl, rfl⟩)
    go_ret
    exact ⟨rfl, rfl⟩
  · rw [if_neg h1]
    by_cases h2 : y < x
    · rw [if_pos h2]
      go_wp2_with (go_at_call 43; refine (nan_int _ _).mono ?_; rintro e w' ⟨rfl, rfl⟩)
      go_ret
      exact ⟨rfl, rfl⟩
    · rw [if_neg h2]
      go_wp2_with (go_at_call 43; refine (nan_int _ _).mono ?_; rintro e w' ⟨rfl, rfl⟩)
      go_ret
      exact ⟨rfl, rfl⟩
set_option maxHeartbeats 2000000 in
theorem less_cl (W : World) (vb rb n : Nat) (vm : Value) (F : Cl → Option Int) (hv : W.cell? ⟨vb, 0, none⟩ = some (.pointer (some ⟨rb, 0, none⟩))) (hr : W.cell? ⟨rb, 0, none⟩ = some vm) (hm : MapV krC erV W vm n F) (x y : Cl) :
    Calls Try.prog 35 #[cv x, cv y, .pointer (some ⟨vb, 0, none⟩)] W fun e w' => e = .returned (.int .i64 (cmpF F x y)) ∧ ∃ q os', w' = Go.Sort.grow (W.drewN q) os' := by
  have hcon := fun W' => cmp_int W' (vOf F x) (vOf F y)
  unfold cmpF
  obtain ⟨r, hr0⟩ : ∃ r, r = (if vOf F x < vOf F y then (-1 : Int) else if vOf F y < vOf F x then 1 else 0) := ⟨_, rfl⟩
  rw [← hr0]
  rw [← hr0] at hcon
  have HC := Lib.hid hcon
  have hb := ((Below.refl W.heap.size W).alloc (Nat.le_refl _) (.cells #[.int .i64 x.lab, .int .u32 x.key] 36)).alloc (by simp) (.cells #[.int .i64 y.lab, .int .u32 y.key] 36)
  have hl : ∀ d (z : Cl), (Instr.lookup 26 vm (cv z) false).run Try.prog (((W.alloc (.cells #[.int .i64 x.lab, .int .u32 x.key] 36)).alloc (.cells #[.int .i64 y.lab, .int .u32 y.key] 36)).drewN d) = .ok (.int .i64 (vOf F z)) (((W.alloc (.cells #[.int .i64 x.lab, .int .u32 x.key] 36)).alloc (.cells #[.int .i64 y.lab, .int .u32 y.key] 36)).drewN d) := fun d z =>
    (hm.below (w' := ((W.alloc (.cells #[.int .i64 x.lab, .int .u32 x.key] 36)).alloc (.cells #[.int .i64 y.lab, .int .u32 y.key] 36)).drewN d) fun b e => hb.block b (hm.lt e)).look1 Try.underlying26 0 (zeroV _) (x := z) trivial
  have hlx : ∀ d, (Instr.lookup 26 vm (.agg #[.int .i64 x.lab, .int .u32 x.key]) false).run Try.prog (((W.alloc (.cells #[.int .i64 x.lab, .int .u32 x.key] 36)).alloc (.cells #[.int .i64 y.lab, .int .u32 y.key] 36)).drewN d) = .ok (.int .i64 (vOf F x)) (((W.alloc (.cells #[.int .i64 x.lab, .int .u32 x.key] 36)).alloc (.cells #[.int .i64 y.lab, .int .u32 y.key] 36)).drewN d) := fun d => hl d x
  have hly : ∀ d, (Instr.lookup 26 vm (.agg #[.int .i64 y.lab, .int .u32 y.key]) false).run Try.prog (((W.alloc (.cells #[.int .i64 x.lab, .int .u32 x.key] 36)).alloc (.cells #[.int .i64 y.lab, .int .u32 y.key] 36)).drewN d) = .ok (.int .i64 (vOf F y)) (((W.alloc (.cells #[.int .i64 x.lab, .int .u32 x.key] 36)).alloc (.cells #[.int .i64 y.lab, .int .u32 y.key] 36)).drewN d) := fun d => hl d y
  have k1 := (World.cell?_of_block (hb.block vb (World.block_lt_of_cell? _ _ hv))).trans hv
  have k2 := (World.cell?_of_block (hb.block rb (World.block_lt_of_cell? _ _ hr))).trans hr
  clear hl hcon hm hr0
  obtain ⟨vx, hvx⟩ : ∃ a, a = vOf F x := ⟨_, rfl⟩
  obtain ⟨vy, hvy⟩ : ∃ a, a = vOf F y := ⟨_, rfl⟩
  rw [← hvx] at hlx HC
  rw [← hvy] at hly HC
  clear hvx hvy
  go_enter Try.func35, Try.ntmps35
  go_wp2
  go_quiet ((go_at_call 36; exact Calls.quiet_of_same (HC.out _)))
  go_wp2
  go_ret
  exact ⟨rfl, nq, _, by rw [Go.Sort.alloc_eq_grow, Go.Sort.alloc_eq_grow, Go.Sort.grow_grow]; rfl⟩
theorem flatK_cl (d : List Cl) : (Go.Sort.flatK clc 2 d.toArray) = (d.flatMap clc).toArray := by
  refine Go.Sort.ext_get! (by simp [flat_len clc 2 (fun _ => rfl)]) fun t ht => ?_
  have ht' : t < d.length * 2 := by simpa using ht
  rw [Go.Sort.get_flatK _ _ _ _ (by simpa using ht')]
  have hd : t / 2 < d.length := by omega
  have hc := flat_chunk clc 2 (fun _ => rfl) d (t / 2) hd
  have hl := flat_len clc 2 (fun _ => rfl) d
  rw [getElem!_pos d.toArray _ (by simpa using hd), getElem!_pos (d.flatMap clc).toArray t (by simp [hl]; omega)]
  simp only [List.getElem_toArray]
  rw [← hc, getElem!_pos _ (t % 2) (by simp [hl]; omega), List.getElem_take, List.getElem_drop]
  congr 1; omega
theorem isAggCl : ∀ w, (isAgg 36).run Try.prog w = .ok true w := Try.isAgg36
theorem sizeCl : ∀ w, (Go.sizeOf 36).run Try.prog w = .ok 2 w := Try.sizeOf36
theorem sort_cl (w : World) (v : Value) (l : List Cl) {base : Nat} (h : w.ownsRow base 36 2 v l.length (l.flatMap clc)) (hl : l.length ≤ 1000000)
    (vb rb n : Nat) (vm : Value) (F : Cl → Option Int) (hv : w.cell? ⟨vb, 0, none⟩ = some (.pointer (some ⟨rb, 0, none⟩))) (hr : w.cell? ⟨rb, 0, none⟩ = some vm) (hm : MapV krC erV w vm n F)
    (h1 : v.ownBlock ≠ some vb) (h2 : v.ownBlock ≠ some rb) (h3 : ∀ b, vm = .map (some b) → v.ownBlock ≠ some b) :
    Calls Try.prog 34 #[v, .func (.func 35) #[] #[.pointer (some ⟨vb, 0, none⟩)]] w fun e w' => e = .returned (.tuple #[]) ∧
      ∃ l' : List Cl, l'.Perm l ∧ l'.Pairwise (fun s t => vOf F s ≤ vOf F t) ∧ w'.ownsRow base 36 2 v l.length (l'.flatMap clc) ∧ w.grownBy w' v.ownBlock := by
  obtain ⟨-, (⟨rfl, h0⟩ | ⟨g, cap, cur, rfl, hg, hh, hcap, hmax, hsz, htk⟩)⟩ := id h
  · have : l = [] := List.length_eq_zero_iff.1 h0
    subst this
    refine (AnyF.slices_SortFunc_none Try.sortCl none 0 _ w).mono ?_
    rintro e w' ⟨rfl, rfl⟩
    exact ⟨rfl, [], .refl _, .nil, h, ⟨rfl, rfl, rfl, Nat.le_refl _, fun _ _ _ => rfl⟩⟩
  · have hlen := flat_len clc 2 (fun _ => rfl) l
    have hlt : g < w.heap.size := (h.lt g rfl).2
    have hcell : ∀ j, j < l.length * 2 → w.cell? ⟨g, 0 + j, none⟩ = some (l.flatMap clc).toArray[j]! ∧ w.frozen? ⟨g, 0 + j, none⟩ = false := fun j hj => by
      have e1 : cur.toList[j]? = (l.flatMap clc)[j]? := by rw [← htk, List.getElem?_take, if_pos hj]
      have e2 : cur[j]? = (l.flatMap clc)[j]? := by rw [← e1, Array.getElem?_toList]
      rw [List.getElem?_eq_getElem (by omega)] at e2
      refine ⟨?_, ?_⟩
      · rw [getElem!_pos _ j (by simp [hlen]; omega)]
        simp [World.cell?, hh, e2]
      · simp [World.frozen?, hh]
    have hH : Go.Sort.HoldsK clc 2 w g 0 l.toArray := by
      intro j hj
      rw [flatK_cl] at hj ⊢
      exact hcell j (by simpa [hlen] using hj)
    have eg : ∀ args w, (callFunc 35 args).run Try.prog w = .ok (.enter 35 args) w := enters_of Try.func35 (by kernel_rfl) rfl
    have hblk : ∀ m dk os b, b < w.heap.size → b ≠ g → (sortWorldK clc 2 w g 0 m dk os).heap[b]? = w.heap[b]? := fun m dk os b hb hne => by
      unfold sortWorldK Go.Sort.putRowK Go.Sort.putRow
      rw [Go.Sort.heap_grow_old _ _ (by simpa [Go.Sort.mapBlock, Go.Sort.ahead] using hb)]
      simp [Go.Sort.mapBlock, Go.Sort.ahead, Array.getElem?_modify, Ne.symm hne]
    have hcon := AnyQ.slices_SortFunc Try.sortCl 2 isAggCl sizeCl clc (fun _ => rfl) (fun x v hv => by simp [clc] at hv; rcases hv with rfl | rfl <;> rfl) (cmpF F) (swoF F) 35 #[.pointer (some ⟨vb, 0, none⟩)] g 0 cap l.toArray w eg
      (fun m os dk _ x y => less_cl (sortWorldK clc 2 w g 0 m dk os) vb rb n vm F ((World.cell?_of_block (hblk m dk os vb (World.block_lt_of_cell? _ _ hv) (fun e => h1 (by rw [e]; rfl)))).trans hv) ((World.cell?_of_block (hblk m dk os rb (World.block_lt_of_cell? _ _ hr) (fun e => h2 (by rw [e]; rfl)))).trans hr)
        (hm.below fun b e => hblk m dk os b (hm.lt e) (fun e2 => h3 b e (by rw [e2]; rfl))) x y) hH hlt (by simp; omega)
    refine hcon.mono ?_
    rintro e w' ⟨rfl, d', n', os, hp, hs, rfl⟩
    obtain ⟨p1, p2, p3⟩ := hp
    simp only [List.size_toArray] at p1 p3 hs
    have hperm : d'.toList.Perm l := by
      have e1 : d'.extract 0 l.length = d' := by rw [← p1]; exact Array.extract_size
      have e2 : l.toArray.extract 0 l.length = l.toArray := by simp
      rw [e1, e2] at p3
      simpa using p3
    refine ⟨rfl, d'.toList, hperm, ?_, ?_, ?_⟩
    · rw [List.pairwise_iff_getElem]
      intro i j hi hj hij
      have := hs i j (Nat.zero_le _) hij (by simpa [p1] using hj)
      rw [ltF, getElem!_pos d' j (by simpa using hj), getElem!_pos d' i (by simpa using hi)] at this
      simp at this
      simpa using this
    · have hl2 := flat_len clc 2 (fun _ => rfl) d'.toList
      have hdl : d'.toList.length = l.length := by simpa using p1
      refine ⟨by rw [hl2, hdl], .inr ⟨g, cap, Go.Sort.putCells id 0 (d'.toList.flatMap clc).toArray cur, rfl, hg, ?_, hcap, hmax, by simp [Go.Sort.putCells, hsz], ?_⟩⟩
      · unfold sortWorldK Go.Sort.putRowK Go.Sort.putRow
        rw [Go.Sort.heap_grow_old _ _ (by simpa [Go.Sort.mapBlock, Go.Sort.ahead] using hlt)]
        have e : Go.Sort.flatK clc 2 d' = (d'.toList.flatMap clc).toArray := by rw [← flatK_cl]
        rw [e]
        simp [Go.Sort.mapBlock, Go.Sort.ahead, Array.getElem?_modify, hh, Go.Sort.onCells]
      · apply List.ext_getElem
        · simp [Go.Sort.putCells, hsz, hl2, hdl]; omega
        · intro j hj1 hj2
          rw [hl2, hdl] at hj2
          have hjs : j < cur.size := by rw [hsz]; have := Nat.mul_le_mul_right 2 hcap; omega
          rw [List.getElem_take]
          simp only [Go.Sort.putCells, Array.getElem_toList, Array.getElem_mapIdx, List.size_toArray, hl2, hdl, Nat.zero_add, Nat.zero_le, true_and]
          rw [if_pos hj2]
          simp [hl2, hdl, hj2]
    · refine ⟨rfl, rfl, rfl, ?_, fun b hb hne => hblk _ _ _ b hb fun e => hne (by rw [e]; rfl)⟩
      simp [sortWorldK, Go.Sort.putRowK, Go.Sort.putRow, Go.Sort.mapBlock, Go.Sort.ahead]
end Go.Proofs.Ytipdmnfkigoanaa
