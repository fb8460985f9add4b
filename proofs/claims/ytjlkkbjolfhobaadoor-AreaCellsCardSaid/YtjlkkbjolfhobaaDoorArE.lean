import Derived.Test.YtjlkkbjolfhobaaDoorArD
namespace Go.Proofs.YtjlkkbjolfhobaaDoor
open Go.RowKit
attribute [local go_sem] World.cell?_alloc_some frozen_alloc_some Oper.semAt_some

/-- A variable in a block of its own. -/
def Var (w : World) (b : Nat) (v : Value) : Prop := w.cell? ⟨b, 0, none⟩ = some v ∧ w.frozen? ⟨b, 0, none⟩ = false
theorem Var.lt {w : World} {b : Nat} {v : Value} (h : Var w b v) : b < w.heap.size := by have := World.block_lt_of_cell? w _ h.1; simpa using this
theorem Var.block {w w' : World} {b : Nat} {v : Value} (h : Var w b v) (hb : w'.heap[b]? = w.heap[b]?) : Var w' b v := ⟨(World.cell?_of_block hb).trans h.1, (World.frozen?_of_block hb).trans h.2⟩
theorem Var.set {w : World} {b : Nat} {v : Value} (h : Var w b v) (u : Value) : Var (w.setCell ⟨b, 0, none⟩ u) b u := ⟨World.cell?_setCell_same _ _ _ h.1, by rw [World.frozen?_setCell]; exact h.2⟩
theorem Var.new (w : World) (v : Value) (t : TypeId) : Var (w.alloc (.cells #[v] t)) w.heap.size v := by
  have h := heap_alloc_at w (.cells #[v] t)
  exact ⟨by unfold World.cell?; rw [h]; rfl, by unfold World.frozen?; rw [h]; rfl⟩
theorem Var.alloc {w : World} {b : Nat} {v : Value} (h : Var w b v) (o : Obj) : Var (w.alloc o) b v := h.block (Below.heap_alloc _ _ _ h.lt)
/-- a variable of color c. -/
def VarC (c b : Nat) (v : Value) (χ : Col) (w : World) : Prop := χ b = c ∧ Var w b v
theorem VarC.keep {c b : Nat} {v : Value} {χ χ' : Col} {w w' : World} (h : VarC c b v χ w) (hs : Same (· = c) χ χ' w w') : VarC c b v χ' w' := by
  have k := hs b h.2.lt h.1
  exact ⟨k.1.trans h.1, h.2.block k.2⟩

/-- the labels of a row of cells, as a mask. -/
def maskN (l : List Nat) : Nat := l.foldl (fun o i => o ||| ((1 <<< i) % 4294967296)) 0
theorem maskN_snoc (l : List Nat) (i : Nat) : maskN (l ++ [i]) = maskN l ||| ((1 <<< i) % 4294967296) := by simp [maskN]
theorem maskN_lt (l : List Nat) : maskN l < 4294967296 := by
  rw [← List.reverse_reverse l]
  induction l.reverse with
  | nil => decide
  | cons x r ih =>
    rw [List.reverse_cons, maskN_snoc]
    exact Nat.or_lt_two_pow (n := 32) ih (Nat.mod_lt _ (by decide))

theorem or_u32_nat (a b : Nat) (ha : a < 4294967296) (hb : b < 4294967296) : bits .or .u32 (a : Int) (b : Int) = ((a ||| b : Nat) : Int) := by
  have hx : a ||| b < 2 ^ 32 := Nat.or_lt_two_pow (by omega) (by omega)
  have h1 : (BitVec.ofInt 32 (a : Int)).toNat = a := by
    rw [BitVec.ofInt_natCast, BitVec.toNat_ofNat]; exact Nat.mod_eq_of_lt (by omega)
  have h2 : (BitVec.ofInt 32 (b : Int)).toNat = b := by
    rw [BitVec.ofInt_natCast, BitVec.toNat_ofNat]; exact Nat.mod_eq_of_lt (by omega)
  show IntKind.u32.wrap ((BitVec.ofInt 32 (a : Int) ||| BitVec.ofInt 32 (b : Int)).toNat : Int) = _
  rw [BitVec.toNat_or, h1, h2]
  show ((a ||| b : Nat) : Int) % 4294967296 = _
  omega
theorem shl_u32 (i : Nat) : IntKind.u32.wrap ((2 : Int) ^ min i 32) = (((1 <<< i) % 4294967296 : Nat) : Int) := by
  show ((2 : Int) ^ min i 32) % 4294967296 = _
  rw [Nat.one_shiftLeft]
  by_cases h : i ≤ 32
  · rw [Nat.min_eq_left h]; simp
  · rw [Nat.min_eq_right (by omega), show i = 32 + (i - 32) by omega, Nat.pow_add]
    have : (2 : Nat) ^ 32 * 2 ^ (i - 32) % 4294967296 = 0 := Nat.mul_mod_right _ _
    rw [this]; decide

/-- the loop's frame. -/
def mact (w : World) (A : Option Addr) (n cap : Nat) (x : Nat × Sp) : Act :=
  { tmps := #[.slice A n cap, undef, .int .u32 0, .pointer (some ⟨w.heap.size, 0, none⟩), .int .i64 x.1, .slice A n cap, .func (.func 56) #[] #[.pointer (some ⟨w.heap.size + 1, 0, none⟩)], .int .i64 x.1, .agg #[.int .u32 x.2.1, .int .u32 x.2.2], undef, undef, undef, undef, undef], defers := [] }
theorem mem_cells {a : Ar} {k : Nat} {x : Nat × Sp} (h : x ∈ cellsTo a k) : x.1 < k := by
  unfold cellsTo at h
  simp only [List.mem_flatMap, List.mem_range, List.mem_map] at h
  obtain ⟨i, hi, s, hs, rfl⟩ := h; exact hi

set_option maxRecDepth 100000 in
set_option maxHeartbeats 4000000 in
theorem mask_calls (w : World) (v : Value) (a : Ar) (hr : RdA w v a) (hs : Sm 100000 a) (hal : a.length ≤ 1000) :
    Calls Tryd.prog 27 #[v] w fun e w' => e = .returned (.int .u32 (maskN ((cellsL a).map (·.1)))) ∧ Below w.heap.size w w' := by
  obtain ⟨A, cap, rfl, a1, a2, a3, -⟩ := id hr
  have HR := Lib.hid hr
  have HS := Lib.hid hs
  clear hr hs
  refine callsIn_wide (n := 99) |>.1 ?_
  refine callsIn_of_wp_marks Tryd.func27 rfl trivial ?_ rfl
  simp only [Tryd.ntmps27, List.size_toArray, List.length_cons, List.length_nil, Nat.reduceAdd, Nat.reduceSub, Array.replicate_succ, Array.replicate_zero, List.push_toArray, List.append_toArray, List.nil_append, List.cons_append]
  gi_wp2_with (refine ⟨trivial, ?_⟩; gi_at_call 39; refine (callsIn_wide.2 (cells_calls _ _ _ _)).mono ?_; rintro e w' ⟨rfl, rfl⟩)
  obtain ⟨W0, hW0⟩ : ∃ W0, W0 = ((w.alloc (.cells #[.int .u32 0] 23)).alloc (.cells #[.slice A a.length cap] 22)) := ⟨_, rfl⟩
  have hv0 := (Var.new w (.int .u32 0) 23).alloc (.cells #[.slice A a.length cap] 22)
  have hv1 := Var.new (w.alloc (.cells #[.int .u32 0] 23)) (.slice A a.length cap) 22
  have hb0 : Below w.heap.size w W0 := by rw [hW0]; exact ((Below.refl w.heap.size w).alloc (Nat.le_refl _) _).alloc (by simp) _
  have hsz : W0.heap.size = w.heap.size + 2 := by rw [hW0]; simp
  simp only [World.size_alloc] at hv1
  rw [← hW0] at hv0 hv1 ⊢
  clear hW0
  refine wp_rangeC (gf := 56) (lb := #[.pointer (some ⟨w.heap.size + 1, 0, none⟩)]) (Y := YCell) (xs := cellsL a) (Co := (· = 1)) (T := fun x => x = 3) (cR := 2) (χ := paint (fun _ => 0) w.heap.size 1) (Zt := fun _ _ => True)
    rfl (enters_of Tryd.func56 (by kernel_rfl) rfl) (by decide) (by decide)
    (fun W hb => cells_iter w W _ _ a HR.out HS.out (hb0.trans (hb.mono hb0.size)) (fun b hb => by rw [paint_low (by omega), paint_low hb]; omega) (by omega) ((World.cell?_of_block (hb.block _ hv1.lt)).trans hv1.1))
    (fun pre χ1 W => VarC 1 w.heap.size (.int .u32 (maskN (pre.map (·.1)))) χ1 W)
    (fun c pre χ1 W => False)
    (fun pre x a₁ χ1 W => VarC 1 w.heap.size (.int .u32 (maskN (pre.map (·.1)))) χ1 W ∧ a₁ = mact w A a.length cap x)
    ?hI ?hIx ?hZ ⟨paint_high (Nat.le_refl _), hv0⟩ ?assign ?body ?done ?zt ?stop ?cw
  case hI => exact fun pre χ1 χ2 W W' h hs => h.keep hs
  case hIx => exact fun c pre χ1 χ2 W W' h hs => h
  case hZ => exact fun pre x a₁ χ1 χ2 W W' h hs => ⟨h.1.keep hs, h.2⟩
  case zt => exact fun _ _ _ _ _ _ => trivial
  case stop => exact fun D χ2 c pre W _ _ _ _ _ h _ => h.elim
  case cw =>
    intro b hb
    by_cases h : b < w.heap.size
    · rw [paint_low h]; decide
    · rw [paint_high (by omega)]; decide
  case assign =>
    rintro m l pre x rest vs χ1 W hx hi rfl
    refine ⟨rfl, ?_⟩
    gi_wp2
    exact ⟨χ1, fun _ _ => rfl, Chg.of_below (Below.refl _ _), hi, rfl⟩
  case body =>
    rintro m l pre x rest a₁ χ1 W hx ⟨hi, rfl⟩
    obtain ⟨hc, hv⟩ := hi
    have hx1 : x.1 < 1000 := by
      have := mem_cells (a := a) (k := a.length) (x := x) (by show x ∈ cellsL a; rw [hx]; simp)
      omega
    have HV := Lib.hid hv
    have hv1' := hv.1; have hv2' := hv.2
    unfold mact
    have hml := maskN_lt (pre.map (·.1))
    gi_wp2
    gi_region
    all_goals
      have e : bits BinOp.or IntKind.u32 (↑(maskN (List.map (fun x => x.fst) pre))) (IntKind.u32.wrap (2 ^ min x.fst 32)) = ((maskN ((pre ++ [x]).map (·.1)) : Nat) : Int) := by
        rw [shl_u32, or_u32_nat _ _ hml (Nat.mod_lt _ (by decide)), List.map_append, List.map_cons, List.map_nil, maskN_snoc]
      rw [e]
      exact ⟨χ1, fun _ _ => rfl, (Chg.setCell _ _ _ hc).drew, hc, (HV.out.set _)⟩
  case done =>
    rintro D χ2 W hD cD ag hch hzt ⟨hc, hv⟩ hK
    have hv1' := hv.1; have hv2' := hv.2
    gi_wp2
    refine ⟨by simp, .inl ⟨_, _, rfl, run_takeDeferred hK, ?_⟩⟩
    refine ⟨.int .u32 (maskN ((cellsL a).map (·.1))), by simp [results, Tryd.results27, go_sem], rfl, ?_⟩
    have h1 : Below w.heap.size W0 W := hch.below (n := w.heap.size) (fun b hb => by rw [paint_low hb]; omega) (by omega)
    have h2 : Below w.heap.size W (W.putObj D (.deferred none)) := ⟨rfl, rfl, rfl, by simp, fun b hb => World.putObj_heap_other (by omega)⟩
    exact (hb0.trans h1).trans h2
end Go.Proofs.YtjlkkbjolfhobaaDoor
