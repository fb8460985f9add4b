import Derived.Test.YtfapeemdlphjbaaDoorArD
namespace Go.Proofs.YtfapeemdlphjbaaDoor
open Go.RowKit
attribute [local go_sem] World.cell?_alloc_some frozen_alloc_some Oper.semAt_some

/-- A variable in a block of its own. -/
def Var (w : World) (b : Nat) (v : Value) : Prop := w.cell? ⟨b, 0, none⟩ = some v ∧ w.frozen? ⟨b, 0, none⟩ = false
theorem Var.lt {w : World} {b : Nat} {v : Value} (h : Var w b v) : b < w.heap.size := by have := World.block_lt_of_cell? w _ h.1; simpa using this
theorem Var.block {w w' : World} {b : Nat} {v : Value} (h : Var w b v) (hb : w'.heap[b]? = w.heap[b]?) : Var w' b v := ⟨(World.cell?_of_block hb).trans h.1, (World.frozen?_of_block hb).trans h.2⟩
theorem Var.set {w : World} {b : Nat} {v : Value} (h : Var w b v) (u : Value) : Var (w.setCell ⟨b, 0, none⟩ u) b u := ⟨World.cell?_setCell_same _ _ _ h.1, by rw [World.frozen?_setCell]; exact h.2⟩
theorem Var.new (w : World) (v : Value) (t : TypeId) : Var (w.alloc (.cells #[v] t)) w.heap.size v := by
  have h := heap_alloc_at w (.cells #[v] t)
  exact ⟨by unfold World.cell?; rw [h]; rfl, by unfold World.frozen?; rw [h]; rfl⟩
theorem Var.alloc {w : World} {b : Nat} {v : Value} (h : Var w b v) (o : Obj) : Var (w.alloc o) b v := h.block (Below.heap_alloc _ _ _ h.lt)
/-- a variable of color c. -/
def VarC (c b : Nat) (v : Value) (χ : Col) (w : World) : Prop := χ b = c ∧ Var w b v
theorem VarC.keep {c b : Nat} {v : Value} {χ χ' : Col} {w w' : World} (h : VarC c b v χ w) (hs : Same (· = c) χ χ' w w') : VarC c b v χ' w' := by
  have k := hs b h.2.lt h.1
  exact ⟨k.1.trans h.1, h.2.block k.2⟩

/-- the labels of a row of cells, as a mask. -/
def maskN (l : List Nat) : Nat := l.foldl (fun o i => o ||| ((1 <<< i) % 4294967296)) 0
theorem maskN_snoc (l : List Nat) (i : Nat) : maskN (l ++ [i]) = maskN l ||| ((1 <<< i) % 4294967296) := by simp [maskN]
theorem maskN_lt (l : List Nat) : maskN l < 4294967296 := by
  rw [← List.reverse_reverse l]
  induction l.reverse with
  | nil => decide
  | cons x r ih =>
    rw [List.reverse_cons, maskN_snoc]
    exact Nat.or_lt_two_pow (n := 32) ih (Nat.mod_lt _ (by decide))

theorem or_u32_nat (a b : Nat) (ha : a < 4294967296) (hb : b < 4294967296) : bits .or .u32 (a : Int) (b : Int) = ((a ||| b : Nat) : Int) := by
  have hx : a ||| b < 2 ^ 32 := Nat.or_lt_two_pow (by omega) (by omega)
  have h1 : (BitVec.ofInt 32 (a : Int)).toNat = a := by
    rw [BitVec.ofInt_natCast, BitVec.toNat_ofNat]; exact Nat.mod_eq_of_lt (by omega)
  have h2 : (BitVec.ofInt 32 (b : Int)).toNat = b := by
    rw [BitVec.ofInt_natCast, BitVec.toNat_ofNat]; exact Nat.mod_eq_of_lt (by omega)
  show IntKind.u32.wrap ((BitVec.ofInt 32 (a : Int) ||| BitVec.ofInt 32 (b : Int)).toNat : Int) = _
  rw [BitVec.toNat_or, h1, h2]
  show ((a ||| b : Nat) : Int) % 4294967296 = _
  omega
theorem shl_u32 (i : Nat) : IntKind.u32.wrap ((2 : Int) ^ min i 32) = (((1 <<< i) % 4294967296 : Nat) : Int) := by
  show ((2 : Int) ^ min i 32) % 4294967296 = _
  rw [Nat.one_shiftLeft]
  by_cases h : i ≤ 32
  · rw [Nat.min_eq_left h]; simp
  · rw [Nat.min_eq_right (by omega), show i = 32 + (i - 32) by omega, Nat.pow_add]
    have : (2 : Nat) ^ 32 * 2 ^ (i - 32) % 4294967296 = 0 := Nat.mul_mod_right _ _
    rw [this]; decide

theorem mem_cells {a : Ar} {k : Nat} {x : Nat × Sp} (h : x ∈ cellsTo a k) : x.1 < k := by
  unfold cellsTo at h
  simp only [List.mem_flatMap, List.mem_range, List.mem_map] at h
  obtain ⟨i, hi, s, hs, rfl⟩ := h; exact hi

end Go.Proofs.YtfapeemdlphjbaaDoor
