import Derived.Test.YtcdldjiogoapkaaSgC
import Derived.Laws.BitsAllLaws
namespace Go.Proofs.Ytcdldjiogoapkaa
open Go.RowKit
attribute [local go_sem] World.cell?_alloc_some frozen_alloc_some

theorem below_setNW {B g o : Nat} {a w : World} {n : Nd} (h : Below B a w) (hg : B ≤ g) : Below B a (setNW w g o n) :=
  ((((((h.setCell hg _).setCell hg _).setCell hg _).setCell hg _).setCell hg _).setCell hg _).setCell hg _

theorem field_na (l r x s mn mx : Int) (k : Bool) (w : World) : (Instr.field 95 (.agg #[.int .i32 l, .int .i32 r, .int .i64 x, .int .i64 s, .int .i64 mn, .int .i64 mx, .bool k]) 2).run Try.prog w = .ok (.agg #[.int .i64 x, .int .i64 s, .int .i64 mn, .int .i64 mx]) w := by kernel_rfl
theorem field_ac (x s mn mx : Int) (w : World) : (Instr.field 38 (.agg #[.int .i64 x, .int .i64 s, .int .i64 mn, .int .i64 mx]) 0).run Try.prog w = .ok (.int .i64 x) w := by kernel_rfl
theorem field_as (x s mn mx : Int) (w : World) : (Instr.field 38 (.agg #[.int .i64 x, .int .i64 s, .int .i64 mn, .int .i64 mx]) 1).run Try.prog w = .ok (.int .i64 s) w := by kernel_rfl

/-- A tree at block pt, of color c + 2; its arena's of c and c + 1. -/
def TrAt (c : Nat) (χ : Col) (w : World) (pt : Nat) (ns : List Nd) (root lim : Int) : Prop :=
  ∃ qa, χ pt = c + 2 ∧ w.cell? ⟨pt, 0, none⟩ = some (.pointer (some ⟨qa, 0, none⟩)) ∧ w.frozen? ⟨pt, 0, none⟩ = false ∧ w.cell? ⟨pt, 1, none⟩ = some (.int .i32 root) ∧ w.frozen? ⟨pt, 1, none⟩ = false ∧ ArAt c χ w qa ns lim
theorem TrAt.keep {c : Nat} {χ χ' : Col} {w w' : World} {pt : Nat} {ns : List Nd} {root lim : Int} (h : TrAt c χ w pt ns root lim) (hs : Same (fun x => c ≤ x ∧ x ≤ c + 2) χ χ' w w') : TrAt c χ' w' pt ns root lim := by
  obtain ⟨qa, h0, h1, h2, h3, h4, h5⟩ := h
  obtain ⟨hx, hb⟩ := hs pt (World.block_lt_of_cell? w _ h1) (by omega)
  exact ⟨qa, hx.trans h0, (World.cell?_of_block hb).trans h1, (World.frozen?_of_block hb).trans h2, (World.cell?_of_block hb).trans h3, (World.frozen?_of_block hb).trans h4, h5.keep (hs.mono fun x hx => by omega)⟩
/-- What a call does that turns a tree. -/
def TrTo (c : Nat) (χ : Col) (w w' : World) (pt : Nat) (ns : List Nd) (root lim : Int) : Prop :=
  ∃ χ', (∀ b, b < w.heap.size → χ' b = χ b) ∧ TrAt c χ' w' pt ns root lim ∧ Chg χ (fun x => c ≤ x ∧ x ≤ c + 2) w w'

theorem at_calls (w : World) (pt : Nat) (i : Int) {c : Nat} {χ : Col} {ns : List Nd} {root lim : Int} (h : TrAt c χ w pt ns root lim) (i0 : 0 ≤ i) (i1 : i ≤ ns.length) :
    Calls Try.prog 44 #[.pointer (some ⟨pt, 0, none⟩), .int .i32 i] w fun e w' => e = .returned (getN ns i).val ∧ Below w.heap.size w w' := by
  have HH := Lib.hid fun o => h.keep (Same.below' ((Below.refl _ w).alloc (Nat.le_refl _) o))
  obtain ⟨qa, h0, h1, h2, h3, h4, h5⟩ := h
  have H5 := Lib.hid fun o => h5.keep (Same.below' ((Below.refl _ w).alloc (Nat.le_refl _) o))
  have hb := (Below.refl _ w).alloc (Nat.le_refl _) (.cells #[.int .i32 0, .int .i32 0, .int .i64 0, .int .i64 0, .int .i64 0, .int .i64 0, .bool false] 95)
  have HB := Lib.hid hb
  clear hb h5
  go_enter Try.func44, Try.ntmps44
  go_wp2_with fail
  refine (get_calls _ _ _ (H5.out _) i0 i1).mono ?_
  rintro e w1 ⟨⟨u, rfl⟩, hb1⟩
  obtain ⟨⟨x0, x1, x2, x3, x4, x5, x6⟩, y0, y1, y2, y3, y4, y5, y6⟩ := cells7 (kept_new hb1)
  go_wp2
  refine bodyPost_ret (v := (getN ns i).val) (by simp [results, Try.results44, go_sem, *]) rfl ⟨rfl, ?_⟩
  exact below_setNW (o := 0) (n := getN ns i) ((below_lit hb1).alloc (below_lit hb1).size _) (Nat.le_refl _)

/-- Does a key go to the right from height h + 1? -/
def rgt (key h : Nat) : Bool := decide (key / 2 ^ h % 2 = 1)

theorem right_calls (w : World) (key h : Nat) (h1 : h < 32) (k2 : key < 4294967296) :
    Calls Try.prog 48 #[.int .u32 key, .int .i64 (h + 1)] w fun e w' => e = .returned (.bool (rgt key h)) ∧ w' = w := by
  have hk : key / 2 ^ h < 4294967296 := Nat.lt_of_le_of_lt (Nat.div_le_self _ _) k2
  have hbit : bits .and .u32 ((key : Int) / 2 ^ h) 1 = ((key / 2 ^ h % 2 : Nat) : Int) := by
    have := u32_and_nat (key / 2 ^ h) 1 hk (by omega)
    rw [Nat.and_one_is_mod, Int.natCast_ediv, Int.natCast_pow] at this
    exact this
  have hbb : (bits .and .u32 ((key : Int) / 2 ^ h) 1 == 1) = rgt key h := by
    rw [hbit]; unfold rgt
    rw [Bool.eq_iff_iff]; simp only [beq_iff_eq, decide_eq_true_eq]; omega
  clear hbit
  have HB := Lib.hid hbb
  clear hbb hk
  go_enter Try.func48, Try.ntmps48
  go_wp2
  go_ret
  exact ⟨ret_bool HB.out, rfl⟩

/-- The child that a key goes to from height h + 1. -/
def Nd.kid (n : Nd) (key h : Nat) : Int := if rgt key h then n.r else n.l

theorem child_calls (w : World) (n : Nd) (key h : Nat) (h1 : h < 32) (k2 : key < 4294967296) :
    Calls Try.prog 43 #[n.val, .int .u32 key, .int .i64 (h + 1)] w fun e w' => e = .returned (.int .i32 (n.kid key h)) ∧ Below w.heap.size w w' := by
  go_enter Try.func43, Try.ntmps43
  go_wp2_with fail
  refine (right_calls _ key h h1 k2).mono ?_
  rintro e w1 ⟨rfl, rfl⟩
  have hb : Below w.heap.size w (w.alloc (.cells #[.int .i32 n.l, .int .i32 n.r, .int .i64 n.a.c, .int .i64 n.a.s, .int .i64 n.a.mn, .int .i64 n.a.mx, .bool n.k] 95)) := (Below.refl _ w).alloc (Nat.le_refl _) _
  go_wp2
  all_goals go_ret
  all_goals exact ⟨ret_int (by simp [Nd.kid, *]), hb⟩
end Go.Proofs.Ytcdldjiogoapkaa
