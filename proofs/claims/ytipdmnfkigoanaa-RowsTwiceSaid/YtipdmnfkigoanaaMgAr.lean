import Derived.Test.YtipdmnfkigoanaaArC
import Derived.Test.YtipdmnfkigoanaaRG
import Derived.Test.YtipdmnfkigoanaaIvJ
import Derived.Shelf.Spec.TrailingZeros
import Derived.Stop.RegionWithIn
import Derived.Test.YtipdmnfkigoanaaArK
import Derived.Laws.AppendOwnNone
import Derived.Laws.BitsAllLaws
namespace Go.Proofs.Ytipdmnfkigoanaa
open Go.RowKit
attribute [local go_sem] World.cell?_alloc_some frozen_alloc_some

/-- the set of a row of spans. -/
def nf (l : List Sp) : List Sp := buildL l [] 0
theorem nf_spec {l : List Sp} (h : WfS l) : IsSet (fun k => Mem k l) (nf l) := buildMake_spec h
/-- the spans of the first k labels, each with its label. -/
def cellsTo (a : Ar) (k : Nat) : List (Nat × Sp) := (List.range k).flatMap fun i => (nf (atA a i)).map fun s => (i, s)
theorem cellsTo_succ (a : Ar) (k : Nat) : cellsTo a (k + 1) = cellsTo a k ++ (nf (atA a k)).map fun s => (k, s) := by
  unfold cellsTo; rw [List.range_succ, List.flatMap_append]; simp
theorem cellsTo_pre (a : Ar) {k n : Nat} (h : k ≤ n) : cellsTo a k <+: cellsTo a n := by
  induction n with
  | zero => rw [show k = 0 by omega]; exact List.prefix_refl _
  | succ n ih =>
    by_cases e : k = n + 1
    · rw [e]; exact List.prefix_refl _
    · rw [cellsTo_succ]; exact (ih (by omega)).trans (List.prefix_append _ _)
def cellsL (a : Ar) : List (Nat × Sp) := cellsTo a a.length

/-- What comes with a cell. -/
def YCell (x : Nat × Sp) (vs : Array Value) : Prop := vs = #[.int .i64 x.1, .agg #[.int .u32 x.2.1, .int .u32 x.2.2]]

end Go.Proofs.Ytipdmnfkigoanaa

namespace Go.Proofs.Ytipdmnfkigoanaa
open Go.RowKit
attribute [local go_sem] World.cell?_alloc_some frozen_alloc_some Oper.semAt_some

/-- a variable of color c. -/
def VarC (c b : Nat) (v : Value) (χ : Col) (w : World) : Prop := χ b = c ∧ Var w b v
theorem VarC.keep {c b : Nat} {v : Value} {χ χ' : Col} {w w' : World} (h : VarC c b v χ w) (hs : Same (· = c) χ χ' w w') : VarC c b v χ' w' := by
  have k := hs b h.2.lt h.1
  exact ⟨k.1.trans h.1, h.2.block k.2⟩

/-- the labels of a row of cells, as a mask. -/
def maskN (l : List Nat) : Nat := l.foldl (fun o i => o ||| ((1 <<< i) % 4294967296)) 0
theorem maskN_snoc (l : List Nat) (i : Nat) : maskN (l ++ [i]) = maskN l ||| ((1 <<< i) % 4294967296) := by simp [maskN]
theorem maskN_lt (l : List Nat) : maskN l < 4294967296 := by
  rw [← List.reverse_reverse l]
  induction l.reverse with
  | nil => decide
  | cons x r ih =>
    rw [List.reverse_cons, maskN_snoc]
    exact Nat.or_lt_two_pow (n := 32) ih (Nat.mod_lt _ (by decide))

theorem or_u32_nat (a b : Nat) (ha : a < 4294967296) (hb : b < 4294967296) : bits .or .u32 (a : Int) (b : Int) = ((a ||| b : Nat) : Int) := by
  have hx : a ||| b < 2 ^ 32 := Nat.or_lt_two_pow (by omega) (by omega)
  have h1 : (BitVec.ofInt 32 (a : Int)).toNat = a := by
    rw [BitVec.ofInt_natCast, BitVec.toNat_ofNat]; exact Nat.mod_eq_of_lt (by omega)
  have h2 : (BitVec.ofInt 32 (b : Int)).toNat = b := by
    rw [BitVec.ofInt_natCast, BitVec.toNat_ofNat]; exact Nat.mod_eq_of_lt (by omega)
  show IntKind.u32.wrap ((BitVec.ofInt 32 (a : Int) ||| BitVec.ofInt 32 (b : Int)).toNat : Int) = _
  rw [BitVec.toNat_or, h1, h2]
  show ((a ||| b : Nat) : Int) % 4294967296 = _
  omega
theorem shl_u32 (i : Nat) : IntKind.u32.wrap ((2 : Int) ^ min i 32) = (((1 <<< i) % 4294967296 : Nat) : Int) := by
  show ((2 : Int) ^ min i 32) % 4294967296 = _
  rw [Nat.one_shiftLeft]
  by_cases h : i ≤ 32
  · rw [Nat.min_eq_left h]; simp
  · rw [Nat.min_eq_right (by omega), show i = 32 + (i - 32) by omega, Nat.pow_add]
    have : (2 : Nat) ^ 32 * 2 ^ (i - 32) % 4294967296 = 0 := Nat.mul_mod_right _ _
    rw [this]; decide

theorem mem_cells {a : Ar} {k : Nat} {x : Nat × Sp} (h : x ∈ cellsTo a k) : x.1 < k := by
  unfold cellsTo at h
  simp only [List.mem_flatMap, List.mem_range, List.mem_map] at h
  obtain ⟨i, hi, s, hs, rfl⟩ := h; exact hi

end Go.Proofs.Ytipdmnfkigoanaa

namespace Go.Proofs.Ytipdmnfkigoanaa
open Go.RowKit Go.Shelf



/-- math/bits's table, in its variable. -/
abbrev Tab (w : World) : Prop := TabAt 0 Lib.deBruijn64tab w
theorem Tab.keep {w w' : World} (h : Tab w) (hb : Below w.heap.size w w') : Tab w' := fun j hj => by
  have h1 := h j hj
  exact (World.cell?_of_block (hb.block _ (World.block_lt_of_cell? _ _ h1))).trans h1
end Go.Proofs.Ytipdmnfkigoanaa

namespace Go.Proofs.Ytipdmnfkigoanaa
open Go.RowKit

/-- The word of an iterator that turns memory of its own (colors T): the function gf, its captured values lb, hands out the items xs, one by one; the round turns blocks of colors Co alone; at the end Zt holds. -/
def IterP {α : Type} (P : Program) (gf : Nat) (lb : Array Value) (Y : α → Array Value → Prop) (Co T : Nat → Prop) (Pw : World → Prop) (Zt : Col → World → Prop) (xs : List α) (χ : Col) (W : World) : Prop :=
  ∀ (n l : Nat) (J Jx : List α → Col → World → Prop), (∀ pre χ1 U, J pre χ1 U → Pw U) →
    (∀ pre χ1 χ2 U U', J pre χ1 U → Same Co χ1 χ2 U U' → J pre χ2 U') → (∀ pre χ1 χ2 U U', Jx pre χ1 U → Same Co χ1 χ2 U U' → Jx pre χ2 U') →
    (∀ m pre x rest vs χ1 U, xs = pre ++ x :: rest → J pre χ1 U → Y x vs → YieldAt Fence.wide m P l vs U fun e W' => ∃ χ2, (∀ b, b < U.heap.size → χ2 b = χ1 b) ∧ Chg χ1 Co U W' ∧
      ((e = .returned (.bool true) ∧ J (pre ++ [x]) χ2 W') ∨ (e = .returned (.bool false) ∧ Jx (pre ++ [x]) χ2 W'))) →
    J [] χ W → CallsIn Fence.wide n P gf (#[.func (.yield l) #[] #[]] ++ lb) W fun e W' => (∃ v, e = .returned v) ∧ ∃ χ2, (∀ b, b < W.heap.size → χ2 b = χ b) ∧ Chg χ (fun x => Co x ∨ T x) W W' ∧
      ((Zt χ2 W' ∧ J xs χ2 W') ∨ ∃ pre, pre <+: xs ∧ Jx pre χ2 W')

/-- A range over a function, outside all rounds; the iterator may turn memory. -/
theorem wp_rangeP {α : Type} {n : Nat} {P : Program} {g : Operand} {ps : Array Tmp} {assign body : Code} {Q : Exit → Act → World → Prop} {a : Act} {w : World}
    {gf : Nat} {lb : Array Value} (hg : a.eval g = .func (.func gf) #[] lb) (eg : ∀ args w, (callFunc gf args).run P w = .ok (.enter gf args) w)
    {Y : α → Array Value → Prop} {Co T : Nat → Prop} {cR : Nat} {χ : Col} {Pw : World → Prop} {Zt : Col → World → Prop} {xs : List α} (hCR : ¬ Co cR) (hTR : ¬ T cR)
    (hit : ∀ W, Below w.heap.size w W → IterP P gf lb Y (fun x => Co x ∨ x = cR) T Pw Zt xs (paint χ w.heap.size cR) W)
    (I : List α → Col → World → Prop) (Ix : Code → List α → Col → World → Prop) (Z : List α → α → Act → Col → World → Prop)
    (hI : ∀ pre χ1 χ2 W W', I pre χ1 W → Same Co χ1 χ2 W W' → I pre χ2 W') (hIx : ∀ c pre χ1 χ2 W W', Ix c pre χ1 W → Same Co χ1 χ2 W W' → Ix c pre χ2 W')
    (hZ : ∀ pre x a₁ χ1 χ2 W W', Z pre x a₁ χ1 W → Same Co χ1 χ2 W W' → Z pre x a₁ χ2 W')
    (hP : ∀ pre χ1 W, I pre χ1 W → Pw W)
    (h0 : I [] χ w)
    (hassign : ∀ (m l : Nat) pre x rest vs χ1 W, xs = pre ++ x :: rest → I pre χ1 W → Y x vs → vs.size = ps.size ∧
      assign.wpIn (Fence.wide.inRound l) m P (Exit.then (fun a₁ W1 => ∃ χ2, (∀ b, b < W.heap.size → χ2 b = χ1 b) ∧ Chg χ1 Co W W1 ∧ Z pre x a₁ χ2 W1) (fun _ _ _ => False))
        { tmps := (ps.zip vs).foldl (fun t (p, v) => t.setIfInBounds p v) a.tmps, defers := [] } W)
    (hbody : ∀ (m l : Nat) pre x rest a₁ χ1 W, xs = pre ++ x :: rest → Z pre x a₁ χ1 W → body.wpIn (Fence.wide.inRound l) m P (roundEndC Co χ1 I Ix (pre ++ [x]) W) a₁ W)
    (hdone : ∀ (D : Nat) (χ2 : Col) (W : World), w.heap.size ≤ D → χ2 D = cR → (∀ b, b < w.heap.size → χ2 b = χ b) → Chg χ (fun x => Co x ∨ T x) w W → Zt χ2 W → I xs χ2 W → W.heap[D]? = some (.deferred (some [])) →
      Q .normal { a with defers := { target := .collected D, args := #[] } :: a.defers } W)
    (hZt : ∀ χ1 χ2 W W', Zt χ1 W → Same T χ1 χ2 W W' → Zt χ2 W')
    (hstop : ∀ (D : Nat) (χ2 : Col) (c : Code) (pre : List α) (W : World), w.heap.size ≤ D → χ2 D = cR → (∀ b, b < w.heap.size → χ2 b = χ b) → Chg χ (fun x => Co x ∨ T x) w W → pre <+: xs → Ix c pre χ2 W → W.heap[D]? = some (.deferred (some [])) →
      c.wpIn Fence.wide n P Q { a with defers := { target := .collected D, args := #[] } :: a.defers } W)
    (hcw : ∀ b, b < w.heap.size → χ b ≠ cR) :
    (Code.rangeFunc g ps assign body).wpIn Fence.wide n P Q a w := by
  refine wpIn_rangeFunc ?_
  intro fn hfn
  obtain ⟨rec, hrec⟩ : ∃ rec : LoopState → Option Code → Loop, rec = fun st pe => { state := st, pending := pe, fn, tmps := a.tmps, params := ps, assign, body, defers := w.heap.size } := ⟨_, rfl⟩
  obtain ⟨W1, hW1⟩ : ∃ W1, (w.alloc (.deferred (some []))).alloc (.loop (rec .ready none)) = W1 := ⟨_, rfl⟩
  have hL1 : W1.heap[w.heap.size + 1]? = some (.loop (rec .ready none)) := by
    rw [← hW1]; have := World.alloc_heap_new (w.alloc (.deferred (some []))) (.loop (rec .ready none)); rwa [World.size_alloc] at this
  have hK1 : W1.heap[w.heap.size]? = some (.deferred (some [])) := by
    rw [← hW1]; exact (Below.heap_alloc _ _ _ (by simp)).trans (World.alloc_heap_new w _)
  have hb1 : Below w.heap.size w W1 := by
    rw [← hW1]; exact ((Below.refl _ w).alloc (Nat.le_refl _) _).alloc (by simp) _
  have hI1 : I [] (paint χ w.heap.size cR) W1 := hI _ _ _ _ _ h0 (.below cR hb1)
  have hp0 : paint χ w.heap.size cR w.heap.size = cR := paint_high (Nat.le_refl _)
  have hp1 : paint χ w.heap.size cR (w.heap.size + 1) = cR := paint_high (by omega)
  have sameCo : ∀ {χ1 χ2 : Col} {U U' : World}, Same (fun x => Co x ∨ x = cR) χ1 χ2 U U' → Same Co χ1 χ2 U U' := fun h => h.mono fun _ => .inl
  have keepR : ∀ {χ1 χ2 : Col} {U U' : World} {k : Nat} {o : Obj}, Same (fun x => Co x ∨ x = cR) χ1 χ2 U U' → χ1 k = cR → U.heap[k]? = some o → χ2 k = cR ∧ U'.heap[k]? = some o := fun hs hc ho => by
    have h := hs _ (Array.getElem?_eq_some_iff.1 ho).1 (.inr hc)
    exact ⟨h.1.trans hc, h.2.trans ho⟩
  have keepC : ∀ {χ1 : Col} {U U' : World} {k : Nat} {o : Obj}, Chg χ1 Co U U' → χ1 k = cR → U.heap[k]? = some o → U'.heap[k]? = some o := fun hs hc ho =>
    (hs.blk _ (Array.getElem?_eq_some_iff.1 ho).1 (by rw [hc]; exact hCR)).trans ho
  refine ⟨w.heap.size + 1, [{ target := .collected w.heap.size, args := #[] }], W1, { target := .fn (.func gf) lb, args := #[.func (.yield (w.heap.size + 1)) #[] #[]] }, W1, gf,
    #[.func (.yield (w.heap.size + 1)) #[] #[]] ++ lb, W1, ?_, ?_, ?_, ?_, fun h => by simp [Fence.wide] at h, ?_⟩
  · rw [← hW1, hrec]; exact run_enterLoop_outer _ _ _ _ _
  · simp only [resolve, hg]
    simp [go_sem]
  · intro f' hf'; trivial
  · simp [invoke, go_sem, eg]
  · have hsz : W1.heap.size = w.heap.size + 2 := by rw [← hW1]; simp
    refine (hit W1 hb1 (n - 1) (w.heap.size + 1)
      (fun pre χ1 W => I pre χ1 W ∧ (χ1 (w.heap.size + 1) = cR ∧ W.heap[w.heap.size + 1]? = some (.loop (rec .ready none))) ∧ (χ1 w.heap.size = cR ∧ W.heap[w.heap.size]? = some (.deferred (some []))))
      (fun pre χ1 W => ∃ c, Ix c pre χ1 W ∧ (χ1 (w.heap.size + 1) = cR ∧ W.heap[w.heap.size + 1]? = some (.loop (rec .done (some c)))) ∧ (χ1 w.heap.size = cR ∧ W.heap[w.heap.size]? = some (.deferred (some []))))
      (fun _ _ _ h => hP _ _ _ h.1) ?_ ?_ ?_ ⟨hI1, ⟨hp1, hL1⟩, hp0, hK1⟩).mono ?_
    · rintro pre χ1 χ2 U U' ⟨h1, h2, h3⟩ hs
      exact ⟨hI _ _ _ _ _ h1 (sameCo hs), keepR hs h2.1 h2.2, keepR hs h3.1 h3.2⟩
    · rintro pre χ1 χ2 U U' ⟨c, h1, h2, h3⟩ hs
      exact ⟨c, hIx _ _ _ _ _ _ h1 (sameCo hs), keepR hs h2.1 h2.2, keepR hs h3.1 h3.2⟩
    · rintro m pre x rest vs χ1 W hx ⟨hi, ⟨cl, hl⟩, ck, hk⟩ hy0
      have hlt : w.heap.size + 1 < W.heap.size := (Array.getElem?_eq_some_iff.1 hl).1
      obtain ⟨hps, ha⟩ := hassign m (w.heap.size + 1) pre x rest vs χ1 W hx hi hy0
      have hy := run_yield (P := P) (args := vs) hl (by rw [hrec]; exact hps)
      rw [hrec] at hy
      refine ⟨fn, _, assign, body, hy, roundIn_of_wpIn hfn (wpIn_mono ha ?_)⟩
      rintro e a₁ Wa hp
      cases e with
      | normal =>
        obtain ⟨χa, aga, hca, hz⟩ := hp
        have hla := keepC hca cl hl
        have hKa := keepC hca ck hk
        have cla : χa (w.heap.size + 1) = cR := (aga _ hlt).trans cl
        have cka : χa w.heap.size = cR := (aga _ (by omega)).trans ck
        refine ⟨_, run_beginRound hla (by rw [hrec]), ?_⟩
        have hl2 : (Wa.putObj (w.heap.size + 1) (.loop { rec .ready none with state := .busy })).heap[w.heap.size + 1]? = some (.loop { rec .ready none with state := .busy }) := World.putObj_heap_same (Array.getElem?_eq_some_iff.1 hla).1
        have hk2 : (Wa.putObj (w.heap.size + 1) (.loop { rec .ready none with state := .busy })).heap[w.heap.size]? = some (.deferred (some [])) := (World.putObj_heap_other (by omega)).trans hKa
        have hc2 : Chg χa (· = cR) Wa (Wa.putObj (w.heap.size + 1) (.loop { rec .ready none with state := .busy })) := .putObj _ _ _ cla
        have hs2 : Same Co χa χa Wa (Wa.putObj (w.heap.size + 1) (.loop { rec .ready none with state := .busy })) := .chg' hc2 (fun _ _ => rfl) (fun x hx e => hCR (e ▸ hx))
        refine wpIn_mono (hbody m (w.heap.size + 1) pre x rest a₁ χa _ hx (hZ _ _ _ _ _ _ _ hz hs2)) ?_
        have fin : ∀ (jump : Option Code) (χ3 : Col) (W3 : World), (∀ b, b < (Wa.putObj (w.heap.size + 1) (.loop { rec .ready none with state := .busy })).heap.size → χ3 b = χa b) →
            Chg χa Co (Wa.putObj (w.heap.size + 1) (.loop { rec .ready none with state := .busy })) W3 →
            (Instr.endRound (w.heap.size + 1) jump).run P W3 = .ok (.bool jump.isNone) (W3.putObj (w.heap.size + 1) (.loop (rec (if jump.isNone then .ready else .done) jump))) ∧
            Same Co χ3 χ3 W3 (W3.putObj (w.heap.size + 1) (.loop (rec (if jump.isNone then .ready else .done) jump))) ∧
            (χ3 (w.heap.size + 1) = cR ∧ (W3.putObj (w.heap.size + 1) (.loop (rec (if jump.isNone then .ready else .done) jump))).heap[w.heap.size + 1]? = some (.loop (rec (if jump.isNone then .ready else .done) jump))) ∧
            (χ3 w.heap.size = cR ∧ (W3.putObj (w.heap.size + 1) (.loop (rec (if jump.isNone then .ready else .done) jump))).heap[w.heap.size]? = some (.deferred (some []))) ∧
            (∀ b, b < W.heap.size → χ3 b = χ1 b) ∧ Chg χ1 (fun x => Co x ∨ x = cR) W (W3.putObj (w.heap.size + 1) (.loop (rec (if jump.isNone then .ready else .done) jump))) := fun jump χ3 W3 ag3 hc3 => by
          have hl3 := keepC hc3 cla hl2
          have := run_endRound (P := P) jump hl3
          rw [hrec] at this ⊢
          have hsa : Wa.heap.size ≤ (Wa.putObj (w.heap.size + 1) (.loop { rec .ready none with state := .busy })).heap.size := by simp
          have cl3 : χ3 (w.heap.size + 1) = cR := (ag3 _ (Array.getElem?_eq_some_iff.1 hl2).1).trans cla
          have ck3 : χ3 w.heap.size = cR := (ag3 _ (Array.getElem?_eq_some_iff.1 hk2).1).trans cka
          have hcE : ∀ o, Chg χ3 (· = cR) W3 (W3.putObj (w.heap.size + 1) o) := fun o => .putObj _ _ _ cl3
          refine ⟨this, .chg' (hcE _) (fun _ _ => rfl) (fun x hx e => hCR (e ▸ hx)), ⟨cl3, World.putObj_heap_same (Array.getElem?_eq_some_iff.1 hl3).1⟩, ⟨ck3, (World.putObj_heap_other (by omega)).trans (keepC hc3 cka hk2)⟩,
            fun b hb => ?_, ?_⟩
          · have hba : b < Wa.heap.size := Nat.lt_of_lt_of_le hb hca.size
            exact (ag3 b (Nat.lt_of_lt_of_le hba hsa)).trans (aga b hb)
          · refine (hca.mono fun x => .inl).trans aga ((hc2.mono fun x => .inr).step ((hc3.mono fun x => .inl).trans (χ' := χ3) ag3 ((hcE _).mono fun x => .inr)))
        rintro e a3 W3 hp
        cases e with
        | normal =>
          obtain ⟨χ3, ag3, hc3, hi3⟩ := hp
          obtain ⟨hr, hs3, hl4, hk4, ag4, hc4⟩ := fin none χ3 W3 ag3 hc3
          exact ⟨_, _, hr, χ3, ag4, hc4, .inl ⟨rfl, hI _ _ _ _ _ hi3 hs3, hl4, hk4⟩⟩
        | ret =>
          obtain ⟨χ3, ag3, hc3, hi3⟩ := hp
          obtain ⟨hr, hs3, hl4, hk4, ag4, hc4⟩ := fin (some .ret) χ3 W3 ag3 hc3
          exact ⟨_, _, hr, χ3, ag4, hc4, .inr ⟨rfl, .ret, hIx _ _ _ _ _ _ hi3 hs3, hl4, hk4⟩⟩
        | exit id =>
          obtain ⟨χ3, ag3, hc3, hi3⟩ := hp
          obtain ⟨hr, hs3, hl4, hk4, ag4, hc4⟩ := fin (some (.exit id)) χ3 W3 ag3 hc3
          exact ⟨_, _, hr, χ3, ag4, hc4, .inr ⟨rfl, .exit id, hIx _ _ _ _ _ _ hi3 hs3, hl4, hk4⟩⟩
        | goto t =>
          obtain ⟨χ3, ag3, hc3, hi3⟩ := hp
          obtain ⟨hr, hs3, hl4, hk4, ag4, hc4⟩ := fin (some (.goto t)) χ3 W3 ag3 hc3
          exact ⟨_, _, hr, χ3, ag4, hc4, .inr ⟨rfl, .goto t, hIx _ _ _ _ _ _ hi3 hs3, hl4, hk4⟩⟩
        | panic ch => exact hp.elim
        | outgrown => exact hp.elim
      | ret => exact hp.elim
      | exit id => exact hp.elim
      | goto t => exact hp.elim
      | panic ch => exact hp.elim
      | outgrown => exact hp.elim
    · have back : ∀ {χ2 : Col} {W2 : World} (o : Obj), (∀ b, b < W1.heap.size → χ2 b = paint χ w.heap.size cR b) → Chg (paint χ w.heap.size cR) (fun x => (Co x ∨ x = cR) ∨ T x) W1 W2 → χ2 (w.heap.size + 1) = cR →
          (∀ b, b < w.heap.size → χ2 b = χ b) ∧ Chg χ (fun x => Co x ∨ T x) w (W2.putObj (w.heap.size + 1) o) := fun o ag hc cl => by
        refine ⟨fun b hb => (ag b (by omega)).trans (paint_low hb), ⟨(hc.os.trans hb1.os), hc.tape.trans hb1.tape, hc.output.trans hb1.output, by have := hc.size; simp; omega, fun b hb hn => ?_⟩⟩
        refine (World.putObj_heap_other (by omega)).trans ((hc.blk b (by omega) ?_).trans (hb1.block b hb))
        rw [paint_low hb]
        rintro ((h | h) | h)
        · exact hn (.inl h)
        · exact hcw b hb h
        · exact hn (.inr h)
      rintro e W2 ⟨⟨v, rfl⟩, χ2, ag, hc, (⟨hzt, hi, ⟨cl, hl⟩, ck, hk⟩ | ⟨pre, hSp, c, hi, ⟨cl, hl⟩, ck, hk⟩)⟩
      · exact ⟨none, _, by have := run_endLoop (P := P) hl (by rw [hrec]; simp); rw [hrec] at this; exact this,
          hdone w.heap.size χ2 _ (Nat.le_refl _) ck (back (.deferred none) ag hc cl).1 (back _ ag hc cl).2 (hZt _ _ _ _ hzt (.chg' (C := (· = cR)) (.putObj _ _ _ cl) (fun _ _ => rfl) (fun x hx e => hTR (e ▸ hx))))
            (hI _ _ _ _ _ hi (.chg' (C := (· = cR)) (.putObj _ _ _ cl) (fun _ _ => rfl) (fun x hx e => hCR (e ▸ hx)))) ((World.putObj_heap_other (by omega)).trans hk)⟩
      · exact ⟨some c, _, by have := run_endLoop (P := P) hl (by rw [hrec]; simp); rw [hrec] at this; exact this,
          hstop w.heap.size χ2 c pre _ (Nat.le_refl _) ck (back (.deferred none) ag hc cl).1 (back _ ag hc cl).2 hSp
            (hIx _ _ _ _ _ _ hi (.chg' (C := (· = cR)) (.putObj _ _ _ cl) (fun _ _ => rfl) (fun x hx e => hCR (e ▸ hx)))) ((World.putObj_heap_other (by omega)).trans hk)⟩
end Go.Proofs.Ytipdmnfkigoanaa

namespace Go.Proofs.Ytipdmnfkigoanaa
open Go.RowKit
attribute [local go_sem] World.cell?_alloc_some frozen_alloc_some

/-- the places of the bits that are 1. -/
def bitsN (n : Nat) : List Nat := (List.range 64).filter fun i => n.testBit i
theorem bitsN_mem {n i : Nat} : i ∈ bitsN n ↔ i < 64 ∧ n.testBit i = true := by unfold bitsN; simp
theorem bitsN_zero : bitsN 0 = [] := by unfold bitsN; simp
theorem filt_first (p : Nat → Bool) (k : Nat) (hlo : ∀ i, i < k → p i = false) (hk : p k = true) : ∀ N, k < N → (List.range N).filter p = k :: (List.range N).filter fun i => p i && !(i == k) := by
  intro N hN
  induction N with
  | zero => omega
  | succ N ih =>
    rw [List.range_succ, List.filter_append, List.filter_append]
    by_cases e : k = N
    · subst e
      have h1 : (List.range k).filter p = [] := List.filter_eq_nil_iff.2 fun i hi => by simp at hi; simp [hlo i hi]
      have h2 : (List.range k).filter (fun i => p i && !(i == k)) = [] := List.filter_eq_nil_iff.2 fun i hi => by simp at hi; simp [hlo i hi]
      rw [h1, h2]; simp [hk]
    · rw [ih (by omega)]
      have : (N == k) = false := by simp; omega
      simp [List.filter_cons, this]
theorem bitsN_step {n : Nat} (h0 : n ≠ 0) (h : n < 18446744073709551616) : bitsN n = Lib.ctz 64 n :: bitsN (n &&& (n - 1)) ∧ Lib.ctz 64 n < 64 ∧ n &&& (n - 1) < n := by
  obtain ⟨m, hm, hk⟩ := Lib.ctzFrom_spec 64 n (by omega) h
  have e : Lib.ctz 64 n = Lib.ctzFrom 64 n := by unfold Lib.ctz; rw [if_neg h0]
  rw [← e] at hm hk
  generalize Lib.ctz 64 n = k at hm hk ⊢
  have hp : 0 < 2 ^ k := Nat.two_pow_pos k
  have e1 : n = 2 ^ (k + 1) * m + 2 ^ k := by rw [hm, Nat.pow_succ, Nat.mul_add, Nat.mul_assoc, Nat.mul_one]
  have e2 : n - 1 = 2 ^ (k + 1) * m + (2 ^ k - 1) := by omega
  have hlt : 2 ^ k < 2 ^ (k + 1) := by rw [Nat.pow_succ]; omega
  have t1 : ∀ i, n.testBit i = if i < k + 1 then decide (i = k) else m.testBit (i - (k + 1)) := fun i => by
    rw [e1, Nat.testBit_two_pow_mul_add _ hlt, Nat.testBit_two_pow]
    by_cases c : i = k
    · subst c; simp
    · have : ¬ k = i := fun h => c h.symm
      simp [c, this]
  have t2 : ∀ i, (n - 1).testBit i = if i < k + 1 then decide (i < k) else m.testBit (i - (k + 1)) := fun i => by
    rw [e2, Nat.testBit_two_pow_mul_add _ (by omega), Nat.testBit_two_pow_sub_one]
  have t3 : ∀ i, (n &&& (n - 1)).testBit i = (n.testBit i && !(i == k)) := fun i => by
    rw [Nat.testBit_and, t1, t2]
    by_cases c : i < k + 1
    · by_cases d : i = k
      · subst d; simp
      · simp [c, d]
    · have d : ¬ i = k := by omega
      simp [c, d]
  refine ⟨?_, hk, ?_⟩
  · unfold bitsN
    rw [filt_first (fun i => n.testBit i) k (fun i hi => by rw [t1, if_pos (by omega)]; simp; omega) (by rw [t1, if_pos (by omega)]; simp) 64 hk]
    congr 1
    exact List.filter_congr fun i _ => (t3 i).symm
  · have := Nat.and_le_right (n := n) (m := n - 1); omega

/-- What comes with a bit. -/
def YBit (x : Nat) (vs : Array Value) : Prop := vs = #[.int .i64 x]
end Go.Proofs.Ytipdmnfkigoanaa

namespace Go.Proofs.Ytipdmnfkigoanaa
open Go.RowKit
attribute [local go_sem] World.cell?_alloc_some frozen_alloc_some Oper.semAt_some

theorem ownsRow_set1 {w : World} {base e g N cap n : Nat} {vs : List Value} (h : w.ownsRow base e 1 (.slice (some ⟨g, 0, none⟩) N cap) n vs) (i : Nat) (u : Value) :
    (w.setCell ⟨g, i, none⟩ u).ownsRow base e 1 (.slice (some ⟨g, 0, none⟩) N cap) n (vs.set i u) := by
  have hf := owns_form h
  obtain ⟨A, c, hAc⟩ := hf
  cases hAc
  exact owns_setCell (o := i) (v := u) h
theorem own_cell1 {w : World} {base e g N cap n : Nat} {vs : List Value} (h : w.ownsRow base e 1 (.slice (some ⟨g, 0, none⟩) N cap) n vs) (i : Nat) (hi : i < vs.length) :
    w.cell? ⟨g, i, none⟩ = some vs[i] ∧ w.frozen? ⟨g, i, none⟩ = false := by
  have e1 : ∀ j, (⟨g, 0, none⟩ : Addr).add j = ⟨g, j, none⟩ := fun j => by simp only [Addr.add]; split <;> simp_all
  have c0 := h.cells (g := g) rfl i vs[i] (List.getElem?_eq_getElem hi)
  rw [e1] at c0
  refine ⟨c0, ?_⟩
  obtain ⟨h1, (⟨e, -⟩ | ⟨g', cap', cur, e, hg, hh, -⟩)⟩ := h
  · cases e
  · cases e
    simp [World.frozen?, hh]
theorem OwnA.set {base g N cap i : Nat} {χ : Col} {w : World} {a : Ar} {l : List Sp} {u : Value} (h : OwnA base χ w (.slice (some ⟨g, 0, none⟩) N cap) a) (hu : IsL 2 rSpan 2 χ w u l) :
    OwnA base χ (w.setCell ⟨g, i, none⟩ u) (.slice (some ⟨g, 0, none⟩) N cap) (a.set i l) := by
  obtain ⟨vs, h1, h2, h3⟩ := h
  have hvs : vs.length = a.length := by have := h1.1; simpa using this
  have hs : Same (fun x => x = 2) χ χ w (w.setCell ⟨g, i, none⟩ u) := Same.chg' (C := (· = 1)) (Chg.setCell _ _ _ (h2 g rfl)) (fun _ _ => rfl) fun x e => by omega
  refine ⟨vs.set i u, by rw [List.length_set]; exact ownsRow_set1 h1 i u, h2, fun j hj => ?_⟩
  have hj' : j < a.length := by simpa using hj
  have hc : List.take 1 (List.drop j (vs.set i u)) = [(vs.set i u)[j]'(by simp; omega)] := by
    rw [List.drop_eq_getElem_cons (by simp; omega)]; rfl
  rw [hc]
  by_cases e : i = j
  · subst e
    simp only [List.getElem_set_self]
    exact ⟨u, rfl, IsL.keep (D := fun x => x = 2) (by omega) (rSpan_on _) rfl hu hs⟩
  · rw [List.getElem_set_ne e, List.getElem_set_ne e]
    have h4 := h3 j hj'
    rw [show List.take 1 (List.drop j vs) = [vs[j]'(by omega)] by rw [List.drop_eq_getElem_cons (by omega)]; rfl] at h4
    exact rSl_on (D := fun x => x = 2) (by omega) (rSpan_on _) rfl _ _ _ _ _ _ h4 hs

/-- the labels of a row of places hold m, the others nothing. -/
def ofL (N : Nat) (pre : List Nat) (m : List Sp) : Ar := (List.range N).map fun i => if i ∈ pre then m else []
theorem ofL_len (N : Nat) (pre : List Nat) (m : List Sp) : (ofL N pre m).length = N := by simp [ofL]
theorem ofL_snoc (N : Nat) (pre : List Nat) (m : List Sp) (x : Nat) : ofL N (pre ++ [x]) m = (ofL N pre m).set x m := by
  refine List.ext_getElem (by simp [ofL]) fun j h1 h2 => ?_
  simp only [ofL, List.getElem_map, List.getElem_range, List.mem_append, List.mem_singleton, List.getElem_set]
  by_cases e : x = j
  · subst e; simp
  · have : ¬ j = x := fun h => e h.symm
    simp [e, this]
theorem ofL_skip (N : Nat) (pre : List Nat) (m : List Sp) (x : Nat) (hx : N ≤ x) : ofL N (pre ++ [x]) m = ofL N pre m := by
  unfold ofL
  refine List.map_congr_left fun i hi => ?_
  have hi := List.mem_range.1 hi
  have : ¬ i = x := by omega
  simp [this]

/-- what lay before is as it was. -/
def BaseC (w : World) (χ : Col) (W : World) : Prop := ∀ b, b < w.heap.size → χ b = 4 ∧ b < W.heap.size ∧ W.heap[b]? = w.heap[b]?
theorem BaseC.keep {w W W' : World} {χ χ' : Col} (h : BaseC w χ W) (hs : Same (· = 4) χ χ' W W') : BaseC w χ' W' := fun b hb => by
  obtain ⟨h1, h2, h3⟩ := h b hb
  obtain ⟨k1, k2⟩ := hs b h2 h1
  have e := k2.trans h3
  have hb' : b < W'.heap.size := by
    rw [Array.getElem?_eq_getElem hb] at e
    exact (Array.getElem?_eq_some_iff.1 e).1
  exact ⟨k1.trans h1, hb', e⟩
theorem BaseC.rd {w W : World} {χ : Col} {v : Value} {l : List Sp} (h : BaseC w χ W) (hr : RdS w v l) : RdS W v l :=
  IsL.keep (D := fun x => x = 0) (by omega) (rSpan_on _) rfl hr fun b hb _ => ⟨rfl, (h b hb).2.2⟩
theorem BaseC.tab {w W : World} {χ : Col} (h : BaseC w χ W) (hT : Tab w) : Tab W := fun j hj => by
  have h1 := hT j hj
  exact (World.cell?_of_block (h _ (World.block_lt_of_cell? _ _ h1)).2.2).trans h1
theorem BaseC.below {w W W0 : World} {χ χ0 : Col} {C : Nat → Prop} (h : BaseC w χ W) (hb : Below w.heap.size w W0) (hc : Chg χ0 C W0 W) : Below w.heap.size w W :=
  ⟨hc.os.trans hb.os, hc.tape.trans hb.tape, hc.output.trans hb.output, Nat.le_trans hb.size hc.size, fun b hb => (h b hb).2.2⟩

/-- what holds between two rounds. -/
def OI (w : World) (A : Option Addr) (k cap N : Nat) (m : List Sp) (pre : List Nat) (χ : Col) (W : World) : Prop :=
  VarC 1 w.heap.size (.slice A k cap) χ W ∧ VarC 1 (w.heap.size + 1 + 1) (.slice (some ⟨w.heap.size + 1, 0, none⟩) N N) χ W ∧ OwnA w.heap.size χ W (.slice (some ⟨w.heap.size + 1, 0, none⟩) N N) (ofL N pre m) ∧ BaseC w χ W
theorem OI.keep {w W W' : World} {A : Option Addr} {k cap N : Nat} {m : List Sp} {pre : List Nat} {χ χ' : Col} (h : OI w A k cap N m pre χ W) (hs : Same (fun x => x = 1 ∨ x = 2 ∨ x = 4) χ χ' W W') : OI w A k cap N m pre χ' W' :=
  ⟨h.1.keep (hs.mono fun _ e => .inl e), h.2.1.keep (hs.mono fun _ e => .inl e), h.2.2.1.keep (hs.mono fun _ e => e.elim .inl fun e => .inr (.inl e)), h.2.2.2.keep (hs.mono fun _ e => .inr (.inr e))⟩

end Go.Proofs.Ytipdmnfkigoanaa

namespace Go.Proofs.Ytipdmnfkigoanaa
open Go.RowKit
attribute [local go_sem] World.cell?_alloc_some frozen_alloc_some Oper.semAt_some

def ccells (x : Nat × Sp) : List Value := [.int .i64 x.1, .int .u32 x.2.1, .int .u32 x.2.2]
theorem Chg.hiSet {χ : Col} {C : Nat → Prop} {w W : World} (h : Chg χ C w W) (a : Addr) (v : Value) (ha : w.heap.size ≤ a.block) : Chg χ C w (W.setCell a v) :=
  ⟨h.os, h.tape, h.output, by simp [World.setCell]; exact h.size, fun b hb hn => (Below.heap_setCell _ _ _ _ (by omega)).trans (h.blk b hb hn)⟩
theorem Chg.hiPut {χ : Col} {C : Nat → Prop} {w W : World} (h : Chg χ C w W) (l : Nat) (o : Obj) (ha : w.heap.size ≤ l) : Chg χ C w (W.putObj l o) :=
  ⟨h.os, h.tape, h.output, by simp; exact h.size, fun b hb hn => (World.putObj_heap_other (by omega)).trans (h.blk b hb hn)⟩
end Go.Proofs.Ytipdmnfkigoanaa

namespace Go.Proofs.Ytipdmnfkigoanaa
open Go.RowKit
attribute [local go_sem] World.cell?_alloc_some frozen_alloc_some Oper.semAt_some
end Go.Proofs.Ytipdmnfkigoanaa

namespace Go.Proofs.Ytipdmnfkigoanaa
open Go.RowKit
attribute [local go_sem] World.cell?_alloc_some frozen_alloc_some

/-- rows of areas that can be read. -/
def RdAA (w : World) (L : List (Value × Ar)) : Prop := ∀ p ∈ L, RdA w p.1 p.2
theorem RdAA.keep {w w' : World} {L : List (Value × Ar)} (h : RdAA w L) (hb : Below w.heap.size w w') : RdAA w' L := fun p hp => (h p hp).keep hb
theorem RdAA.cons {w : World} {L : List (Value × Ar)} {v : Value} {l : Ar} (h : RdAA w L) (hv : RdA w v l) : RdAA w ((v, l) :: L) := fun p hp => by
  rcases List.mem_cons.1 hp with rfl | hp
  · exact hv
  · exact h p hp
theorem RdAA.nil {w : World} : RdAA w [] := fun p hp => by simp at hp
theorem RdAA.at_ {w : World} {L : List (Value × Ar)} (h : RdAA w L) (i : Nat) {v : Value} {l : Ar} (hp : L[i]? = some (v, l)) : RdA w v l := h (v, l) (List.mem_of_getElem? hp)
theorem ar_ext {r m : Ar} (hl : r.length = m.length) (h : ∀ i, i < m.length → atA r i = atA m i) : r = m := by
  refine List.ext_getElem hl fun i h1 h2 => ?_
  have := h i h2
  rwa [atA_lt h1, atA_lt h2] at this
/-- an area whose labels are sets is known by its keys. -/
theorem ar_eq {r m : Ar} {P : Nat → Nat → Prop} (hl : r.length = m.length) (hs : ∀ i, IsSet (P i) (atA r i)) (hm : ∀ l ∈ m, NF l) (h : ∀ i, i < m.length → ∀ k, P i k ↔ Mem k (atA m i)) : r = m :=
  ar_ext hl fun i hi => (hs i).eq (q := fun k => Mem k (atA m i)) ⟨by rw [atA_lt hi]; exact hm _ (List.getElem_mem hi), fun _ => Iff.rfl⟩ (h i hi)

theorem pre3 (a b c : Value) (Z : Array Value) : (#[a, b, c] ++ Z)[0]? = some a ∧ (#[a, b, c] ++ Z)[1]? = some b ∧ (#[a, b, c] ++ Z)[2]? = some c := by
  refine ⟨?_, ?_, ?_⟩ <;> (rw [Array.getElem?_append_left (by simp)]; rfl)
theorem grown_none {w w' : World} {o : Obj} (h : (w.alloc o).grownBy w' none) : Below w.heap.size w w' :=
  ⟨h.os, h.tape, h.output, by have := h.size; simp at this; omega, fun b hb => (h.block b (by simp; omega) (by simp)).trans (Below.heap_alloc _ _ _ hb)⟩
theorem of1 : ofL 2 (bitsN 2) (nf [(1, 3)]) = [[], [(1, 3)]] := by decide
theorem of2 : ofL 3 (bitsN 6) (nf [(3, 4)]) = [[], [(3, 4)], [(3, 4)]] := by decide
theorem sub_by {a b : Ar} (h : ∀ i, i < a.length → ∀ k, Mem k (atA a i) → Mem k (atA b i)) : SubA a b := fun i k hk => by
  by_cases c : i < a.length
  · exact h i c k hk
  · rw [atA_ge (by omega)] at hk; exact (mem_nil hk).elim
theorem uEq {r : Ar} (hl : r.length = max [[], [((1 : Nat), (3 : Nat))]].length [[], [((3 : Nat), (4 : Nat))], [(3, 4)]].length) (hs : ∀ i, IsSet (fun k => Mem k (atA [[], [(1, 3)]] i) ∨ Mem k (atA [[], [(3, 4)], [(3, 4)]] i)) (atA r i)) : r = [[], [(1, 4)], [(3, 4)]] :=
  ar_eq (P := fun i k => Mem k (atA [[], [(1, 3)]] i) ∨ Mem k (atA [[], [(3, 4)], [(3, 4)]] i)) hl hs (by intro l hl; simp at hl; rcases hl with rfl | rfl | rfl <;> exact ⟨by decide, by decide⟩) fun i hi k => by
    match i, hi with
    | 0, _ => simp [atA, Mem]
    | 1, _ => simp [atA, Mem]; omega
    | 2, _ => simp [atA, Mem]
theorem mEq {r : Ar} (hl : r.length = max [[], [((1 : Nat), (3 : Nat))]].length [[], [((3 : Nat), (4 : Nat))], [(3, 4)]].length) (hs : ∀ i, IsSet (fun k => Mem k (atA [[], [(1, 3)]] i) ∧ Mem k (atA [[], [(3, 4)], [(3, 4)]] i)) (atA r i)) : r = [[], [(3, 3)], []] :=
  ar_eq (P := fun i k => Mem k (atA [[], [(1, 3)]] i) ∧ Mem k (atA [[], [(3, 4)], [(3, 4)]] i)) hl hs (by intro l hl; simp at hl; rcases hl with rfl | rfl | rfl <;> exact ⟨by decide, by decide⟩) fun i hi k => by
    match i, hi with
    | 0, _ => simp [atA, Mem]
    | 1, _ => simp [atA, Mem]; omega
    | 2, _ => simp [atA, Mem]
theorem dEq {r : Ar} (hl : r.length = max [[], [((1 : Nat), (3 : Nat))]].length [[], [((3 : Nat), (4 : Nat))], [(3, 4)]].length) (hs : ∀ i, IsSet (fun k => Mem k (atA [[], [(1, 3)]] i) ∧ ¬ Mem k (atA [[], [(3, 4)], [(3, 4)]] i)) (atA r i)) : r = [[], [(1, 2)], []] :=
  ar_eq (P := fun i k => Mem k (atA [[], [(1, 3)]] i) ∧ ¬ Mem k (atA [[], [(3, 4)], [(3, 4)]] i)) hl hs (by intro l hl; simp at hl; rcases hl with rfl | rfl | rfl <;> exact ⟨by decide, by decide⟩) fun i hi k => by
    match i, hi with
    | 0, _ => simp [atA, Mem]
    | 1, _ => simp [atA, Mem]; omega
    | 2, _ => simp [atA, Mem]
theorem subDA : SubA [[], [(1, 2)], []] [[], [(1, 3)]] := sub_by fun i hi k => by
  match i, hi with
  | 0, _ => simp [atA, Mem]
  | 1, _ => simp [atA, Mem]; omega
  | 2, _ => simp [atA, Mem]
theorem subAB : ¬ SubA [[], [(1, 3)]] [[], [(3, 4)], [(3, 4)]] := fun h => by
  have := h 1 1 (by simp [atA, Mem])
  simp [atA, Mem] at this
theorem subAM : SubA [[], [(1, 3)]] [[], [(1, 3)], []] ∧ SubA [[], [(1, 3)], []] [[], [(1, 3)]] := ⟨sub_by fun i hi k => by
  match i, hi with
  | 0, _ => simp [atA, Mem]
  | 1, _ => simp [atA, Mem], sub_by fun i hi k => by
  match i, hi with
  | 0, _ => simp [atA, Mem]
  | 1, _ => simp [atA, Mem]
  | 2, _ => simp [atA, Mem]⟩
theorem maskU : maskN ((cellsL [[], [(1, 4)], [(3, 4)]]).map (·.1)) = 6 := by decide
theorem cellM : (cellsL [[], [(3, 3)], []]).take (9 : Int).toNat = [(1, (3, 3))] := by decide
theorem emA : emptyB [[], [(1, 3)]] = false := by decide
theorem emN : emptyB [] = true := by decide

end Go.Proofs.Ytipdmnfkigoanaa

namespace Go.Proofs.Ytipdmnfkigoanaa
open Go.RowKit
attribute [local go_sem] World.cell?_alloc_some frozen_alloc_some

/-- is each cell in another area? -/
noncomputable def subB (a b : Ar) : Bool := @decide (SubA a b) (Classical.propDecidable _)
theorem subB_iff {a b : Ar} : subB a b = true ↔ SubA a b := @decide_eq_true_iff _ (Classical.propDecidable _)
theorem eq_of_iff {p q : Bool} (h : p = true ↔ q = true) : p = q := Bool.eq_iff_iff.2 h
theorem Sm.mono {n m : Nat} {a : Ar} (h : Sm n a) (hm : n ≤ m) : Sm m a := fun l hl => Nat.le_trans (h l hl) hm

abbrev IsU (a b r : Ar) : Prop := ∀ i, IsSet (fun k => Mem k (atA a i) ∨ Mem k (atA b i)) (atA r i)
abbrev IsM (a b r : Ar) : Prop := ∀ i, IsSet (fun k => Mem k (atA a i) ∧ Mem k (atA b i)) (atA r i)
abbrev IsD (a b r : Ar) : Prop := ∀ i, IsSet (fun k => Mem k (atA a i) ∧ ¬ Mem k (atA b i)) (atA r i)
theorem sub_meet {a b c m : Ar} (h : IsM b c m) : subB a m = (subB a b && subB a c) := eq_of_iff (by
  rw [Bool.and_eq_true, subB_iff, subB_iff, subB_iff]
  exact ⟨fun g => ⟨fun i k hk => (((h i).iff k).1 (g i k hk)).1, fun i k hk => (((h i).iff k).1 (g i k hk)).2⟩, fun g i k hk => ((h i).iff k).2 ⟨g.1 i k hk, g.2 i k hk⟩⟩)
theorem sub_union {a b c u : Ar} (h : IsU a b u) : subB u c = (subB a c && subB b c) := eq_of_iff (by
  rw [Bool.and_eq_true, subB_iff, subB_iff, subB_iff]
  exact ⟨fun g => ⟨fun i k hk => g i k (((h i).iff k).2 (.inl hk)), fun i k hk => g i k (((h i).iff k).2 (.inr hk))⟩, fun g i k hk => (((h i).iff k).1 hk).elim (g.1 i k) (g.2 i k)⟩)
theorem sub_mu {a b c m u : Ar} (h : IsM a b m) (g : IsU b c u) : subB m u = true := subB_iff.2 fun i k hk => ((g i).iff k).2 (.inl (((h i).iff k).1 hk).2)
theorem sub_uu {a b u v : Ar} (h : IsU a b u) (g : IsU b a v) : subB u v = true := subB_iff.2 fun i k hk => ((g i).iff k).2 ((((h i).iff k).1 hk).symm)
theorem sub_mm {a b u v : Ar} (h : IsM a b u) (g : IsM b a v) : subB u v = true := subB_iff.2 fun i k hk => ((g i).iff k).2 ((((h i).iff k).1 hk).symm)
theorem sub_trans {a b c : Ar} (h : subB a b = true) (g : subB b c = true) : subB a c = true := subB_iff.2 fun i k hk => subB_iff.1 g i k (subB_iff.1 h i k hk)
end Go.Proofs.Ytipdmnfkigoanaa

namespace Go.Proofs.Ytipdmnfkigoanaa
open Go.RowKit

theorem maskN_bit (l : List Nat) (i : Nat) : (maskN l).testBit i = (decide (i < 32) && decide (i ∈ l)) := by
  rw [← List.reverse_reverse l]
  induction l.reverse with
  | nil => simp [maskN]
  | cons x r ih =>
    rw [List.reverse_cons, maskN_snoc, Nat.testBit_or, ih, show (4294967296 : Nat) = 2 ^ 32 by rfl, Nat.testBit_mod_two_pow, Nat.one_shiftLeft, Nat.testBit_two_pow]
    by_cases h : i < 32
    · by_cases e : x = i
      · subst e; simp [h]
      · have e' : ¬ i = x := fun h => e h.symm
        simp [h, e, e']
    · simp [h]
theorem nf_nil {l : List Sp} (h : WfS l) : nf l = [] ↔ ∀ k, ¬ Mem k l := (nf_spec h).nil_iff
/-- a label has keys. -/
def HasL (a : Ar) (i : Nat) : Prop := ∃ k, Mem k (atA a i)
theorem lab_iff {a : Ar} (hw : ∀ l ∈ a, WfS l) (i : Nat) : i ∈ (cellsL a).map (·.1) ↔ HasL a i := by
  unfold cellsL cellsTo HasL
  simp only [List.mem_map, List.mem_flatMap, List.mem_range]
  constructor
  · rintro ⟨x, ⟨j, hj, s, hs, rfl⟩, rfl⟩
    have h := nf_spec (hw _ (List.getElem_mem hj))
    rw [atA_lt hj] at hs
    refine ⟨s.1, (by rw [atA_lt hj]; exact (h.iff s.1).1 ⟨s, hs, Nat.le_refl _, (h.nf.ok s hs).1⟩)⟩
  · rintro ⟨k, hk⟩
    by_cases hj : i < a.length
    · have h := nf_spec (hw _ (List.getElem_mem hj))
      rw [atA_lt hj] at hk
      obtain ⟨s, hs, -⟩ := (h.iff k).2 hk
      exact ⟨(i, s), ⟨i, hj, s, by rw [atA_lt hj]; exact hs, rfl⟩, rfl⟩
    · rw [atA_ge (by omega)] at hk; exact (mem_nil hk).elim
def maskA (a : Ar) : Nat := maskN ((cellsL a).map (·.1))
theorem maskA_bit {a : Ar} (hw : ∀ l ∈ a, WfS l) (i : Nat) : (maskA a).testBit i = true ↔ i < 32 ∧ HasL a i := by
  unfold maskA; rw [maskN_bit, Bool.and_eq_true, decide_eq_true_iff, decide_eq_true_iff, lab_iff hw]
theorem maskA_lt (a : Ar) : maskA a < 4294967296 := maskN_lt _
theorem mask_union {a b u : Ar} (ha : ∀ l ∈ a, WfS l) (hb : ∀ l ∈ b, WfS l) (hu : ∀ l ∈ u, WfS l) (h : IsU a b u) : maskA u = maskA a ||| maskA b := by
  refine Nat.eq_of_testBit_eq fun i => eq_of_iff ?_
  rw [maskA_bit hu, Nat.testBit_or, Bool.or_eq_true, maskA_bit ha, maskA_bit hb]
  unfold HasL
  constructor
  · rintro ⟨h1, k, hk⟩
    exact (((h i).iff k).1 hk).elim (fun g => .inl ⟨h1, k, g⟩) (fun g => .inr ⟨h1, k, g⟩)
  · rintro (⟨h1, k, hk⟩ | ⟨h1, k, hk⟩)
    · exact ⟨h1, k, ((h i).iff k).2 (.inl hk)⟩
    · exact ⟨h1, k, ((h i).iff k).2 (.inr hk)⟩
theorem mask_meet {a b m : Ar} (ha : ∀ l ∈ a, WfS l) (hm : ∀ l ∈ m, WfS l) (h : IsM a b m) (i : Nat) (hi : (maskA m).testBit i = true) : (maskA a).testBit i = true := by
  rw [maskA_bit hm] at hi
  rw [maskA_bit ha]
  obtain ⟨h1, k, hk⟩ := hi
  exact ⟨h1, k, (((h i).iff k).1 hk).1⟩
theorem in_of {a : Ar} {lab : Int} {key : Nat} : inA a lab key = true ↔ 0 ≤ lab ∧ Mem key (atA a lab.toNat) := by
  unfold inA; rw [Bool.and_eq_true, decide_eq_true_iff, memB_iff]
theorem in_union {a b u : Ar} (h : IsU a b u) (lab : Int) (key : Nat) : inA u lab key = (inA a lab key || inA b lab key) := eq_of_iff (by
  rw [Bool.or_eq_true, in_of, in_of, in_of, (h _).iff]
  exact ⟨fun g => g.2.elim (fun q => .inl ⟨g.1, q⟩) (fun q => .inr ⟨g.1, q⟩), fun g => g.elim (fun q => ⟨q.1, .inl q.2⟩) (fun q => ⟨q.1, .inr q.2⟩)⟩)
theorem in_meet {a b m : Ar} (h : IsM a b m) (lab : Int) (key : Nat) : inA m lab key = (inA a lab key && inA b lab key) := eq_of_iff (by
  rw [Bool.and_eq_true, in_of, in_of, in_of, (h _).iff]
  exact ⟨fun g => ⟨⟨g.1, g.2.1⟩, g.1, g.2.2⟩, fun g => ⟨g.1.1, g.1.2, g.2.2⟩⟩)
theorem in_minus {a b d : Ar} (h : IsD a b d) (lab : Int) (key : Nat) : inA d lab key = (inA a lab key && !inA b lab key) := eq_of_iff (by
  rw [Bool.and_eq_true, Bool.not_eq_true', ← Bool.not_eq_true, in_of, in_of, in_of, (h _).iff]
  exact ⟨fun g => ⟨⟨g.1, g.2.1⟩, fun q => g.2.2 q.2⟩, fun g => ⟨g.1.1, g.1.2, fun q => g.2 ⟨g.1.1, q⟩⟩⟩)
theorem andnot_zero (x y : Nat) (h : ∀ i, x.testBit i = true → y.testBit i = true) : bits .andNot .u32 (x : Int) (y : Int) = 0 := by
  have h1 : BitVec.ofInt 32 (x : Int) = BitVec.ofNat 32 x := by rw [BitVec.ofInt_natCast]
  have h2 : BitVec.ofInt 32 (y : Int) = BitVec.ofNat 32 y := by rw [BitVec.ofInt_natCast]
  have h3 : BitVec.ofNat 32 x &&& ~~~BitVec.ofNat 32 y = 0#32 := by
    apply BitVec.eq_of_getLsbD_eq
    intro i hi
    have := h i
    simp only [BitVec.getLsbD_and, BitVec.getLsbD_not, BitVec.getLsbD_ofNat, hi, decide_true, Bool.true_and]
    cases q : x.testBit i with
    | false => simp
    | true => simp [this q]
  show IntKind.u32.wrap ((BitVec.ofInt 32 (x : Int) &&& ~~~BitVec.ofInt 32 (y : Int)).toNat : Int) = 0
  rw [h1, h2, h3]; rfl
/-- empty labels at the end make no difference. -/
theorem same_more (a : Ar) : subB (a ++ [[], [(2, 1)]]) a = true ∧ subB a (a ++ [[], [(2, 1)]]) = true := by
  have e : ∀ i k, Mem k (atA (a ++ [[], [(2, 1)]]) i) ↔ Mem k (atA a i) := fun i k => by
    by_cases h : i < a.length
    · have : atA (a ++ [[], [(2, 1)]]) i = atA a i := by unfold atA; simp [List.getD, List.getElem?_append_left h]
      rw [this]
    · rw [atA_ge (a := a) (by omega)]
      refine ⟨fun g => ?_, fun g => (mem_nil g).elim⟩
      exfalso
      unfold atA at g
      rw [List.getD, List.getElem?_append_right (by omega)] at g
      match hq : i - a.length with
      | 0 => rw [hq] at g; exact mem_nil (by simpa using g)
      | 1 => rw [hq] at g; simp [Mem] at g; omega
      | n + 2 => rw [hq] at g; exact mem_nil (by simpa using g)
  exact ⟨subB_iff.2 fun i k h => (e i k).1 h, subB_iff.2 fun i k h => (e i k).2 h⟩
theorem same_dm {a b d m r : Ar} (hd : IsD a b d) (hm : IsM a b m) (hr : IsU d m r) : subB r a = true ∧ subB a r = true := by
  refine ⟨subB_iff.2 fun i k h => ?_, subB_iff.2 fun i k h => ?_⟩
  · rcases ((hr i).iff k).1 h with g | g
    · exact (((hd i).iff k).1 g).1
    · exact (((hm i).iff k).1 g).1
  · refine ((hr i).iff k).2 ?_
    by_cases g : Mem k (atA b i)
    · exact .inr (((hm i).iff k).2 ⟨h, g⟩)
    · exact .inl (((hd i).iff k).2 ⟨h, g⟩)
theorem empty_db {a b d m : Ar} (hd : IsD a b d) (hm : IsM d b m) : emptyB m = true := emptyB_iff.2 fun i k h => by
  have h1 := ((hm i).iff k).1 h
  exact (((hd i).iff k).1 h1.1).2 h1.2
theorem within_same {a b u : Ar} (h : IsU a b u) : subB a b = (subB u b && subB b u) := eq_of_iff (by
  rw [Bool.and_eq_true, sub_union h, Bool.and_eq_true, subB_iff, subB_iff, subB_iff]
  exact ⟨fun g => ⟨⟨g, fun i k q => q⟩, fun i k q => ((h i).iff k).2 (.inr q)⟩, fun g => g.1.1⟩)
end Go.Proofs.Ytipdmnfkigoanaa

namespace Go.Proofs.Ytipdmnfkigoanaa
open Go.RowKit
attribute [local go_sem] World.cell?_alloc_some frozen_alloc_some
/-- a cell lies in its block. -/
def CellC (g : Nat) (lab : Int) (key : Nat) (W : World) : Prop := W.cell? ⟨g, 0, none⟩ = some (.int .i64 lab) ∧ W.cell? ⟨g, 1, none⟩ = some (.int .u32 key)
theorem CellC.keep {g : Nat} {lab : Int} {key : Nat} {W W' : World} (h : CellC g lab key W) (hb : Below W.heap.size W W') : CellC g lab key W' :=
  ⟨(hb.cell (World.block_lt_of_cell? _ _ h.1)).trans h.1, (hb.cell (World.block_lt_of_cell? _ _ h.2)).trans h.2⟩
theorem has_b (w : World) (v : Value) (a : Ar) (lab : Int) (key : Nat) (q : Bool) (hr : RdA w v a) (hq : inA a lab key = q) :
    Calls Try.prog 29 #[v, .agg #[.int .i64 lab, .int .u32 key]] w fun e w' => e = .returned (.bool q) ∧ Below w.heap.size w w' := by
  rw [← hq]; exact ahas_calls w v a lab key hr

/-- an area's labels as values. -/
theorem RdA.vals {w : World} {A : Option Addr} {n cap : Nat} {l : Ar} (h : RdA w (.slice A n cap) l) :
    ∃ ys : List Value, ys.length = l.length ∧ ∀ i (hi : i < l.length), ∃ b o u, A = some ⟨b, o, none⟩ ∧ ys[i]? = some u ∧ w.cell? ⟨b, o + i, none⟩ = some u ∧ RdS w u l[i] := by
  have h1 : ∀ i : Fin l.length, ∃ u, ∃ b o, A = some ⟨b, o, none⟩ ∧ w.cell? ⟨b, o + i.1, none⟩ = some u ∧ RdS w u (l[i.1]'i.2) := fun i => by
    obtain ⟨b, o, u, e, hc, hu⟩ := h.get i.1 i.2
    exact ⟨u, b, o, e, hc, hu⟩
  refine ⟨List.ofFn fun i => Classical.choose (h1 i), by simp, fun i hi => ?_⟩
  obtain ⟨b, o, e, hc, hu⟩ := Classical.choose_spec (h1 ⟨i, hi⟩)
  exact ⟨b, o, _, e, by simp [hi], hc, hu⟩

/-- append(an own row, an area...) -/
theorem push_ar {W0 W : World} {ops : Array Oper} {rest : List Oper} {o : Oper} {a : Act} {Q : Exit → Act → World → Prop} (hgd : o.guard = none) (s x : Operand)
    (ho : o.op = .call { callee := .builtin .append, args := #[s, x], argTypes := #[23, 23] })
    (base n : Nat) (xs : List Value) (v : Value) (hs : a.eval s = v) (hown : W.ownsRow base 64 1 v n xs) (hn : n ≤ 1000) (hbase : base ≤ W.heap.size)
    (A : Option Addr) (m cap : Nat) (l : Ar) (hm : m = l.length) (hx : a.eval x = .slice A m cap) (hr : RdA W0 (.slice A m cap) l) (hB : Below W0.heap.size W0 W) (hl : l.length ≤ 1000)
    (h : ∀ v' w' ys, w'.ownsRow base 64 1 v' (n + l.length) (xs ++ ys) → ys.length = l.length → (∀ i (hi : i < l.length), ∃ u, ys[i]? = some u ∧ RdS W0 u l[i]) → W.grownBy w' v.ownBlock → wpList Try.prog ops Q rest (a.put o.dst v') w') :
    wpList Try.prog ops Q (o :: rest) a W := by
  subst hm
  obtain ⟨i0, hi, hz0, hz1, hz2⟩ := info_parts infoSl
  obtain ⟨ys, hyl, hys⟩ := hr.vals
  have hy : ∀ i (hi : i < l.length), ∃ u, ys[i]? = some u ∧ RdS W0 u l[i] := fun i hi => by
    obtain ⟨b, o, u, -, h1, -, h2⟩ := hys i hi
    exact ⟨u, h1, h2⟩
  have hone : ∀ u ∈ ys, u.oneCell' = true := fun u hu => by
    obtain ⟨i, hi, rfl⟩ := List.getElem_of_mem hu
    obtain ⟨b, o, u, -, h1, -, h2⟩ := hys i (by omega)
    rw [List.getElem?_eq_getElem hi] at h1
    cases h1
    obtain ⟨A2, c2, e2, -⟩ := h2
    rw [e2]; rfl
  cases A with
  | none =>
    obtain ⟨A2, c2, e2, k1, k2, k3, -⟩ := id hr
    cases e2
    have hc0 := k3.2 rfl
    have hl0 : l.length = 0 := by omega
    subst hc0
    have hl1 : l = [] := List.length_eq_zero_iff.1 hl0
    subst hl1
    refine wpList_append_own_none hgd s x 23 ho base 64 i0 1 Try.underlying23 hi v n xs hs hown hx ?_
    exact h v W [] (by simpa using hown) rfl (fun i hi => by simp at hi) ⟨rfl, rfl, rfl, Nat.le_refl _, fun _ _ _ => rfl⟩
  | some ad =>
    refine wpList_append_own_at _ hgd s x 23 ho base 64 i0 _ 1 24 Try.underlying23 hi hz0 hz1 hz2 rfl (by decide) v n xs hs hown ad l.length cap ys hx (by omega) ?_ hone (by unfold maxLen; omega) (by omega) hbase ?_
    · intro j u hj
      have hjl : j < l.length := by
        have := (List.getElem?_eq_some_iff.1 hj).1
        omega
      obtain ⟨b, o, u2, e, h1, h2, -⟩ := hys j hjl
      cases e
      rw [hj] at h1
      cases h1
      have h3 := (hB.cell (World.block_lt_of_cell? _ _ h2)).trans h2
      have e1 : (⟨b, o, none⟩ : Addr).add j = ⟨b, o + j, none⟩ := by simp only [Addr.add]; split <;> simp_all
      rw [e1]; exact h3
    · intro v' w6 hown' hgrow _ hat
      exact h v' w6 ys hown' hyl hy hgrow

/-- an area with an empty label and one of a span without keys behind it. -/
theorem more_step {W WA WB : World} {ys : List Value} {v9 v10 : Value} {a : Ar} (hown : WA.ownsRow W.heap.size 64 1 v9 a.length ys)
    (hgrow : (W.alloc (.cells #[] 64)).grownBy WA (some W.heap.size)) (hyl : ys.length = a.length) (hys : ∀ i (hi : i < a.length), ∃ u, ys[i]? = some u ∧ RdS W u a[i])
    (hown2 : WB.ownsRow W.heap.size 64 1 v10 (a.length + 2) (ys ++ [.slice none 0 0, .slice (some ⟨WA.heap.size, 0, none⟩) 1 1]))
    (hgrow2 : ((WA.alloc (.cells #[.int .u32 2, .int .u32 1] 63)).alloc (.cells #[.slice none 0 0, .slice (some ⟨WA.heap.size, 0, none⟩) 1 1] 64)).grownBy WB v9.ownBlock) (hl : a.length ≤ 1000) :
    RdA WB v10 (a ++ [[], [(2, 1)]]) ∧ Below W.heap.size W WB := by
  have hsz := hgrow.size
  rw [World.size_alloc] at hsz
  have hB1 : Below W.heap.size W WA := ⟨hgrow.os, hgrow.tape, hgrow.output, by omega, fun b hb => (hgrow.block b (by rw [World.size_alloc]; omega) (fun e => by cases e; omega)).trans (Below.heap_alloc _ _ _ hb)⟩
  have hB2 : Below W.heap.size W WB := hB1.trans ((((Below.refl W.heap.size WA).alloc (by omega) _).alloc (by simp only [World.size_alloc]; omega) _).trans (own_grown ((hown.alloc _).alloc _) hgrow2 (Nat.le_refl _) (by simp only [World.size_alloc]; omega)))
  refine ⟨?_, hB2⟩
  have hspb : WB.heap[WA.heap.size]? = some (.cells ([(2, 1)].flatMap spc).toArray 63) := by
    refine (hgrow2.block _ (by simp only [World.size_alloc]; omega) (fun e => ?_)).trans ((Below.heap_alloc _ _ _ (by simp only [World.size_alloc]; omega)).trans (heap_alloc_at WA _))
    have := (hown.lt _ e.symm).2
    omega
  have hr1 : RdS WB (.slice (some ⟨WA.heap.size, 0, none⟩) 1 1) [(2, 1)] := rdS_at [(2, 1)] hspb (by decide) (by decide) 1 rfl
  refine IsL.of_owns (by omega) (cells := ys ++ [.slice none 0 0, .slice (some ⟨WA.heap.size, 0, none⟩) 1 1]) (by simpa using hown2) (by simp; omega) (fun _ _ => rfl) fun i hi => ?_
  rw [Nat.mul_one]
  have hi2 : i < a.length + 2 := by simpa using hi
  by_cases h1 : i < a.length
  · obtain ⟨u, hu, hr⟩ := hys i h1
    refine ⟨u, ?_, by rw [List.getElem_append_left h1]; exact hr.keep hB2⟩
    have hu2 : (ys ++ [Value.slice none 0 0, .slice (some ⟨WA.heap.size, 0, none⟩) 1 1])[i]? = some u := by rw [List.getElem?_append_left (by omega)]; exact hu
    obtain ⟨h2, h3⟩ := List.getElem?_eq_some_iff.1 hu2
    rw [List.drop_eq_getElem_cons h2, h3]; rfl
  · rcases (by omega : i = a.length ∨ i = a.length + 1) with rfl | rfl
    · refine ⟨.slice none 0 0, ?_, by simp [List.getElem_append_right]; exact RdS.nil⟩
      rw [← hyl, List.drop_left]; rfl
    · refine ⟨.slice (some ⟨WA.heap.size, 0, none⟩) 1 1, ?_, by simp [List.getElem_append_right]; exact hr1⟩
      rw [← hyl, List.drop_append, List.drop_eq_nil_of_le (by omega)]; simp
theorem sm_more {n : Nat} {a : Ar} (h : Sm (n + 1) a) : Sm (n + 1) (a ++ [[], [(2, 1)]]) := fun l hl => by
  rcases List.mem_append.1 hl with h1 | h1
  · exact h l h1
  · simp at h1; rcases h1 with rfl | rfl <;> simp
theorem alloc2_at (W : World) (o1 o2 : Obj) : ((W.alloc o1).alloc o2).heap[W.heap.size + 1]? = some o2 := by
  have := heap_alloc_at (W.alloc o1) o2
  rw [World.size_alloc] at this; exact this
theorem rdA_wf {w : World} {v : Value} {a : Ar} (h : RdA w v a) : ∀ l ∈ a, WfS l := fun l hl => by
  obtain ⟨i, hi, rfl⟩ := List.getElem_of_mem hl
  obtain ⟨A, cap, rfl, -⟩ := id h
  obtain ⟨b, o, u, -, -, hu⟩ := h.get i hi
  exact hu.wf
end Go.Proofs.Ytipdmnfkigoanaa

namespace Go.Proofs.Ytipdmnfkigoanaa
open Go.RowKit

/-! Plain laws of the areas that a mask makes. -/
theorem i64_and_low (n : Int) : bits .and .i64 n 15 = n % 16 ∧ bits .and .i64 n 31 = n % 32 := by
  have key : ∀ k : Nat, (BitVec.ofInt 64 n &&& BitVec.ofNat 64 (2 ^ k - 1)).toNat = (n % ((2 ^ 64 : Nat) : Int)).toNat &&& (2 ^ k - 1) % 2 ^ 64 := fun k => by
    rw [BitVec.toNat_and, BitVec.toNat_ofInt, BitVec.toNat_ofNat]
  constructor
  · have k4 := key 4
    rw [show (2 ^ 4 - 1) % 2 ^ 64 = 2 ^ 4 - 1 by decide, Nat.and_two_pow_sub_one_eq_mod] at k4
    show IntKind.i64.wrap ((BitVec.ofInt 64 n &&& BitVec.ofInt 64 15).toNat : Nat) = n % 16
    rw [show BitVec.ofInt 64 15 = BitVec.ofNat 64 (2 ^ 4 - 1) by decide, k4, IntKind.wrap_i64]
    omega
  · have k5 := key 5
    rw [show (2 ^ 5 - 1) % 2 ^ 64 = 2 ^ 5 - 1 by decide, Nat.and_two_pow_sub_one_eq_mod] at k5
    show IntKind.i64.wrap ((BitVec.ofInt 64 n &&& BitVec.ofInt 64 31).toNat : Nat) = n % 32
    rw [show BitVec.ofInt 64 31 = BitVec.ofNat 64 (2 ^ 5 - 1) by decide, k5, IntKind.wrap_i64]
    omega
theorem nf_len {l : List Sp} (h : WfS l) : (nf l).length ≤ l.length := by
  have hp : ((l.filter okSp).mergeSort fun s t => decide (s.1 ≤ t.1)).Perm (l.filter okSp) := List.mergeSort_perm _ _
  have hs : ((l.filter okSp).mergeSort fun s t => decide (s.1 ≤ t.1)).Pairwise fun s t => s.1 ≤ t.1 := by
    have := List.pairwise_mergeSort (le := fun (s t : Sp) => decide (s.1 ≤ t.1)) (by intro a b c h1 h2; simp at *; omega) (by intro a b; simp; omega) (l.filter okSp)
    exact this.imp fun h => by simpa using h
  rw [(nf_spec h).eq (make_spec h hp hs) (fun _ => Iff.rfl)]
  refine Nat.le_trans (mfold_len _) ?_
  rw [hp.length_eq]
  exact List.length_filter_le _ _
theorem nf_len20 {l : List Sp} (h : WfS l) (h20 : ¬ 20 < l.length) : (nf l).length ≤ 20 := Nat.le_trans (nf_len h) (by omega)
theorem ofL_at (N : Nat) (pre : List Nat) (m : List Sp) (i : Nat) : atA (ofL N pre m) i = if i < N ∧ i ∈ pre then m else [] := by
  by_cases h : i < N
  · rw [atA_lt (by rw [ofL_len]; exact h)]
    simp [ofL, h]
  · rw [atA_ge (by rw [ofL_len]; omega)]
    simp [h]
theorem mem_ofL {N x i k : Nat} {m : List Sp} (hN : N ≤ 16) : Mem k (atA (ofL N (bitsN x) m) i) ↔ (i < N ∧ x.testBit i = true) ∧ Mem k m := by
  rw [ofL_at]
  by_cases h : i < N ∧ i ∈ bitsN x
  · rw [if_pos h]
    exact ⟨fun g => ⟨⟨h.1, (bitsN_mem.1 h.2).2⟩, g⟩, fun g => g.2⟩
  · rw [if_neg h]
    exact ⟨fun g => (mem_nil g).elim, fun g => absurd ⟨g.1.1, bitsN_mem.2 ⟨by omega, g.1.2⟩⟩ h⟩
theorem in_ofL {N x key : Nat} {lab : Int} {s : List Sp} (hN : N ≤ 16) (hs : WfS s) :
    inA (ofL N (bitsN x) (nf s)) lab key = (decide (0 ≤ lab) && decide (lab < N) && x.testBit lab.toNat && memB key s) := eq_of_iff (by
  simp only [Bool.and_eq_true, decide_eq_true_iff, in_of, mem_ofL hN, memB_iff, (nf_spec hs).iff]
  constructor
  · rintro ⟨h0, ⟨h1, h2⟩, h3⟩; exact ⟨⟨⟨h0, by omega⟩, h2⟩, h3⟩
  · rintro ⟨⟨⟨h0, h1⟩, h2⟩, h3⟩; exact ⟨h0, ⟨by omega, h2⟩, h3⟩)
theorem ofL_wf {N : Nat} {pre : List Nat} {m : List Sp} (hm : WfS m) : ∀ l ∈ ofL N pre m, WfS l := fun l hl => by
  simp only [ofL, List.mem_map] at hl
  obtain ⟨i, -, rfl⟩ := hl
  split
  · exact hm
  · intro s hs; simp at hs
theorem ofL_sm {N n : Nat} {pre : List Nat} {m : List Sp} (hm : m.length ≤ n) : Sm n (ofL N pre m) := fun l hl => by
  simp only [ofL, List.mem_map] at hl
  obtain ⟨i, -, rfl⟩ := hl
  split
  · exact hm
  · simp
theorem mask_ofL {N x : Nat} {s : List Sp} (hN : N ≤ 16) (hs : WfS s) (hne : nf s ≠ []) : maskA (ofL N (bitsN x) (nf s)) = x &&& (2 ^ N - 1) := by
  obtain ⟨k, hk⟩ : ∃ k, Mem k (nf s) := Classical.byContradiction fun h => hne ((nf_nil hs).2 fun k hk => h ⟨k, ((nf_spec hs).iff k).2 hk⟩)
  refine Nat.eq_of_testBit_eq fun i => eq_of_iff ?_
  rw [maskA_bit (ofL_wf (nf_spec hs).nf.wf), Nat.testBit_and, Nat.testBit_two_pow_sub_one, Bool.and_eq_true, decide_eq_true_iff]
  unfold HasL
  simp only [mem_ofL hN]
  exact ⟨fun ⟨_, k, h, _⟩ => ⟨h.2, h.1⟩, fun ⟨h1, h2⟩ => ⟨by omega, k, ⟨h2, h1⟩, hk⟩⟩
theorem mask_ofL0 {N x : Nat} {s : List Sp} (hN : N ≤ 16) (hs : WfS s) (hne : nf s = []) : maskA (ofL N (bitsN x) (nf s)) = 0 := by
  refine Nat.eq_of_testBit_eq fun i => eq_of_iff ?_
  rw [maskA_bit (ofL_wf (nf_spec hs).nf.wf), Nat.zero_testBit, hne]
  unfold HasL
  simp only [mem_ofL hN]
  exact ⟨fun ⟨_, k, _, h⟩ => (mem_nil h).elim, fun h => by simp at h⟩
theorem same_uL {N x y z : Nat} {m : List Sp} {u : Ar} (hN : N ≤ 16) (hu : IsU (ofL N (bitsN x) m) (ofL N (bitsN y) m) u) (hz : ∀ i, z.testBit i = (x.testBit i || y.testBit i)) :
    subB u (ofL N (bitsN z) m) = true ∧ subB (ofL N (bitsN z) m) u = true := by
  have e : ∀ i k, Mem k (atA u i) ↔ Mem k (atA (ofL N (bitsN z) m) i) := fun i k => by
    rw [(hu i).iff, mem_ofL hN, mem_ofL hN, mem_ofL hN, hz, Bool.or_eq_true]
    constructor
    · rintro (⟨⟨a, b⟩, c⟩ | ⟨⟨a, b⟩, c⟩)
      · exact ⟨⟨a, .inl b⟩, c⟩
      · exact ⟨⟨a, .inr b⟩, c⟩
    · rintro ⟨⟨a, b | b⟩, c⟩
      · exact .inl ⟨⟨a, b⟩, c⟩
      · exact .inr ⟨⟨a, b⟩, c⟩
  exact ⟨subB_iff.2 fun i k h => (e i k).1 h, subB_iff.2 fun i k h => (e i k).2 h⟩
theorem same_mL {N x y z : Nat} {m : List Sp} {u : Ar} (hN : N ≤ 16) (hu : IsM (ofL N (bitsN x) m) (ofL N (bitsN y) m) u) (hz : ∀ i, z.testBit i = (x.testBit i && y.testBit i)) :
    subB u (ofL N (bitsN z) m) = true ∧ subB (ofL N (bitsN z) m) u = true := by
  have e : ∀ i k, Mem k (atA u i) ↔ Mem k (atA (ofL N (bitsN z) m) i) := fun i k => by
    rw [(hu i).iff, mem_ofL hN, mem_ofL hN, mem_ofL hN, hz, Bool.and_eq_true]
    exact ⟨fun ⟨⟨⟨a, b⟩, c⟩, ⟨_, b2⟩, _⟩ => ⟨⟨a, b, b2⟩, c⟩, fun ⟨⟨a, b, b2⟩, c⟩ => ⟨⟨⟨a, b⟩, c⟩, ⟨a, b2⟩, c⟩⟩
  exact ⟨subB_iff.2 fun i k h => (e i k).1 h, subB_iff.2 fun i k h => (e i k).2 h⟩
theorem same_dL {N x y z : Nat} {m : List Sp} {u : Ar} (hN : N ≤ 16) (hu : IsD (ofL N (bitsN x) m) (ofL N (bitsN y) m) u) (hz : ∀ i, i < 16 → z.testBit i = (x.testBit i && !y.testBit i)) :
    subB u (ofL N (bitsN z) m) = true ∧ subB (ofL N (bitsN z) m) u = true := by
  have e : ∀ i k, Mem k (atA u i) ↔ Mem k (atA (ofL N (bitsN z) m) i) := fun i k => by
    rw [(hu i).iff, mem_ofL hN, mem_ofL hN, mem_ofL hN]
    constructor
    · rintro ⟨⟨⟨a, b⟩, c⟩, h⟩
      refine ⟨⟨a, ?_⟩, c⟩
      rw [hz i (by omega), b]
      cases q : y.testBit i
      · rfl
      · exact (h ⟨⟨a, q⟩, c⟩).elim
    · rintro ⟨⟨a, b⟩, c⟩
      rw [hz i (by omega), Bool.and_eq_true, Bool.not_eq_true'] at b
      exact ⟨⟨⟨a, b.1⟩, c⟩, fun h => by rw [b.2] at h; simp at h⟩
  exact ⟨subB_iff.2 fun i k h => (e i k).1 h, subB_iff.2 fun i k h => (e i k).2 h⟩
theorem andnot_nat (x y : Nat) (hx : x < 4294967296) (hy : y < 4294967296) : ∃ z : Nat, bits .andNot .u32 (x : Int) (y : Int) = (z : Int) ∧ z < 4294967296 ∧ ∀ i, i < 16 → z.testBit i = (x.testBit i && !y.testBit i) := by
  refine ⟨x &&& (4294967295 - y), u32_andNot_nat x y hx hy, Nat.lt_of_le_of_lt Nat.and_le_left hx, fun i hi => ?_⟩
  rw [Nat.testBit_and, show 4294967295 - y = 2 ^ 32 - (y + 1) by omega, Nat.testBit_two_pow_sub_succ (by omega)]
  simp [show i < 32 by omega]
theorem bit_at {x : Nat} {lab : Nat} (hx : x < 4294967296) : bits .and .u32 ((x >>> lab : Nat) : Int) 1 = if x.testBit lab then 1 else 0 := by
  have h1 : x >>> lab < 4294967296 := Nat.lt_of_le_of_lt (Nat.shiftRight_le _ _) hx
  have h2 := u32_and_nat (x >>> lab) 1 h1 (by decide)
  rw [show ((1 : Nat) : Int) = 1 by rfl] at h2
  rw [h2, Nat.and_one_is_mod, Nat.testBit_eq_decide_div_mod_eq, Nat.shiftRight_eq_div_pow]
  rcases Nat.mod_two_eq_zero_or_one (x / 2 ^ lab) with h | h <;> simp [h]
theorem low_mask {N : Nat} (hN : N ≤ 16) : ∃ p : Nat, p = 2 ^ N ∧ 1 ≤ p ∧ p ≤ 65536 := ⟨2 ^ N, rfl, Nat.one_le_two_pow, by
  have : 2 ^ N ≤ 2 ^ 16 := Nat.pow_le_pow_right (by omega) hN
  omega⟩
theorem low_and {x M : Nat} (hx : x < 4294967296) (hM : M < 16) : bits .and .u32 (x : Int) (((2 : Int) ^ (1 + M) - 1) % 4294967296) = ((x &&& (2 ^ (M + 1) - 1) : Nat) : Int) := by
  obtain ⟨p, hp, h1, h2⟩ := low_mask (N := M + 1) (by omega)
  have e : (2 : Int) ^ (1 + M) = (p : Int) := by rw [hp, Nat.add_comm 1 M]; simp
  rw [e, ← hp, show ((p : Int) - 1) % 4294967296 = ((p - 1 : Nat) : Int) by omega, u32_and_nat _ _ hx (by omega)]
end Go.Proofs.Ytipdmnfkigoanaa

namespace Go.Proofs.Ytipdmnfkigoanaa
open Go.RowKit
attribute [local go_sem] World.cell?_alloc_some frozen_alloc_some
/-- a label's set, nothing beyond. -/
def atI (a : Ar) (i : Int) : List Sp := if i < 0 then [] else atA a i.toNat
theorem atI_nat (a : Ar) (i : Nat) : atI a i = atA a i := by unfold atI; rw [if_neg (by omega), Int.toNat_natCast]
set_option maxHeartbeats 1000000 in
theorem refatN_calls (w : World) (v : Value) (a : Ar) (i : Nat) (hr : RdA w v a) :
    Calls Try.prog 31 #[v, .int .i64 i] w fun e w' => ∃ u A c, u = .slice A (atA a i).length c ∧ e = .returned u ∧ RdS w u (atA a i) ∧ w = w' := by
  obtain ⟨A, cap, rfl, a1, a2, a3, -⟩ := id hr
  unfold maxLen at a2
  have HR := Lib.hid hr
  clear hr
  by_cases hlt : i < a.length
  · obtain ⟨b, o, u, rfl, hc, hu⟩ := HR.out.get i hlt
    have HU := Lib.hid hu
    obtain ⟨A', c', rfl, -⟩ := id hu
    have HA := Lib.hid (atA_lt hlt)
    clear hu
    go_enter Try.func31, Try.ntmps31
    go_wp2
    go_ret
    exact ⟨.slice A' a[i].length c', A', c', by rw [HA.out], rfl, by rw [HA.out]; exact HU.out, rfl⟩
  · have HA := Lib.hid (atA_ge (a := a) (i := i) (by omega))
    go_enter Try.func31, Try.ntmps31
    go_wp2
    go_ret
    exact ⟨.slice none 0 0, none, 0, by rw [HA.out]; rfl, rfl, by rw [HA.out]; exact RdS.nil, rfl⟩
set_option maxHeartbeats 1000000 in
theorem refat_calls (w : World) (v : Value) (a : Ar) (i : Int) (hr : RdA w v a) :
    Calls Try.prog 31 #[v, .int .i64 i] w fun e w' => ∃ u A c, u = .slice A (atI a i).length c ∧ e = .returned u ∧ RdS w u (atI a i) ∧ w = w' := by
  by_cases h0 : i < 0
  · obtain ⟨A, cap, rfl, a1, a2, a3, -⟩ := id hr
    have HA : Hid (atI a i = []) := by unfold atI; rw [if_pos h0]; rfl
    clear hr
    go_enter Try.func31, Try.ntmps31
    go_wp2
    go_ret
    exact ⟨.slice none 0 0, none, 0, by rw [HA.out]; rfl, rfl, by rw [HA.out]; exact RdS.nil, rfl⟩
  · obtain ⟨i, rfl⟩ : ∃ n : Nat, i = n := ⟨i.toNat, by omega⟩
    have h := refatN_calls w v a i hr
    rw [← atI_nat] at h
    exact h
theorem fullB_len {l : List Sp} (h : WfS l) : fullB l = decide (0 < (buildL l [] 0).length) := by
  refine eq_of_iff ?_
  rw [fullB_iff, decide_eq_true_iff]
  have h2 := (buildMake_spec h).nil_iff
  constructor
  · rintro ⟨k, hk⟩
    refine Classical.byContradiction fun h3 => ?_
    exact h2.1 (List.length_eq_zero_iff.1 (by omega)) k hk
  · intro h1
    refine Classical.byContradiction fun h3 => ?_
    rw [h2.2 fun k hk => h3 ⟨k, hk⟩] at h1
    simp at h1
end Go.Proofs.Ytipdmnfkigoanaa

namespace Go.Proofs.Ytipdmnfkigoanaa
open Go.RowKit
attribute [local go_sem] World.cell?_alloc_some frozen_alloc_some

/-- label by label what two areas come to. -/
def bldA (a b : Ar) (kind : Int) (n : Nat) : Ar := (List.range n).map fun i => buildL (atA a i) (atA b i) kind
theorem bldA_len (a b : Ar) (kind : Int) (n : Nat) : (bldA a b kind n).length = n := by simp [bldA]
theorem bldA_succ (a b : Ar) (kind : Int) (n : Nat) : bldA a b kind (n + 1) = bldA a b kind n ++ [buildL (atA a n) (atA b n) kind] := by simp [bldA, List.range_succ]
theorem own_empty (w : World) (χ : Col) (h : χ w.heap.size = 1) : OwnA w.heap.size χ (w.alloc (.cells #[] 64)) (.slice (some ⟨w.heap.size, 0, none⟩) 0 0) [] :=
  ⟨[], ⟨rfl, .inr ⟨_, 0, #[], rfl, Nat.le_refl _, heap_alloc_at _ _, Nat.le_refl _, Nat.zero_le _, rfl, rfl⟩⟩, fun b e => by cases e; exact h, fun i hi => by simp at hi⟩

set_option maxRecDepth 100000 in
set_option maxHeartbeats 4000000 in
theorem refbuild_calls (w : World) (v u : Value) (a b : Ar) (kind : Int) (ha : RdA w v a) (hb : RdA w u b) (la : a.length ≤ 100) (lb : b.length ≤ 100) (sa : Sm 1000 a) (sb : Sm 1000 b) (hkind : kind = 0 ∨ kind = 1 ∨ kind = 2 ∨ kind = 3) :
    Calls Try.prog 25 #[v, u, .int .i64 kind] w fun e w' => ∃ v', e = .returned v' ∧ RdA w' v' (bldA a b kind (max a.length b.length)) ∧ Below w.heap.size w w' := by
  obtain ⟨A, cap, rfl, a1, a2, a3, -⟩ := id ha
  obtain ⟨B, bcap, rfl, b1, b2, b3, -⟩ := id hb
  clear a1 a2 a3 b1 b2 b3
  have HA := Lib.hid ha
  have HB := Lib.hid hb
  have SA := Lib.hid sa
  have SB := Lib.hid sb
  have HK := Lib.hid hkind
  clear ha hb sa sb hkind
  obtain ⟨N, hN⟩ : ∃ N, N = max a.length b.length := ⟨_, rfl⟩
  have hN1 : N ≤ 100 := by omega
  have hNa : a.length ≤ N := by omega
  have hNb : b.length ≤ N := by omega
  have HN : Hid (∀ k, k < N → k < a.length ∨ k < b.length) := fun k hk => by omega
  rw [← hN]
  clear hN
  have hb0 := (Below.refl w.heap.size w).alloc (Nat.le_refl _) (.cells #[] 64)
  obtain ⟨i0, hi0, hz0, hz1, hz2⟩ := info_parts infoSl
  go_enter Try.func25, Try.ntmps25
  go_wp2
  go_loopw [7, 8] (fun o i wr => ∃ (k : Nat) (χ : Col), k ≤ N ∧ i = .int .i64 k ∧ OwnA w.heap.size χ wr o (bldA a b kind k) ∧ Below w.heap.size w wr) (fun _ i _ => N - (intOf i).toNat)
  case atStart => exact ⟨0, fun _ => 1, by omega, rfl, own_empty w _ rfl, hb0⟩
  case round =>
    obtain ⟨k, χ, hk, rfl, O, hbr⟩ := hrel
    have HBS := Lib.hid (bldA_succ a b kind k)
    have HBL := Lib.hid (bldA_len a b kind k)
    by_cases hlt : k < N
    · have HAr := Lib.hid (HA.out.keep hbr)
      have HBr := Lib.hid (HB.out.keep hbr)
      have HO := Lib.hid O
      have hal := SA.out.at k
      have hbl := SB.out.at k
      obtain ⟨vs0, o0, -⟩ := id O
      obtain ⟨A0, c0, rfl⟩ := owns_form o0
      rw [HBL.out] at HO ⊢
      clear O o0
      have hab := HN.out k hlt
      by_cases hka : k < a.length
      all_goals
        first | (have hkb : k < b.length := hab.resolve_left hka) | skip
        clear hab
        go_wp2_with fail
        refine (refatN_calls _ _ _ k HAr.out).mono ?_
        rintro e w1 ⟨u1, A1, c1, rfl, rfl, R1, rfl⟩
        have HR1 := Lib.hid R1
        clear R1
        go_wp2_with fail
        refine (refatN_calls _ _ _ k HBr.out).mono ?_
        rintro e w1 ⟨u2, A2, c2, rfl, rfl, R2, rfl⟩
        have HR2 := Lib.hid R2
        clear R2
        go_wp2_with fail
        refine (build_calls _ _ _ _ _ kind HR1.out HR2.out (by omega) (by omega) HK.out).mono ?_
        rintro e w5 ⟨v5, rfl, N5, hb5⟩
        obtain ⟨A5, c5, rfl⟩ := N5.form
        have hl5 := N5.2.2
        obtain ⟨l5, hl5e⟩ : ∃ l5, l5 = buildL (atA a k) (atA b k) kind := ⟨_, rfl⟩
        rw [← hl5e] at N5 HBS hl5 ⊢
        have O5 := HO.out.keep (χ' := paint χ wr.heap.size 2) (Same.below 2 hb5)
        have I5 := N5.col (c := 2) (χ := paint χ wr.heap.size 2) (fun b hb => paint_high hb)
        obtain ⟨vs, o1, o2, o3⟩ := O5
        rw [HBL.out] at o1
        have hz5 := hb5.size
        have hz0' := hbr.size
        have hbw := hbr.trans (hb5.mono hbr.size)
        clear N5 HO hb5 hl5e
        go_wp2_with (at_builtin; refine wpList_append_own_at _ rfl _ _ 23 rfl w.heap.size 64 i0 _ 1 24 Try.underlying23 hi0 hz0 hz1 hz2 rfl (by decide) _ _ _ rfl (o1.alloc _) ⟨w5.heap.size, 0, none⟩ 1 1 [.slice A5 l5.length c5] rfl rfl (World.news_of_block (heap_alloc_new w5 _)) (by simp [Value.oneCell']) (by unfold maxLen; omega) (by omega) (by simp; omega) ?_; intro v' w6 hown' hgrow _ hat)
        have hb6 := hbw.trans (push_base o1 hgrow (N := w.heap.size) (Nat.le_refl _) (by omega))
        have O6 := OwnA.push (by rw [HBL.out]; exact o1) o2 o3 I5 (by rw [HBL.out]; exact hown') hgrow hat
        rw [← HBS.out] at O6
        refine ⟨⟨k + 1, _, hlt, by go_num, O6, hb6⟩, by simp [intOf]; omega⟩
    · have hkN : k = N := by omega
      subst hkN
      have hR : Hid (RdA wr _ _) := O.rd (by rw [HBL.out]; omega)
      obtain ⟨vs0, o0, -⟩ := id O
      obtain ⟨A0, c0, rfl⟩ := owns_form o0
      have hka : ¬ k < a.length := by omega
      have hkb : ¬ k < b.length := by omega
      clear O o0
      go_wp2
      go_ret
      exact ⟨_, rfl, hR.out, hbr⟩

theorem ofL_succ (k : Nat) (pre : List Nat) (m : List Sp) : ofL (k + 1) pre m = ofL k pre m ++ [if k ∈ pre then m else []] := by
  unfold ofL; rw [List.range_succ, List.map_append]; rfl
theorem isl_empty (c : Nat) (χ : Col) (w : World) (g : Nat) : IsL 2 rSpan c χ w (.slice (some ⟨g, 0, none⟩) 0 0) [] := ⟨_, 0, rfl, Nat.le_refl _, Nat.zero_le _, ⟨Nat.zero_le _, fun h => by cases h⟩, fun i hi => by simp at hi⟩
theorem bldA_at {a b : Ar} {kind : Int} {n : Nat} (i : Nat) (h : i < n) : atA (bldA a b kind n) i = buildL (atA a i) (atA b i) kind := by
  rw [atA_lt (by rw [bldA_len]; exact h)]; simp [bldA]
theorem atA_wf {a : Ar} (h : ∀ l ∈ a, WfS l) (i : Nat) : WfS (atA a i) := by
  by_cases c : i < a.length
  · rw [atA_lt c]; exact h _ (List.getElem_mem c)
  · rw [atA_ge (by omega)]; exact WfS.nil
theorem empty_bld {a b : Ar} (wa : ∀ l ∈ a, WfS l) (wb : ∀ l ∈ b, WfS l) : emptyB (bldA a b 2 (max a.length b.length)) = subB a b := eq_of_iff (by
  rw [emptyB_iff, subB_iff]
  constructor
  · intro h i k hk
    by_cases c : i < max a.length b.length
    · have h1 := h i k
      rw [bldA_at i c, (build2_spec (atA_wf wa i) (atA_wf wb i)).iff] at h1
      exact Classical.byContradiction fun h2 => h1 ⟨hk, h2⟩
    · rw [atA_ge (by omega)] at hk; exact (mem_nil hk).elim
  · intro h i k hk
    by_cases c : i < max a.length b.length
    · rw [bldA_at i c, (build2_spec (atA_wf wa i) (atA_wf wb i)).iff] at hk
      exact hk.2 (h i k hk.1)
    · rw [atA_ge (by rw [bldA_len]; omega)] at hk; exact (mem_nil hk).elim)
theorem cutsL_len (l : List Sp) : (cutsL l).length ≤ 2 * l.length + 2 := by
  refine snoc_ind (P := fun l => (cutsL l).length ≤ 2 * l.length + 2) (by simp [cutsL]) (fun l x ih => ?_) l
  rw [cutsL_snoc, List.length_append, List.length_singleton]
  unfold cutStep
  split
  · have h1 := insC_len x.1 (cutsL l)
    have h2 := insC_len (x.2 + 1) (insC x.1 (cutsL l))
    omega
  · omega
theorem sm_bld {a b : Ar} (sa : Sm 400 a) (sb : Sm 400 b) : Sm 10000 (bldA a b 2 (max a.length b.length)) := fun l hl => by
  simp only [bldA, List.mem_map] at hl
  obtain ⟨i, -, rfl⟩ := hl
  have h1 := sa.at i
  have h2 := sb.at i
  refine Nat.le_trans (buildN_len _ _ _) ?_
  have h3 := cutsL_len (atA a i ++ atA b i)
  rw [List.length_append] at h3
  omega
/-- is a cell in an area, as the document has it? -/
def inI (a : Ar) (lab : Int) (key : Nat) : Bool := memB key (atI a lab)
theorem inI_eq (a : Ar) (lab : Int) (key : Nat) : inI a lab key = inA a lab key := by
  unfold inI inA atI
  by_cases h : lab < 0
  · rw [if_pos h, decide_eq_false (by omega), Bool.false_and]
    exact Bool.eq_false_iff.2 fun g => mem_nil (memB_iff.1 g)
  · rw [if_neg h, decide_eq_true (by omega), Bool.true_and]
set_option maxHeartbeats 1000000 in
theorem refat_q (w : World) (v : Value) (a : Ar) (i : Int) (hr : RdA w v a) :
    ∃ u A c, u = .slice A (atI a i).length c ∧ RdS w u (atI a i) ∧ ∀ n, Calls Try.prog 31 #[v, .int .i64 i] (w.drewN n) fun e w' => e = .returned u ∧ w' = w.drewN n := by
  obtain ⟨A, cap, rfl, a1, a2, a3, -⟩ := id hr
  unfold maxLen at a2
  have HR := Lib.hid hr
  clear hr
  by_cases h0 : i < 0
  · have HA : Hid (atI a i = []) := by unfold atI; rw [if_pos h0]; rfl
    refine ⟨.slice none 0 0, none, 0, by rw [HA.out]; rfl, by rw [HA.out]; exact RdS.nil, fun n => ?_⟩
    go_enter Try.func31, Try.ntmps31
    go_wp2
    go_ret
    exact ⟨rfl, rfl⟩
  · obtain ⟨i, rfl⟩ : ∃ n : Nat, i = n := ⟨i.toNat, by omega⟩
    rw [atI_nat]
    by_cases hlt : i < a.length
    · obtain ⟨b, o, u, rfl, hc, hu⟩ := HR.out.get i hlt
      have HU := Lib.hid hu
      obtain ⟨A', c', rfl, -⟩ := id hu
      have HA := Lib.hid (atA_lt hlt)
      clear hu
      refine ⟨.slice A' a[i].length c', A', c', by rw [HA.out], by rw [HA.out]; exact HU.out, fun n => ?_⟩
      go_enter Try.func31, Try.ntmps31
      go_wp2
      go_ret
      exact ⟨rfl, rfl⟩
    · have HA := Lib.hid (atA_ge (a := a) (i := i) (by omega))
      refine ⟨.slice none 0 0, none, 0, by rw [HA.out]; rfl, by rw [HA.out]; exact RdS.nil, fun n => ?_⟩
      go_enter Try.func31, Try.ntmps31
      go_wp2
      go_ret
      exact ⟨rfl, rfl⟩
set_option maxRecDepth 100000 in
set_option maxHeartbeats 4000000 in
theorem refhas_calls (w : World) (v : Value) (a : Ar) (lab : Int) (key : Nat) (hr : RdA w v a) (hk : key < 4294967296) :
    Calls Try.prog 24 #[v, .agg #[.int .i64 lab, .int .u32 key]] w fun e w' => e = .returned (.bool (inA a lab key)) ∧ Below w.heap.size w w' := by
  obtain ⟨A, cap, rfl, -⟩ := id hr
  have hb0 := (Below.refl w.heap.size w).alloc (Nat.le_refl _) (.cells #[.int .i64 lab, .int .u32 key] 36)
  have HR := Lib.hid (hr.keep hb0)
  rw [← inI_eq]
  have hcell := cells2 (heap_alloc_at w (.cells #[.int .i64 lab, .int .u32 key] 36))
  obtain ⟨⟨x0, x1⟩, -⟩ := hcell
  obtain ⟨W0, hW0⟩ : ∃ W0, W0 = w.alloc (.cells #[.int .i64 lab, .int .u32 key] 36) := ⟨_, rfl⟩
  rw [← hW0] at HR hb0 x0 x1
  have HW0 := Lib.hid hW0
  clear hr hW0
  go_enter Try.func24, Try.ntmps24
  go_wp2
  rw [← HW0.out]
  clear HW0
  obtain ⟨q, hq⟩ : ∃ q, q = inI a lab key := ⟨_, rfl⟩
  obtain ⟨u, gA, gc, rfl, hgr, hat⟩ := refat_q W0 _ a lab HR.out
  have HAT := Lib.hid hat
  have HHS : Hid (∀ n, Calls Try.prog 30 #[.slice gA (atI a lab).length gc, .int .i64 key] (W0.drewN n) fun e w' => e = .returned (.bool q) ∧ w' = W0.drewN n) := fun n => by
    rw [hq]; exact refHas_calls _ _ _ key (hgr.drewN n)
  have HQ := Lib.hid hq
  clear hat hgr hq HR
  go_quiet (first | (go_at_call 31; exact Calls.quiet_of_same (HAT.out _)) | (go_at_call 30; exact Calls.quiet_of_same (HHS.out _)))
  go_wp2
  go_ret
  exact ⟨ret_bool HQ.out, hb0.trans (below_drewN _ _ _)⟩
end Go.Proofs.Ytipdmnfkigoanaa
