import Derived.Test.YtipdmnfkigoanaaProg
import Derived.WalkKit
import Derived.Lib.Hide
import Derived.Deep.QuietTactic
import Derived.BigQuiet
import Derived.WalkSpells
import Derived.Deep.LoopGhost
import Derived.OwnWalk
import Derived.Maps.AppendAt
import Derived.Deep.RegionHeld3
import Derived.Deep.AppendLies
import Derived.Deep.DrawnRows
import Derived.Deep.RegionLaw
import Derived.BigRegion
namespace Go.Proofs.Ytipdmnfkigoanaa
open Go.RowKit

theorem ret_bool {a b : Bool} (h : a = b) : Ending.returned (.bool a) = .returned (.bool b) := by rw [h]
theorem ret_int {k : IntKind} {a b : Int} (h : a = b) : Ending.returned (.int k a) = .returned (.int k b) := by rw [h]
theorem val_int {k : IntKind} {a b : Int} (h : a = b) : Value.int k a = .int k b := by rw [h]
theorem val_bool {a b : Bool} (h : a = b) : Value.bool a = .bool b := by rw [h]
theorem drew_ex (w : World) (k : Nat) : ∃ d, (w.drewN k).drew = w.drewN d := ⟨k + 1, rfl⟩

theorem drewN_ex (w : World) (k m : Nat) : ∃ d, (w.drewN k).drewN m = w.drewN d := ⟨k + m, by simp⟩
theorem undrew {w w' : World} {n : Nat} (h : Below n w.drew w') : Below n w w' := ⟨h.os, h.tape, h.output, h.size, h.block⟩
theorem undrewN {w w' : World} {n k : Nat} (h : Below n (w.drewN k) w') : Below n w w' := ⟨h.os, h.tape, h.output, h.size, h.block⟩
theorem below_drewN (w : World) (n k : Nat) : Below n w (w.drewN k) := ⟨rfl, rfl, rfl, Nat.le_refl _, fun _ _ => rfl⟩

theorem split_at {α : Type} (xs : List α) (k : Nat) (h : k < xs.length) : xs = xs.take k ++ xs[k] :: xs.drop (k + 1) := by
  rw [← List.drop_eq_getElem_cons h, List.take_append_drop]
theorem snoc_ind {α : Type} {P : List α → Prop} (h0 : P []) (h1 : ∀ l x, P l → P (l ++ [x])) (l : List α) : P l := by
  rw [← List.reverse_reverse l]
  induction l.reverse with
  | nil => exact h0
  | cons x l ih => rw [List.reverse_cons]; exact h1 _ _ ih

/-- Whose a block is. -/
abbrev Col := Nat → Nat
/-- All blocks from n on are c's. -/
def paint (χ : Col) (n c : Nat) : Col := fun b => if b < n then χ b else c
theorem paint_low {χ : Col} {n c b : Nat} (h : b < n) : paint χ n c b = χ b := if_pos h
theorem paint_high {χ : Col} {n c b : Nat} (h : n ≤ b) : paint χ n c b = c := if_neg (by omega)

/-- From w to w' the blocks whose colors are in D have not turned, nor have their colors. -/
def Same (D : Nat → Prop) (χ χ' : Col) (w w' : World) : Prop := ∀ b, b < w.heap.size → D (χ b) → χ' b = χ b ∧ w'.heap[b]? = w.heap[b]?

theorem Same.mono {D D' : Nat → Prop} {χ χ' : Col} {w w' : World} (h : Same D χ χ' w w') (hd : ∀ c, D' c → D c) : Same D' χ χ' w w' :=
  fun b hb hc => h b hb (hd _ hc)
theorem Same.below {D : Nat → Prop} {χ : Col} {w w' : World} (c : Nat) (h : Below w.heap.size w w') : Same D χ (paint χ w.heap.size c) w w' :=
  fun b hb _ => ⟨paint_low hb, h.block b hb⟩
theorem Same.below' {D : Nat → Prop} {χ : Col} {w w' : World} (h : Below w.heap.size w w') : Same D χ χ w w' :=
  fun b hb _ => ⟨rfl, h.block b hb⟩

/-- From w to w' only blocks of colors in C have turned; what bears loops on is kept. -/
structure Chg (χ : Col) (C : Nat → Prop) (w w' : World) : Prop where
  os : w'.os = w.os
  tape : w'.tape = w.tape
  output : w'.output = w.output
  size : w.heap.size ≤ w'.heap.size
  blk : ∀ b, b < w.heap.size → ¬ C (χ b) → w'.heap[b]? = w.heap[b]?

theorem Same.chg' {D C : Nat → Prop} {χ χ' : Col} {w w' : World} (h : Chg χ C w w') (hx : ∀ b, b < w.heap.size → χ' b = χ b) (hd : ∀ x, D x → ¬ C x) : Same D χ χ' w w' :=
  fun b hb hc => ⟨hx b hb, h.blk b hb (hd _ hc)⟩
theorem Chg.of_below {χ : Col} {C : Nat → Prop} {w w' : World} (h : Below w.heap.size w w') : Chg χ C w w' :=
  ⟨h.os, h.tape, h.output, h.size, fun b hb _ => h.block b hb⟩
theorem Chg.trans {χ χ' : Col} {C : Nat → Prop} {w w1 w2 : World} (h : Chg χ C w w1) (hx : ∀ b, b < w.heap.size → χ' b = χ b) (k : Chg χ' C w1 w2) : Chg χ C w w2 :=
  ⟨k.os.trans h.os, k.tape.trans h.tape, k.output.trans h.output, Nat.le_trans h.size k.size, fun b hb hc =>
    (k.blk b (Nat.lt_of_lt_of_le hb h.size) (by rw [hx b hb]; exact hc)).trans (h.blk b hb hc)⟩
theorem _root_.Go.World.ownsRow.mono_base {w : World} {base base' e sz n : Nat} {v : Value} {xs : List Value} (h : w.ownsRow base e sz v n xs) (hb : base' ≤ base) : w.ownsRow base' e sz v n xs := by
  obtain ⟨h1, (h2 | ⟨g, cap, cur, rfl, hg, hr⟩)⟩ := h
  · exact ⟨h1, .inl h2⟩
  · exact ⟨h1, .inr ⟨g, cap, cur, rfl, by omega, hr⟩⟩
theorem _root_.Go.World.ownsRow.cells_eq {w : World} {base base' e sz n : Nat} {v : Value} {xs ys : List Value} (h : w.ownsRow base e sz v n xs) (k : w.ownsRow base' e sz v n ys) : xs = ys := by
  obtain ⟨h1, (⟨rfl, rfl⟩ | ⟨g, cap, cur, rfl, hg, hh, _, _, _, ht⟩)⟩ := h
  · obtain ⟨k1, _⟩ := k
    have e1 : xs = [] := List.length_eq_zero_iff.1 (by simpa using h1)
    have e2 : ys = [] := List.length_eq_zero_iff.1 (by simpa using k1)
    rw [e1, e2]
  · obtain ⟨k1, (⟨e2, rfl⟩ | ⟨g', cap', cur', e2, _, kh, _, _, _, kt⟩)⟩ := k
    · cases e2
    · cases e2
      rw [hh] at kh
      cases kh
      exact ht.symm.trans kt
theorem keep_block {w w' : World} {a : Addr} {v : Value} (h : w'.heap[a.block]? = w.heap[a.block]?) (h1 : w.cell? a = some v) (h2 : w.frozen? a = false) : w'.cell? a = some v ∧ w'.frozen? a = false :=
  ⟨(World.cell?_of_block h).trans h1, (World.frozen?_of_block h).trans h2⟩
theorem keep_alloc {w : World} {a : Addr} {v : Value} (o : Obj) (h1 : w.cell? a = some v) (h2 : w.frozen? a = false) : (w.alloc o).cell? a = some v ∧ (w.alloc o).frozen? a = false :=
  keep_block (Below.heap_alloc _ _ _ (World.block_lt_of_cell? w _ h1)) h1 h2
theorem keep_below {w w' : World} {a : Addr} {v : Value} (hb : Below w.heap.size w w') (h1 : w.cell? a = some v) (h2 : w.frozen? a = false) : w'.cell? a = some v ∧ w'.frozen? a = false :=
  keep_block (hb.block _ (World.block_lt_of_cell? w _ h1)) h1 h2
theorem keep_grown {w w' : World} {a : Addr} {v : Value} {row : Option Nat} (hg : w.grownBy w' row) (hne : some a.block ≠ row) (h1 : w.cell? a = some v) (h2 : w.frozen? a = false) : w'.cell? a = some v ∧ w'.frozen? a = false :=
  keep_block (hg.block _ (World.block_lt_of_cell? w _ h1) hne) h1 h2
theorem owns_form {w : World} {base e sz n : Nat} {v : Value} {xs : List Value} (h : w.ownsRow base e sz v n xs) : ∃ A cap, v = .slice A n cap := by
  obtain ⟨h1, (⟨rfl, rfl⟩ | ⟨g, cap, cur, rfl, _⟩)⟩ := h
  · exact ⟨_, _, rfl⟩
  · exact ⟨_, _, rfl⟩
theorem owns_same {w w' : World} {base e sz n : Nat} {v : Value} {xs : List Value} (h : w.ownsRow base e sz v n xs) (hk : ∀ b, v.ownBlock = some b → w'.heap[b]? = w.heap[b]?) : w'.ownsRow base e sz v n xs := by
  obtain ⟨h1, (h2 | ⟨g, cap, cur, rfl, hg, hh, hr⟩)⟩ := h
  · exact ⟨h1, .inl h2⟩
  · exact ⟨h1, .inr ⟨g, cap, cur, rfl, hg, (hk g rfl).trans hh, hr⟩⟩

theorem Same.chg {D C : Nat → Prop} {χ : Col} {w w' : World} (c : Nat) (h : Chg χ C w w') (hd : ∀ x, D x → ¬ C x) : Same D χ (paint χ w.heap.size c) w w' :=
  fun b hb hc => ⟨paint_low hb, h.blk b hb (hd _ hc)⟩

/-- How one thing of Lean's lies in cells. -/
abbrev Rp (α : Type) := Col → World → List Value → α → Prop
/-- What a representation leans on: blocks of the colors in D. -/
def Rp.On {α : Type} (R : Rp α) (D : Nat → Prop) : Prop := ∀ χ χ' w w' cs x, R χ w cs x → Same D χ χ' w w' → R χ' w' cs x
def rInt (k : IntKind) : Rp Int := fun _ _ cs x => cs = [.int k x]
theorem rInt_on (k : IntKind) (D : Nat → Prop) : (rInt k).On D := fun _ _ _ _ _ _ h _ => h

/-- v is a slice of the things xs, each of sz cells, in a block of color c. -/
def IsL {α : Type} (sz : Nat) (R : Rp α) (c : Nat) (χ : Col) (w : World) (v : Value) (xs : List α) : Prop :=
  ∃ A cap, v = .slice A xs.length cap ∧ xs.length ≤ cap ∧ cap ≤ maxLen ∧ (xs.length ≤ 9223372036854775807 ∧ (A = none → cap = 0)) ∧
    ∀ i (h : i < xs.length), ∃ b o cs, A = some ⟨b, o, none⟩ ∧ χ b = c ∧ cs.length = sz ∧ R χ w cs xs[i] ∧ ∀ j (hj : j < cs.length), w.cell? ⟨b, o + i * sz + j, none⟩ = some cs[j]

theorem IsL.keep {α : Type} {sz c : Nat} {R : Rp α} {D : Nat → Prop} {χ χ' : Col} {w w' : World} {v : Value} {xs : List α} (hsz : 0 < sz)
    (hR : R.On D) (hc : D c) (h : IsL sz R c χ w v xs) (hs : Same D χ χ' w w') : IsL sz R c χ' w' v xs := by
  obtain ⟨A, cap, e, h1, h2, h3, h4⟩ := h
  refine ⟨A, cap, e, h1, h2, h3, fun i hi => ?_⟩
  obtain ⟨b, o, cs, eA, hb, hl, hr, hcell⟩ := h4 i hi
  have hlt : b < w.heap.size := by have := World.block_lt_of_cell? w _ (hcell 0 (by omega)); simpa using this
  obtain ⟨hx, hh⟩ := hs b hlt (by rw [hb]; exact hc)
  exact ⟨b, o, cs, eA, hx.trans hb, hl, hR _ _ _ _ _ _ hr hs, fun j hj => (World.cell?_of_block hh).trans (hcell j hj)⟩

/-- a slice, as an element. -/
def rSl {α : Type} (sz : Nat) (R : Rp α) (c : Nat) : Rp (List α) := fun χ w cs xs => ∃ v, cs = [v] ∧ IsL sz R c χ w v xs
theorem rSl_on {α : Type} {sz c : Nat} {R : Rp α} {D : Nat → Prop} (hsz : 0 < sz) (hR : R.On D) (hc : D c) : (rSl sz R c).On D := by
  rintro χ χ' w w' cs x ⟨v, e, h⟩ hs
  exact ⟨v, e, h.keep hsz hR hc hs⟩

/-- ints, of color c. -/
abbrev IsI (c : Nat) (χ : Col) (w : World) (v : Value) (xs : List Int) : Prop := IsL 1 (rInt .i64) c χ w v xs
/-- rows of ints: the outer one of color c, the inner ones of color d. -/
abbrev IsII (c d : Nat) (χ : Col) (w : World) (v : Value) (xs : List (List Int)) : Prop := IsL 1 (rSl 1 (rInt .i64) d) c χ w v xs

theorem IsI.keep {c : Nat} {χ χ' : Col} {w w' : World} {v : Value} {xs : List Int} (h : IsI c χ w v xs) (hs : Same (· = c) χ χ' w w') : IsI c χ' w' v xs :=
  IsL.keep (D := (· = c)) (by omega) (rInt_on _ _) rfl h hs
theorem IsII.keep {c d : Nat} {χ χ' : Col} {w w' : World} {v : Value} {xs : List (List Int)} (h : IsII c d χ w v xs) (hs : Same (fun x => x = c ∨ x = d) χ χ' w w') : IsII c d χ' w' v xs :=
  IsL.keep (D := fun x => x = c ∨ x = d) (by omega) (rSl_on (by omega) (rInt_on _ _) (.inr rfl)) (.inl rfl) h hs

/-- an int of a slice, as the walk spells it. -/
theorem IsL.getI {k : IntKind} {c : Nat} {χ : Col} {w : World} {A : Option Addr} {cap n : Nat} {xs : List Int} (h : IsL 1 (rInt k) c χ w (.slice A n cap) xs) (i : Nat) (hi : i < xs.length) :
    ∃ b o, A = some ⟨b, o, none⟩ ∧ w.cell? ⟨b, o + i, none⟩ = some (.int k xs[i]) := by
  obtain ⟨A', c', e, h1, h2, h3, h4⟩ := h
  cases e
  obtain ⟨b, o, cs, e, hb, hl, hr, hc⟩ := h4 i hi
  cases hr
  exact ⟨b, o, e, by simpa using hc 0 (by simp)⟩
/-- a row of a slice of slices. -/
theorem IsL.getS {α : Type} {R : Rp α} {sz c d : Nat} {χ : Col} {w : World} {A : Option Addr} {cap n : Nat} {xs : List (List α)} (h : IsL 1 (rSl sz R d) c χ w (.slice A n cap) xs) (i : Nat) (hi : i < xs.length) :
    ∃ b o v, A = some ⟨b, o, none⟩ ∧ w.cell? ⟨b, o + i, none⟩ = some v ∧ IsL sz R d χ w v xs[i] := by
  obtain ⟨A', c', e, h1, h2, h3, h4⟩ := h
  cases e
  obtain ⟨b, o, cs, e, hb, hl, ⟨v, rfl, hv⟩, hc⟩ := h4 i hi
  exact ⟨b, o, v, e, by simpa using hc 0 (by simp), hv⟩

theorem IsL.tail {k : IntKind} {c cap : Nat} {χ : Col} {w : World} {b o : Nat} {x0 : Int} {x : List Int} (h : IsL 1 (rInt k) c χ w (.slice (some ⟨b, o, none⟩) (x0 :: x).length cap) (x0 :: x)) :
    IsL 1 (rInt k) c χ w (.slice (if cap = 1 then some ⟨b, o, none⟩ else some ⟨b, o + 1, none⟩) x.length (cap - 1)) x := by
  obtain ⟨A', c', e, h1, h2, h3, h4⟩ := h
  cases e
  simp only [List.length_cons] at h1 h3
  by_cases hc : cap = 1
  · have hx : x = [] := List.length_eq_zero_iff.1 (by omega)
    subst hx
    exact ⟨_, _, rfl, by simp, by omega, ⟨by simp, fun h => by split at h <;> cases h⟩, fun i hi => by simp at hi⟩
  · rw [if_neg hc]
    refine ⟨_, _, rfl, by omega, by omega, ⟨by omega, fun h => by cases h⟩, fun i hi => ?_⟩
    obtain ⟨b', o', cs, e, hb, hl, hr, hcell⟩ := h4 (i + 1) (by simp; omega)
    cases e
    exact ⟨b, o + 1, cs, rfl, hb, hl, by simpa using hr, fun j hj => by rw [show o + 1 + i * 1 + j = o + (i + 1) * 1 + j by omega]; exact hcell j hj⟩

/-- what the call owns, as a slice of things. -/
theorem IsL.of_owns {α : Type} {sz c base e : Nat} {R : Rp α} {χ : Col} {w : World} {v : Value} {xs : List α} {cells : List Value} (hsz : 0 < sz)
    (h : w.ownsRow base e sz v xs.length cells) (hl : xs.length ≤ 9223372036854775807) (hc : ∀ b, v.ownBlock = some b → χ b = c)
    (hr : ∀ i (hi : i < xs.length), R χ w ((cells.drop (i * sz)).take sz) xs[i]) : IsL sz R c χ w v xs := by
  obtain ⟨hlen, (⟨rfl, hn⟩ | ⟨g, cap, cur, rfl, hg, hh, hcap, hmax, hcs, htk⟩)⟩ := id h
  · have : xs = [] := List.length_eq_zero_iff.1 hn
    subst this
    exact ⟨none, 0, rfl, by simp, by simp, ⟨by simp, fun _ => rfl⟩, fun i hi => by simp at hi⟩
  · refine ⟨_, _, rfl, hcap, hmax, ⟨hl, fun h => by cases h⟩, fun i hi => ?_⟩
    have hbd : i * sz + sz ≤ cells.length := by
      rw [hlen]
      have := Nat.mul_le_mul_right sz (show i + 1 ≤ xs.length by omega)
      rw [Nat.add_mul] at this; omega
    have hcl : ((cells.drop (i * sz)).take sz).length = sz := by simp; omega
    refine ⟨g, 0, _, rfl, hc g rfl, hcl, hr i hi, fun j hj => ?_⟩
    have := h.cells (g := g) rfl (i * sz + j) (((cells.drop (i * sz)).take sz)[j]) (by
      rw [List.getElem_take, List.getElem_drop]; exact List.getElem?_eq_getElem _)
    have e : (⟨g, 0, none⟩ : Addr).add (i * sz + j) = ⟨g, 0 + i * sz + j, none⟩ := by
      simp only [Addr.add]; split <;> simp_all
    rwa [e] at this

def Rp.One {α : Type} (R : Rp α) : Prop := ∀ χ w cs x, R χ w cs x → ∀ u ∈ cs, u.oneCell' = true
theorem rInt_one (k : IntKind) : (rInt k).One := by rintro χ w cs x rfl u hu; simp at hu; subst hu; rfl
theorem rSl_one {α : Type} {sz c : Nat} {R : Rp α} : (rSl sz R c).One := by
  rintro χ w cs x ⟨v, rfl, A, cap, rfl, _⟩ u hu; simp at hu; subst hu; rfl

/-- the cells of a slice, one behind the other. -/
theorem IsL.cells {α : Type} {sz c : Nat} {R : Rp α} {χ : Col} {w : World} {b o n cap : Nat} {xs : List α} (hsz : 0 < sz) (h1 : R.One)
    (h : IsL sz R c χ w (.slice (some ⟨b, o, none⟩) n cap) xs) :
    ∃ cells : List Value, cells.length = n * sz ∧ n = xs.length ∧ (∀ j u, cells[j]? = some u → w.cell? ((⟨b, o, none⟩ : Addr).add j) = some u) ∧ (∀ u ∈ cells, u.oneCell' = true) ∧
      ∀ i (hi : i < xs.length), R χ w ((cells.drop (i * sz)).take sz) xs[i] := by
  obtain ⟨A, cap', e, hc1, hc2, hc3, h4⟩ := h
  cases e
  have hadd : ∀ j, (⟨b, o, none⟩ : Addr).add j = ⟨b, o + j, none⟩ := fun j => by simp only [Addr.add]; split <;> simp_all
  have key : ∀ j, j < xs.length * sz → ∃ u, w.cell? ⟨b, o + j, none⟩ = some u ∧ u.oneCell' = true := fun j hj => by
    have hd : j / sz < xs.length := Nat.div_lt_of_lt_mul (by rw [Nat.mul_comm]; exact hj)
    obtain ⟨b', o', cs, e, _, hl, hr, hcell⟩ := h4 (j / sz) hd
    cases e
    have hm : j % sz < cs.length := by rw [hl]; exact Nat.mod_lt _ hsz
    refine ⟨cs[j % sz], ?_, h1 _ _ _ _ hr _ (List.getElem_mem hm)⟩
    have := hcell (j % sz) hm
    rwa [show o + j / sz * sz + j % sz = o + j by have := Nat.div_add_mod j sz; rw [Nat.mul_comm] at this; omega] at this
  refine ⟨(List.range (xs.length * sz)).map fun j => (w.cell? ⟨b, o + j, none⟩).getD undef, by simp, rfl, ?_, ?_, ?_⟩
  · intro j u hj
    simp only [List.getElem?_map, Option.map_eq_some_iff] at hj
    obtain ⟨j', hj', rfl⟩ := hj
    obtain ⟨hlt, hje⟩ := List.getElem?_eq_some_iff.1 hj'
    simp only [List.length_range, List.getElem_range] at hlt hje
    subst hje
    obtain ⟨u, hu, _⟩ := key j hlt
    rw [hadd, hu]; rfl
  · intro u hu
    simp only [List.mem_map, List.mem_range] at hu
    obtain ⟨j, hj, rfl⟩ := hu
    obtain ⟨u, hu, h⟩ := key j hj
    rw [hu]; exact h
  · intro i hi
    obtain ⟨b', o', cs, e, _, hl, hr, hcell⟩ := h4 i hi
    cases e
    have hbd : i * sz + sz ≤ xs.length * sz := by
      have := Nat.mul_le_mul_right sz (show i + 1 ≤ xs.length by omega)
      rw [Nat.add_mul] at this; omega
    have : (((List.range (xs.length * sz)).map fun j => (w.cell? ⟨b, o + j, none⟩).getD undef).drop (i * sz)).take sz = cs := by
      apply List.ext_getElem
      · simp; omega
      · intro j hj1 hj2
        simp only [List.getElem_take, List.getElem_drop, List.getElem_map, List.getElem_range]
        rw [← Nat.add_assoc, hcell j hj2]; rfl
    rw [this]; exact hr

theorem Chg.below {χ : Col} {C : Nat → Prop} {w w' : World} {n : Nat} (h : Chg χ C w w') (hn : ∀ b, b < n → ¬ C (χ b)) (hs : n ≤ w.heap.size) : Below n w w' :=
  ⟨h.os, h.tape, h.output, h.size, fun b hb => h.blk b (by omega) (hn b hb)⟩

/-- Behind an append to a row of the call's own, of color c: the new blocks are c's. -/
theorem own_push {χ : Col} {c : Nat} {W w1 : World} {base e sz n : Nat} {v v' : Value} {xs : List Value} {o : Obj} (h : W.ownsRow base e sz v n xs) (hc : ∀ b, v.ownBlock = some b → χ b = c)
    (hg : (W.alloc o).grownBy w1 v.ownBlock) (hat : v'.ownBlock = v.ownBlock ∨ v'.ownBlock = some (W.alloc o).heap.size) :
    (∀ b, v'.ownBlock = some b → paint χ W.heap.size c b = c) ∧ Chg χ (· = c) W w1 := by
  refine ⟨fun b e => ?_, ⟨hg.os, hg.tape, hg.output, by have := hg.size; simp at this; omega, fun b hb hcb => ?_⟩⟩
  · rcases hat with h1 | h1
    · rw [h1] at e
      rw [paint_low (h.lt b e).2]; exact hc b e
    · rw [h1] at e
      have := Option.some.inj e
      exact paint_high (by simp at this; omega)
  · exact (hg.block b (by simp; omega) (fun e => hcb (hc b e.symm))).trans (Below.heap_alloc _ _ _ hb)

/-- a literal's block, as a slice of ints. -/
theorem isI_at {w : World} {b n : Nat} {c : Nat} {χ : Col} {t : TypeId} {fr : Nat × Nat} (xs : List Int) (h : w.heap[b]? = some (.cells (xs.map (Value.int .i64)).toArray t fr)) (hc : χ b = c) (hn : n = xs.length) (hl : xs.length ≤ 1000000) :
    IsI c χ w (.slice (some ⟨b, 0, none⟩) n n) xs := by
  subst hn
  refine ⟨_, _, rfl, Nat.le_refl _, by unfold maxLen; omega, ⟨by omega, fun h => by cases h⟩, fun i hi => ⟨b, 0, [.int .i64 xs[i]], rfl, hc, rfl, rfl, fun j hj => ?_⟩⟩
  have hj0 : j = 0 := by simpa using hj
  subst hj0
  simp [World.cell?, h, hi]
theorem below_lit {W W2 : World} {o : Obj} (h : Below (W.alloc o).heap.size (W.alloc o) W2) : Below W.heap.size W W2 :=
  ((Below.refl _ W).alloc (Nat.le_refl _) o).trans (h.mono (by simp))
theorem quiet_below {W W2 : World} (h : ∃ d, W2 = W.drewN d) : Below W.heap.size W W2 := by
  obtain ⟨d, rfl⟩ := h; exact below_drewN _ _ _
theorem same_below {W W2 : World} (h : W2 = W) : Below W.heap.size W W2 := by subst h; exact Below.refl _ _
/-- a literal of ints, just laid. -/
theorem isI_lit {w : World} {b n : Nat} {t : TypeId} (xs : List Int) (hb : b = w.heap.size) (hn : n = xs.length) (hl : xs.length ≤ 1000000) :
    IsI 0 (fun _ => 0) (w.alloc (.cells (xs.map (Value.int .i64)).toArray t)) (.slice (some ⟨b, 0, none⟩) n n) xs :=
  isI_at xs (fr := (0, 0)) (t := t) (by subst hb; show (w.heap.push _)[_]? = _; simp) rfl hn hl
theorem IsI.alloc {c : Nat} {χ : Col} {w : World} {v : Value} {xs : List Int} (h : IsI c χ w v xs) (o : Obj) : IsI c χ (w.alloc o) v xs :=
  h.keep (Same.below' ((Below.refl _ w).alloc (Nat.le_refl _) o))
theorem heap_alloc_at (w : World) (o : Obj) : (w.alloc o).heap[w.heap.size]? = some o := by
  show (w.heap.push o)[w.heap.size]? = _; simp


/-- A cell of a row of one's own is stored to. -/
theorem owns_setCell {w : World} {base e sz n g cap o : Nat} {xs : List Value} {v : Value} (h : w.ownsRow base e sz (.slice (some ⟨g, 0, none⟩) n cap) n xs) :
    (w.setCell ⟨g, o, none⟩ v).ownsRow base e sz (.slice (some ⟨g, 0, none⟩) n cap) n (xs.set o v) := by
  obtain ⟨k1, (⟨e, h0⟩ | ⟨g', cap', cur, e, hg, hh, hcap, hmax, hsz, htk⟩)⟩ := id h
  · cases e
  · cases e
    refine ⟨by simpa using k1, .inr ⟨g, cap, cur.setIfInBounds o v, rfl, hg, ?_, hcap, hmax, by simpa using hsz, ?_⟩⟩
    · simp only [World.setCell, Array.getElem?_modify]
      simp [hh]
    · rw [Array.toList_setIfInBounds, ← htk, List.take_set]
/-- A store into a block of the color c. -/
theorem Chg.setCell {χ : Col} {C : Nat → Prop} (w : World) (a : Addr) (v : Value) (hc : C (χ a.block)) : Chg χ C w (w.setCell a v) :=
  ⟨rfl, rfl, rfl, by simp [World.setCell], fun b hb hn => Below.heap_setCell _ _ _ _ (fun e => hn (by rw [e]; exact hc))⟩
theorem Chg.drew {χ : Col} {C : Nat → Prop} {w w' : World} (h : Chg χ C w w') : Chg χ C w w'.drew := by
  obtain ⟨h1, h2, h3, h4, h5⟩ := h
  exact ⟨h1, h2, h3, h4, h5⟩
theorem Chg.step {χ : Col} {C : Nat → Prop} {w w1 w2 : World} (h : Chg χ C w w1) (k : Chg χ C w1 w2) : Chg χ C w w2 := h.trans (fun _ _ => rfl) k
theorem owns_drew {w : World} {base e sz n : Nat} {v : Value} {xs : List Value} (h : w.ownsRow base e sz v n xs) : w.drew.ownsRow base e sz v n xs := owns_same h fun _ _ => rfl
end Go.Proofs.Ytipdmnfkigoanaa
