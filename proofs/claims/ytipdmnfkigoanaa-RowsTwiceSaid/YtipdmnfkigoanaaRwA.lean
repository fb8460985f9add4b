import Derived.Test.YtipdmnfkigoanaaMpB
import Derived.Test.YtipdmnfkigoanaaCel
import Derived.DeepKeys4
namespace Go.Proofs.Ytipdmnfkigoanaa
open Go.RowKit Go.Maps

/-! Cells, as the keys of a map. -/
/-- A cell: a label's number, and a key. -/
structure Cl where
  lab : Int
  key : Nat
  wl : (Lit.int .i64 lab).wf = true
  wk : key < 4294967296
theorem Cl.eq {a b : Cl} (h1 : a.lab = b.lab) (h2 : a.key = b.key) : a = b := by cases a; cases b; simp at h1 h2; subst h1 h2; rfl
instance : DecidableEq Cl := fun a b => if h : a.lab = b.lab ∧ a.key = b.key then .isTrue (Cl.eq h.1 h.2) else .isFalse fun e => h (by subst e; exact ⟨rfl, rfl⟩)
abbrev cv (x : Cl) : Value := .agg #[.int .i64 x.lab, .int .u32 x.key]
theorem cv_inj {x y : Cl} (h : cv x = cv y) : x = y := by
  have h1 : x.lab = y.lab ∧ ((x.key : Int) = y.key) := by simpa using h
  exact Cl.eq h1.1 (by omega)
theorem wf_u32 {k : Nat} (h : k < 4294967296) : (Lit.int .u32 k).wf = true := by
  simp [Lit.wf, IntKind.min, IntKind.max, IntKind.signed, IntKind.bits]; omega
theorem laidOutCl : laidOutB Try.prog = true := by kernel_rfl
theorem rowCl : (36 : TypeId) < Try.prog.types.size := of_decide_eq_true (by kernel_rfl)
theorem wideCl : (match Try.prog.underlying 36 with | some (.array _ _) | some (.struct _) => true | _ => false) = true := by rw [Try.underlying36]
set_option maxRecDepth 100000 in
theorem keyedCl : Keyed Try.prog 36 := Keyed.of_law (deep_law_laid laidOutCl (m := 3) (by omega) rowCl (by kernel_rfl) wideCl)
theorem typesCl : ∃ m, Try.prog.types.size = m + 1 := ⟨_, (Nat.succ_pred_eq_of_pos (Nat.lt_of_le_of_lt (Nat.zero_le _) rowCl)).symm⟩
theorem cellsCl : Try.prog.cellsOf 36 = 2 := by kernel_rfl
theorem keyTypeCl : Try.prog.keyType 36 = true := by kernel_rfl
theorem cellsOfI : Try.prog.cellsOf 3 = 1 := by kernel_rfl
theorem cellsOfU : Try.prog.cellsOf 34 = 1 := by kernel_rfl
def klCl (x : Cl) : Lit := .string (keyBytes [.int .i64 x.lab, .int .u32 x.key])
set_option maxRecDepth 100000 in
theorem rdCl (x : Cl) : keyOf Try.prog 36 (cv x) = some (klCl x) := by
  obtain ⟨m, hm⟩ := typesCl
  have h1 : (cv x).formed Try.prog 36 = true := by simp [Value.formed, Try.underlying36, cellsCl]
  have hl := x.wl
  have hk := wf_u32 x.wk
  unfold keyOf
  rw [Try.underlying36]
  simp only [keyTypeCl, h1, Bool.and_self, if_true, hm]
  simp [Value.cells, Program.keyLits, Try.underlying36, Try.underlying3, Try.underlying34, cellsCl, cellsOfI, cellsOfU, hl, hk, klCl]
theorem kl_int {m : Nat} {t : TypeId} {q : IntKind} (ht : Try.prog.underlying t = some (.int q)) {a : Value} {L : List Lit} (h : Try.prog.keyLits (m + 1) t [a] = some L) : ∃ n, a = .int q n ∧ (Lit.int q n).wf = true ∧ L = [.int q n] := by
  simp only [Program.keyLits, ht] at h
  split at h <;> simp_all
set_option maxRecDepth 100000 in
theorem invCl (v : Value) (l : Lit) (h : keyOf Try.prog 36 v = some l) : ∃ x, True ∧ v = cv x ∧ l = klCl x := by
  obtain ⟨xs, L, rfl, h1, rfl⟩ := keyOf_top wideCl h
  obtain ⟨m, hm⟩ := typesCl
  obtain ⟨d, hd⟩ : ∃ d, d = m + 1 := ⟨_, rfl⟩
  rw [hm, ← hd] at h1
  simp only [Program.keyLits, Try.underlying36, cellsCl] at h1
  split at h1
  · rename_i hc
    obtain ⟨a, b, rfl⟩ : ∃ a b, xs = #[a, b] := by
      rcases xs with ⟨l⟩
      match l, hc.1 with
      | [a, b], _ => exact ⟨a, b, rfl⟩
    simp [cellsOfI, cellsOfU] at h1
    cases ha : Try.prog.keyLits d 3 [a] with
    | none => rw [ha] at h1; simp at h1
    | some La =>
      cases hb : Try.prog.keyLits d 34 [b] with
      | none => rw [ha, hb] at h1; simp at h1
      | some Lb =>
        rw [ha, hb] at h1
        subst hd
        obtain ⟨n, rfl, hn, rfl⟩ := kl_int Try.underlying3 ha
        obtain ⟨k0, rfl, hk0, rfl⟩ := kl_int Try.underlying34 hb
        obtain ⟨k, rfl, hk⟩ := u32_nat hk0
        simp at h1
        subst h1
        exact ⟨⟨n, k, hn, hk⟩, trivial, rfl, rfl⟩
  · cases h1
noncomputable def krC : Kr Cl 36 where
  kv := cv
  kl := klCl
  ok := fun _ => True
  rd := fun x _ => rdCl x
  inv := invCl
  inj := fun x y _ _ h => cv_inj (keyedCl.inj (rdCl x) (by rw [h]; exact rdCl y))
  keyed := keyedCl
noncomputable def erV : Er Int := Er.of (fun x => .int .i64 x) fun s t e => by cases e; rfl
noncomputable def erB : Er Bool := Er.of (fun x => .bool x) fun s t e => by cases e; rfl
theorem zeroV (w : World) : (zeroValue 3).run Try.prog w = .ok (erV.val 0) w := by show _ = Result.ok (Value.int .i64 0) w; kernel_rfl
theorem zeroB (w : World) : (zeroValue 4).run Try.prog w = .ok (erB.val false) w := by show _ = Result.ok (Value.bool false) w; kernel_rfl

/-! A map that may be nil. -/
section
variable {κ S : Type} {k e t : TypeId} {Kk : Kr κ k} {E : Er S} {w w' : World} {m : Value} {n : Nat} {F : κ → Option S}
/-- m is a map that holds F: nil, if nothing was put yet. -/
def MapV (Kk : Kr κ k) (E : Er S) (w : World) (m : Value) (n : Nat) (F : κ → Option S) : Prop := (m = .map none ∧ n = 0 ∧ F = fun _ => none) ∨ ∃ b, m = .map (some b) ∧ MapF Kk E w b n F
theorem MapV.below (h : MapV Kk E w m n F) (hb : ∀ b, m = .map (some b) → w'.heap[b]? = w.heap[b]?) : MapV Kk E w' m n F := by
  rcases h with h | ⟨b, e, h⟩
  · exact .inl h
  · exact .inr ⟨b, e, h.below (hb b e)⟩
theorem MapV.lt (h : MapV Kk E w m n F) {b : Nat} (e : m = .map (some b)) : b < w.heap.size := by
  rcases h with ⟨e2, -⟩ | ⟨b', e2, h⟩
  · rw [e] at e2; cases e2
  · rw [e] at e2; cases e2; exact h.lt
theorem look_nil (ht : Try.prog.underlying t = some (.map k e)) {z : Value} (hz : (zeroValue e).run Try.prog w = .ok z w) {x : κ} (hx : Kk.ok x) (c : Bool) :
    (Instr.lookup t (.map none) (Kk.kv x) c).run Try.prog w = .ok (if c then .tuple #[z, .bool false] else z) w := by
  have hc := Kk.keyed.check w true (Kk.rd x hx)
  have hf := (Kk.keyed.find w (Kk.rd x hx) [] (fun e h => by cases h))
  rcases hf with ⟨hf, -⟩ | ⟨j, e0, -, h, -⟩
  · simp [Instr.lookup, run_underlying ht, hc, hf, hz, Result.andThen]
  · cases h
theorem MapV.look (h : MapV Kk E w m n F) (ht : Try.prog.underlying t = some (.map k e)) (z : S) (hz : (zeroValue e).run Try.prog w = .ok (E.val z) w) {x : κ} (hx : Kk.ok x) :
    (Instr.lookup t m (Kk.kv x) true).run Try.prog w = .ok (.tuple #[E.val ((F x).getD z), .bool (F x).isSome]) w := by
  rcases h with ⟨rfl, -, rfl⟩ | ⟨b, rfl, h⟩
  · rw [look_nil ht hz hx]; rfl
  · exact h.look ht z hz hx
theorem MapV.look1 (h : MapV Kk E w m n F) (ht : Try.prog.underlying t = some (.map k e)) (z : S) (hz : (zeroValue e).run Try.prog w = .ok (E.val z) w) {x : κ} (hx : Kk.ok x) :
    (Instr.lookup t m (Kk.kv x) false).run Try.prog w = .ok (E.val ((F x).getD z)) w := by
  rcases h with ⟨rfl, -, rfl⟩ | ⟨b, rfl, h⟩
  · rw [look_nil ht hz hx]; rfl
  · exact h.look1 ht z hz hx
theorem MapV.len (h : MapV Kk E w m n F) (ht : Try.prog.underlying t = some (.map k e)) : ∃ c : Nat, Card F c ∧ c ≤ n ∧ ∀ ty, (Builtin.len_ #[t] ty #[m]).run Try.prog w = .ok (.int .i64 c) w := by
  rcases h with ⟨rfl, rfl, rfl⟩ | ⟨b, rfl, h⟩
  · exact ⟨0, ⟨[], .nil, fun x => by simp, rfl⟩, Nat.le_refl _, fun ty => Maps.len_nil ht ty⟩
  · exact h.len ht
end
end Go.Proofs.Ytipdmnfkigoanaa
