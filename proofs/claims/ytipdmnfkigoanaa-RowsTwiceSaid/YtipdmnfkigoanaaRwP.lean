import Derived.Test.YtipdmnfkigoanaaRwO
import Derived.Test.YtipdmnfkigoanaaOpn
import Derived.ChangeSame
import Derived.Lib.SmallJoins
namespace Go.Proofs.Ytipdmnfkigoanaa
open Go.ChangeShapes Go.WideShapes Go.ChangeAt Go.RowKit Go.Deep Go.Maps

/-! The steps of a law. -/
structure OpR where
  kind : Int
  c : Cl
def rOpR : Rp OpR := fun _ _ cs x => cs = [.int .i64 x.kind, .int .i64 x.c.lab, .int .u32 x.c.key]
theorem rOpR_on (D : Nat → Prop) : rOpR.On D := fun _ _ _ _ _ _ h _ => h
set_option maxRecDepth 100000 in
theorem tells_opR {H : Type} {enc : TypeId × Value → H} {w : World} : Tells H enc w 38 3 rOpR := by
  intro fuel cs d hl h
  match cs, hl with
  | [c0, c1, c2], _ =>
    obtain ⟨y0, y1, n, -, -, h0, h1⟩ := trod_struct2 Try.underlying38 h
    obtain ⟨z0, z1, m, -, -, g0, g1⟩ := trod_struct2 Try.underlying36 h1
    obtain ⟨n0, e0, _, w0⟩ := DataW.trod_int Try.underlying3 h0
    obtain ⟨n1, e1, _, w1⟩ := DataW.trod_int Try.underlying3 g0
    obtain ⟨n2, e2, _, w2⟩ := DataW.trod_int Try.underlying34 g1
    obtain ⟨m2, rfl, q2⟩ := u32_nat w2
    have f0 : [c0] = [Value.int .i64 n0] := e0
    have f1 : [c1] = [Value.int .i64 n1] := e1
    have f2 : [c2] = [Value.int .u32 (m2 : Int)] := e2
    exact ⟨⟨n0, n1, m2, w1, q2⟩, by injection f0 with f0; injection f1 with f1; injection f2 with f2; rw [f0, f1, f2]; rfl⟩
abbrev IsO (w : World) (v : Value) (xs : List OpR) : Prop := IsL 3 rOpR 0 (fun _ => 0) w v xs
theorem IsO.keep {w w' : World} {v : Value} {l : List OpR} (h : IsO w v l) (hb : Below w.heap.size w w') : IsO w' v l := IsL.keep (D := fun _ => True) (by omega) (rOpR_on _) trivial h (Same.below' hb)
theorem IsO.get {w : World} {A : Option Addr} {cap n : Nat} {l : List OpR} (h : IsO w (.slice A n cap) l) (i : Nat) (hi : i < l.length) :
    ∃ b o, A = some ⟨b, o, none⟩ ∧ w.cell? ⟨b, o + i * 3, none⟩ = some (.int .i64 l[i].kind) ∧ w.cell? ⟨b, o + i * 3 + 1, none⟩ = some (.int .i64 l[i].c.lab) ∧ w.cell? ⟨b, o + i * 3 + 2, none⟩ = some (.int .u32 l[i].c.key) := by
  obtain ⟨A', c', e, h1, h2, h3, h4⟩ := h
  cases e
  obtain ⟨b, o, cs, e, hb, hl, rfl, hc⟩ := h4 i hi
  exact ⟨b, o, e, hc 0 (by simp), hc 1 (by simp), hc 2 (by simp)⟩
/-! What putting does to the number of rows. -/
theorem verO_some_iff {L : RL} {x : Cl} : (verO L x).isSome = true ↔ x ∈ L.map (·.1) := verO_isSome
theorem put2_len {L : RL} {last : Nat} (h : RwL L last) (x : Cl) : (putR x (last + 1 + 1 : Nat) (putR x (last + 1 : Nat) (dropR x L))).length = if (verO L x).isSome then L.length else L.length + 1 := by
  have h3 := ((h.drop x).put x).put x
  have c3 := verO_card h3.nd
  have c1 := (verO_card h.nd).upd x 0
  refine c3.uniq c1 fun y => ?_
  rw [verO_put, verO_put, verO_drop]
  unfold upd era
  by_cases e : y = x
  · rw [if_pos e, if_pos e]; rfl
  · rw [if_neg e, if_neg e, if_neg e, if_neg e]
theorem put2_ver {L : RL} {a b : Int} (x y : Cl) (h : y ≠ x) : verO (putR x b (putR x a (dropR x L))) y = verO L y := by
  rw [verO_put, verO_put, verO_drop]
  unfold upd era
  rw [if_neg h, if_neg h, if_neg h]
theorem put2_at {L : RL} {b : Int} (x : Cl) : verO (putR x b L) x = some b := by rw [verO_put]; exact if_pos rfl
theorem add2 (ev : List Cl) (x : Cl) : addR x (addR x ev) = addR x ev := by
  have : x ∈ addR x ev := by unfold addR; split <;> simp_all
  show (if x ∈ addR x ev then _ else _) = _
  rw [if_pos this]
theorem add_mem (ev : List Cl) (x : Cl) : x ∈ addR x ev := by unfold addR; split <;> simp_all
theorem add_length (ev : List Cl) (x : Cl) : (addR x ev).length = if x ∈ ev then ev.length else ev.length + 1 := by unfold addR; split <;> simp
end Go.Proofs.Ytipdmnfkigoanaa
