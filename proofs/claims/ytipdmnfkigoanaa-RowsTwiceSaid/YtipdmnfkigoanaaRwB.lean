import Derived.Test.YtipdmnfkigoanaaRwA
import Derived.WideKeyEntry
namespace Go.Proofs.Ytipdmnfkigoanaa
open Go.RowKit Go.Maps

/-! 'm[k] = v' beside another: first the entry, then the store. -/
theorem grown_setBlock {w : World} {b : Nat} (o : Obj) : w.grownBy (ChangeMaps.setBlock w b o) (some b) :=
  ⟨rfl, rfl, rfl, by simp [ChangeMaps.setBlock], fun k _ hk => by
    have : b ≠ k := fun e => hk (by rw [e])
    simp [ChangeMaps.setBlock, this]⟩
set_option maxRecDepth 100000 in
theorem lawCl : WideMaps.KeyLaw Try.prog 36 := deep_law_laid laidOutCl (m := 3) (by omega) rowCl (by kernel_rfl) wideCl
theorem MapF.entry {S : Type} {E : Er S} {w : World} {b n : Nat} {F : Cl → Option S} {t e : TypeId} (h : MapF krC E w b n F) (ht : Try.prog.underlying t = some (.map 36 e)) (hn : n < maxLen) (z : Value) (hz : ∀ u : World, (zeroValue e).run Try.prog u = .ok z u) (x : Cl) (s : S) :
    ∃ (v0 : Value) (st : Nat) (W1 : World), (Instr.mapEntry t (.map (some b)) (cv x)).run Try.prog w = .ok (.tuple #[v0, .int .i64 st]) W1 ∧ w.grownBy W1 (some b) ∧
      ∃ W2, (Instr.entryStore t (.map (some b)) (.int .i64 st) (E.val s)).run Try.prog W1 = .ok () W2 ∧ MapF krC E W2 b (n + 1) (upd F x s) ∧ W1.grownBy W2 (some b) := by
  obtain ⟨w', hrun, hM, -⟩ := h.put_run ht hn (x := x) trivial s
  obtain ⟨D, h1, h2⟩ := id h
  obtain ⟨es, clock, hb, Ft, -, -⟩ := id h1
  obtain ⟨v0, st, es1, clock1, e1, -, e3⟩ := WideElems.entry_then_store lawCl ht hz hb Ft (rdCl x)
  have hlt := (Array.getElem?_eq_some_iff.1 hb).1
  have hW : (ChangeMaps.setBlock w b (.map es1 clock1)).heap[b]? = some (.map es1 clock1) := by simp [ChangeMaps.setBlock, hlt]
  obtain ⟨es', clock', e4, e5⟩ := e3 _ (E.val s) hW
  have hw' : w' = ChangeMaps.setBlock w b (.map es' clock') := by
    have e5 : (Instr.mapUpdate t (.map (some b)) (krC.kv x) (E.val s)).run Try.prog w = .ok () (ChangeMaps.setBlock w b (.map es' clock')) := e5
    rw [hrun] at e5
    exact (Result.ok.inj e5).2
  refine ⟨v0, st, _, e1, grown_setBlock _, _, e4, hM.below ?_, grown_setBlock _⟩
  rw [hw']
  simp [ChangeMaps.setBlock, hlt]

/-! Rows, as a list of cells with their versions. -/
abbrev RL := List (Cl × Int)
def verO (L : RL) (x : Cl) : Option Int := (L.find? fun p => decide (p.1 = x)).map (·.2)
def evO (ev : List Cl) (x : Cl) : Option Bool := if x ∈ ev then some true else none
def dropR (x : Cl) (L : RL) : RL := L.filter fun p => decide (p.1 ≠ x)
def putR (x : Cl) (v : Int) (L : RL) : RL := dropR x L ++ [(x, v)]
def addR (x : Cl) (ev : List Cl) : List Cl := if x ∈ ev then ev else ev ++ [x]
/-- The cells are told apart; the versions rise. -/
structure RwL (L : RL) (last : Nat) : Prop where
  nd : (L.map (·.1)).Nodup
  up : L.Pairwise fun p q => p.2 < q.2
  rng : ∀ p ∈ L, 1 ≤ p.2 ∧ p.2 ≤ last
theorem verO_nil : verO [] = fun _ => none := rfl
theorem verO_mem {L : RL} {x : Cl} {v : Int} (h : verO L x = some v) : (x, v) ∈ L := by
  unfold verO at h
  cases hf : L.find? (fun p => decide (p.1 = x)) with
  | none => rw [hf] at h; cases h
  | some p =>
    rw [hf] at h
    have h1 := List.find?_some hf
    have h2 := List.mem_of_find?_eq_some hf
    simp at h h1
    rw [← h, ← h1]; exact h2
theorem verO_of {L : RL} (hn : (L.map (·.1)).Nodup) {x : Cl} {v : Int} (h : (x, v) ∈ L) : verO L x = some v := by
  induction L with
  | nil => cases h
  | cons p L ih =>
    rw [List.map_cons, List.nodup_cons] at hn
    unfold verO
    rw [List.find?_cons]
    rcases List.mem_cons.1 h with rfl | h
    · simp
    · have : p.1 ≠ x := fun e => hn.1 (by rw [e]; exact List.mem_map.2 ⟨_, h, rfl⟩)
      rw [show decide (p.1 = x) = false by simpa using this]
      exact ih hn.2 h
theorem verO_iff {L : RL} (hn : (L.map (·.1)).Nodup) {x : Cl} {v : Int} : verO L x = some v ↔ (x, v) ∈ L := ⟨verO_mem, verO_of hn⟩
theorem verO_isSome {L : RL} {x : Cl} : (verO L x).isSome = true ↔ x ∈ L.map (·.1) := by
  constructor
  · intro h
    obtain ⟨v, hv⟩ := Option.isSome_iff_exists.1 h
    exact List.mem_map.2 ⟨_, verO_mem hv, rfl⟩
  · intro h
    obtain ⟨p, hp, rfl⟩ := List.mem_map.1 h
    unfold verO
    cases hf : L.find? (fun q => decide (q.1 = p.1)) with
    | none => have := List.find?_eq_none.1 hf p hp; simp at this
    | some q => rfl
theorem verO_drop (L : RL) (x : Cl) : verO (dropR x L) = era (verO L) x := by
  funext y
  unfold verO dropR era
  rw [List.find?_filter]
  by_cases e : y = x
  · subst e
    rw [if_pos rfl, List.find?_eq_none.2]
    · rfl
    · intro p _; simp
  · rw [if_neg e]
    congr 2
    funext p
    by_cases e2 : p.1 = y
    · subst e2; simp [e]
    · simp [e2]
theorem verO_put (L : RL) (x : Cl) (v : Int) : verO (putR x v L) = upd (verO L) x v := by
  have h := verO_drop L x
  funext y
  have hy := congrFun h y
  unfold putR upd
  unfold era at hy
  unfold verO at hy ⊢
  rw [List.find?_append, Option.map_or, hy]
  by_cases e : y = x
  · subst e; simp
  · rw [if_neg e, if_neg e]
    rw [show (List.find? (fun p : Cl × Int => decide (p.1 = y)) [(x, v)]) = none by simp [Ne.symm e]]
    simp
theorem verO_card {L : RL} (hn : (L.map (·.1)).Nodup) : Card (verO L) L.length := ⟨_, hn, fun x => verO_isSome.symm, by simp⟩
theorem evO_add (ev : List Cl) (x : Cl) : evO (addR x ev) = upd (evO ev) x true := by
  funext y
  unfold evO addR upd
  by_cases e : y = x
  · subst e
    rw [if_pos rfl, if_pos]
    split <;> simp_all
  · rw [if_neg e]
    congr 1
    split <;> simp [e]
theorem evO_card {ev : List Cl} (hn : ev.Nodup) : Card (evO ev) ev.length := ⟨ev, hn, fun x => by unfold evO; split <;> simp_all, rfl⟩
theorem addR_nodup {ev : List Cl} (hn : ev.Nodup) (x : Cl) : (addR x ev).Nodup := by
  unfold addR
  split
  · exact hn
  · rename_i h
    rw [List.nodup_append]
    exact ⟨hn, by simp, fun a ha b hb => by simp at hb; subst hb; exact fun e => h (e ▸ ha)⟩
theorem addR_len (ev : List Cl) (x : Cl) : (addR x ev).length ≤ ev.length + 1 := by unfold addR; split <;> simp
theorem RwL.drop {L : RL} {last : Nat} (h : RwL L last) (x : Cl) : RwL (dropR x L) last :=
  ⟨h.nd.sublist (List.filter_sublist.map _), h.up.filter _, fun p hp => h.rng p (List.mem_filter.1 hp).1⟩
theorem RwL.put {L : RL} {last : Nat} (h : RwL L last) (x : Cl) : RwL (putR x (last + 1 : Nat) L) (last + 1) := by
  have hd := h.drop x
  refine ⟨?_, ?_, ?_⟩
  · unfold putR
    rw [List.map_append, List.nodup_append]
    refine ⟨hd.nd, by simp, fun a ha b hb e => ?_⟩
    simp at hb
    subst hb e
    obtain ⟨p, hp, e⟩ := List.mem_map.1 ha
    have := (List.mem_filter.1 hp).2
    simp [e] at this
  · unfold putR
    rw [List.pairwise_append]
    refine ⟨hd.up, by simp, fun a ha b hb => ?_⟩
    simp at hb
    subst hb
    have := hd.rng a ha
    simp only; omega
  · intro p hp
    unfold putR at hp
    rcases List.mem_append.1 hp with hp | hp
    · have := hd.rng p hp; omega
    · simp at hp; subst hp; simp only; omega
theorem RwL.nil : RwL [] 0 := ⟨by simp, by simp, by simp⟩
end Go.Proofs.Ytipdmnfkigoanaa
