import Derived.Test.YtfapeemdlphjbaaDoorArK
import Derived.Test.YtfapeemdlphjbaaDoorArH
import Derived.Test.YtfapeemdlphjbaaDoorArE
import Derived.Test.YtfapeemdlphjbaaDoorArD
namespace Go.Proofs.YtfapeemdlphjbaaDoor
open Go.RowKit
attribute [local go_sem] World.cell?_alloc_some frozen_alloc_some

/-- rows of areas that can be read. -/
def RdAA (w : World) (L : List (Value × Ar)) : Prop := ∀ p ∈ L, RdA w p.1 p.2
theorem RdAA.keep {w w' : World} {L : List (Value × Ar)} (h : RdAA w L) (hb : Below w.heap.size w w') : RdAA w' L := fun p hp => (h p hp).keep hb
theorem RdAA.cons {w : World} {L : List (Value × Ar)} {v : Value} {l : Ar} (h : RdAA w L) (hv : RdA w v l) : RdAA w ((v, l) :: L) := fun p hp => by
  rcases List.mem_cons.1 hp with rfl | hp
  · exact hv
  · exact h p hp
theorem RdAA.nil {w : World} : RdAA w [] := fun p hp => by simp at hp
theorem RdAA.at_ {w : World} {L : List (Value × Ar)} (h : RdAA w L) (i : Nat) {v : Value} {l : Ar} (hp : L[i]? = some (v, l)) : RdA w v l := h (v, l) (List.mem_of_getElem? hp)
theorem ar_ext {r m : Ar} (hl : r.length = m.length) (h : ∀ i, i < m.length → atA r i = atA m i) : r = m := by
  refine List.ext_getElem hl fun i h1 h2 => ?_
  have := h i h2
  rwa [atA_lt h1, atA_lt h2] at this
/-- an area whose labels are sets is known by its keys. -/
theorem ar_eq {r m : Ar} {P : Nat → Nat → Prop} (hl : r.length = m.length) (hs : ∀ i, IsSet (P i) (atA r i)) (hm : ∀ l ∈ m, NF l) (h : ∀ i, i < m.length → ∀ k, P i k ↔ Mem k (atA m i)) : r = m :=
  ar_ext hl fun i hi => (hs i).eq (q := fun k => Mem k (atA m i)) ⟨by rw [atA_lt hi]; exact hm _ (List.getElem_mem hi), fun _ => Iff.rfl⟩ (h i hi)

theorem pre3 (a b c : Value) (Z : Array Value) : (#[a, b, c] ++ Z)[0]? = some a ∧ (#[a, b, c] ++ Z)[1]? = some b ∧ (#[a, b, c] ++ Z)[2]? = some c := by
  refine ⟨?_, ?_, ?_⟩ <;> (rw [Array.getElem?_append_left (by simp)]; rfl)
theorem grown_none {w w' : World} {o : Obj} (h : (w.alloc o).grownBy w' none) : Below w.heap.size w w' :=
  ⟨h.os, h.tape, h.output, by have := h.size; simp at this; omega, fun b hb => (h.block b (by simp; omega) (by simp)).trans (Below.heap_alloc _ _ _ hb)⟩
theorem of1 : ofL 2 (bitsN 2) (nf [(1, 3)]) = [[], [(1, 3)]] := by decide
theorem of2 : ofL 3 (bitsN 6) (nf [(3, 4)]) = [[], [(3, 4)], [(3, 4)]] := by decide
theorem sub_by {a b : Ar} (h : ∀ i, i < a.length → ∀ k, Mem k (atA a i) → Mem k (atA b i)) : SubA a b := fun i k hk => by
  by_cases c : i < a.length
  · exact h i c k hk
  · rw [atA_ge (by omega)] at hk; exact (mem_nil hk).elim
theorem uEq {r : Ar} (hl : r.length = max [[], [((1 : Nat), (3 : Nat))]].length [[], [((3 : Nat), (4 : Nat))], [(3, 4)]].length) (hs : ∀ i, IsSet (fun k => Mem k (atA [[], [(1, 3)]] i) ∨ Mem k (atA [[], [(3, 4)], [(3, 4)]] i)) (atA r i)) : r = [[], [(1, 4)], [(3, 4)]] :=
  ar_eq (P := fun i k => Mem k (atA [[], [(1, 3)]] i) ∨ Mem k (atA [[], [(3, 4)], [(3, 4)]] i)) hl hs (by intro l hl; simp at hl; rcases hl with rfl | rfl | rfl <;> exact ⟨by decide, by decide⟩) fun i hi k => by
    match i, hi with
    | 0, _ => simp [atA, Mem]
    | 1, _ => simp [atA, Mem]; omega
    | 2, _ => simp [atA, Mem]
theorem mEq {r : Ar} (hl : r.length = max [[], [((1 : Nat), (3 : Nat))]].length [[], [((3 : Nat), (4 : Nat))], [(3, 4)]].length) (hs : ∀ i, IsSet (fun k => Mem k (atA [[], [(1, 3)]] i) ∧ Mem k (atA [[], [(3, 4)], [(3, 4)]] i)) (atA r i)) : r = [[], [(3, 3)], []] :=
  ar_eq (P := fun i k => Mem k (atA [[], [(1, 3)]] i) ∧ Mem k (atA [[], [(3, 4)], [(3, 4)]] i)) hl hs (by intro l hl; simp at hl; rcases hl with rfl | rfl | rfl <;> exact ⟨by decide, by decide⟩) fun i hi k => by
    match i, hi with
    | 0, _ => simp [atA, Mem]
    | 1, _ => simp [atA, Mem]; omega
    | 2, _ => simp [atA, Mem]
theorem dEq {r : Ar} (hl : r.length = max [[], [((1 : Nat), (3 : Nat))]].length [[], [((3 : Nat), (4 : Nat))], [(3, 4)]].length) (hs : ∀ i, IsSet (fun k => Mem k (atA [[], [(1, 3)]] i) ∧ ¬ Mem k (atA [[], [(3, 4)], [(3, 4)]] i)) (atA r i)) : r = [[], [(1, 2)], []] :=
  ar_eq (P := fun i k => Mem k (atA [[], [(1, 3)]] i) ∧ ¬ Mem k (atA [[], [(3, 4)], [(3, 4)]] i)) hl hs (by intro l hl; simp at hl; rcases hl with rfl | rfl | rfl <;> exact ⟨by decide, by decide⟩) fun i hi k => by
    match i, hi with
    | 0, _ => simp [atA, Mem]
    | 1, _ => simp [atA, Mem]; omega
    | 2, _ => simp [atA, Mem]
theorem subDA : SubA [[], [(1, 2)], []] [[], [(1, 3)]] := sub_by fun i hi k => by
  match i, hi with
  | 0, _ => simp [atA, Mem]
  | 1, _ => simp [atA, Mem]; omega
  | 2, _ => simp [atA, Mem]
theorem subAB : ¬ SubA [[], [(1, 3)]] [[], [(3, 4)], [(3, 4)]] := fun h => by
  have := h 1 1 (by simp [atA, Mem])
  simp [atA, Mem] at this
theorem subAM : SubA [[], [(1, 3)]] [[], [(1, 3)], []] ∧ SubA [[], [(1, 3)], []] [[], [(1, 3)]] := ⟨sub_by fun i hi k => by
  match i, hi with
  | 0, _ => simp [atA, Mem]
  | 1, _ => simp [atA, Mem], sub_by fun i hi k => by
  match i, hi with
  | 0, _ => simp [atA, Mem]
  | 1, _ => simp [atA, Mem]
  | 2, _ => simp [atA, Mem]⟩
theorem maskU : maskN ((cellsL [[], [(1, 4)], [(3, 4)]]).map (·.1)) = 6 := by decide
theorem cellM : (cellsL [[], [(3, 3)], []]).take (9 : Int).toNat = [(1, (3, 3))] := by decide
theorem emA : emptyB [[], [(1, 3)]] = false := by decide
theorem emN : emptyB [] = true := by decide

end Go.Proofs.YtfapeemdlphjbaaDoor
