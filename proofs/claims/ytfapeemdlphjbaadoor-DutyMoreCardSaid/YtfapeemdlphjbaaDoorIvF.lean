import Derived.Test.YtfapeemdlphjbaaDoorIvE
namespace Go.Proofs.YtfapeemdlphjbaaDoor
open Go.RowKit
attribute [local go_sem] World.cell?_alloc_some frozen_alloc_some

/-- an int64 that is no less than 0. -/
def rN : Rp Nat := fun _ _ cs x => cs = [.int .i64 (x : Int)]
def nc (x : Nat) : List Value := [.int .i64 (x : Int)]
theorem rN_on (D : Nat → Prop) : rN.On D := fun _ _ _ _ _ _ h _ => h
theorem rN_one : rN.One := by rintro χ w cs x rfl u hu; simp at hu; subst hu; rfl
theorem rN_enc : ∀ χ w cs x, rN χ w cs x → cs = nc x := fun _ _ _ _ h => h
theorem infoI64 : (Tryd.prog.info? 2).map (fun i => (i.zero, i.size, i.bytes)) = some (some (.int .i64 0), 1, 8) := by kernel_rfl
abbrev RdN (w : World) (v : Value) (l : List Nat) : Prop := IsL 1 rN 0 (fun _ => 0) w v l
theorem RdN.keep {w w' : World} {v : Value} {l : List Nat} (h : RdN w v l) (hb : Below w.heap.size w w') : RdN w' v l :=
  IsL.keep (D := fun _ => True) (by omega) (rN_on _) trivial h (Same.below' hb)
theorem RdN.get {w : World} {A : Option Addr} {cap n : Nat} {l : List Nat} (h : RdN w (.slice A n cap) l) (i : Nat) (hi : i < l.length) :
    ∃ b o, A = some ⟨b, o, none⟩ ∧ w.cell? ⟨b, o + i, none⟩ = some (.int .i64 (l[i] : Nat)) := by
  obtain ⟨A', c', e, h1, h2, h3, h4⟩ := h
  cases e
  obtain ⟨b, o, cs, e, hb, hl, rfl, hc⟩ := h4 i hi
  exact ⟨b, o, e, by simpa using hc 0 (by simp)⟩
theorem RdN.own {base : Nat} {w : World} {v : Value} {l : List Nat} (h : w.ownsRow base 2 1 v l.length (l.flatMap nc)) (hl : l.length ≤ 1000000) : RdN w v l :=
  IsL.of_owns (by omega) h (by omega) (fun _ _ => rfl) fun i hi => flat_chunk nc 1 (fun _ => rfl) l i hi

end Go.Proofs.YtfapeemdlphjbaaDoor
