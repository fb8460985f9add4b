import Derived.Test.YtfapeemdlphjbaaDoorArZ
import Derived.Test.YtfapeemdlphjbaaDoorArP
namespace Go.Proofs.YtfapeemdlphjbaaDoor
open Go.RowKit

/-! Grants, read. -/
structure Gr where
  par : Int
  hol : Int
  ten : Int
  dep : Int
  wr : Bool
  ar : Ar
  exp : Int
/-- A grant: seven cells, the sixth a slice of slices. -/
def rGr : Rp Gr := fun _ w cs g => ∃ v, cs = [.int .i64 g.par, .int .i64 g.hol, .int .i64 g.ten, .int .i64 g.dep, .bool g.wr, v, .int .i64 g.exp] ∧ RdA w v g.ar
theorem rGr_keep {χ χ' : Col} {w w' : World} {cs : List Value} {g : Gr} (h : rGr χ w cs g) (hb : Below w.heap.size w w') : rGr χ' w' cs g := by
  obtain ⟨v, e, h⟩ := h
  exact ⟨v, e, h.keep hb⟩
abbrev RdG (w : World) (v : Value) (l : List Gr) : Prop := IsL 7 rGr 0 (fun _ => 0) w v l
theorem RdG.keep {w w' : World} {v : Value} {l : List Gr} (h : RdG w v l) (hb : Below w.heap.size w w') : RdG w' v l := by
  obtain ⟨A, cap, e, h1, h2, h3, h4⟩ := h
  refine ⟨A, cap, e, h1, h2, h3, fun i hi => ?_⟩
  obtain ⟨b, o, cs, eA, hc, hl, hr, hcell⟩ := h4 i hi
  exact ⟨b, o, cs, eA, hc, hl, rGr_keep hr hb, fun j hj => (hb.cell (World.block_lt_of_cell? _ _ (hcell j hj))).trans (hcell j hj)⟩
theorem RdG.get {w : World} {A : Option Addr} {cap n : Nat} {l : List Gr} (h : RdG w (.slice A n cap) l) (i : Nat) (hi : i < l.length) :
    ∃ b o v, A = some ⟨b, o, none⟩ ∧ w.cell? ⟨b, o + i * 7, none⟩ = some (.int .i64 l[i].par) ∧ w.cell? ⟨b, o + i * 7 + 1, none⟩ = some (.int .i64 l[i].hol) ∧ w.cell? ⟨b, o + i * 7 + 2, none⟩ = some (.int .i64 l[i].ten) ∧
      w.cell? ⟨b, o + i * 7 + 3, none⟩ = some (.int .i64 l[i].dep) ∧ w.cell? ⟨b, o + i * 7 + 4, none⟩ = some (.bool l[i].wr) ∧ w.cell? ⟨b, o + i * 7 + 5, none⟩ = some v ∧ w.cell? ⟨b, o + i * 7 + 6, none⟩ = some (.int .i64 l[i].exp) ∧ RdA w v l[i].ar := by
  obtain ⟨A', c', e, h1, h2, h3, h4⟩ := h
  cases e
  obtain ⟨b, o, cs, e, hb, hl, ⟨v, rfl, hr⟩, hc⟩ := h4 i hi
  exact ⟨b, o, v, e, hc 0 (by simp), hc 1 (by simp), hc 2 (by simp), hc 3 (by simp), hc 4 (by simp), hc 5 (by simp), hc 6 (by simp), hr⟩
/-- A boolean. -/
def rBo : Rp Bool := fun _ _ cs x => cs = [.bool x]
abbrev RdB (w : World) (v : Value) (l : List Bool) : Prop := IsL 1 rBo 0 (fun _ => 0) w v l
theorem RdB.keep {w w' : World} {v : Value} {l : List Bool} (h : RdB w v l) (hb : Below w.heap.size w w') : RdB w' v l :=
  IsL.keep (D := fun _ => True) (by omega) (fun _ _ _ _ _ _ h _ => h) trivial h (Same.below' hb)
theorem RdB.get {w : World} {A : Option Addr} {cap n : Nat} {l : List Bool} (h : RdB w (.slice A n cap) l) (i : Nat) (hi : i < l.length) :
    ∃ b o, A = some ⟨b, o, none⟩ ∧ w.cell? ⟨b, o + i, none⟩ = some (.bool l[i]) := by
  obtain ⟨A', c', e, h1, h2, h3, h4⟩ := h
  cases e
  obtain ⟨b, o, cs, e, hb, hl, rfl, hc⟩ := h4 i hi
  exact ⟨b, o, e, by simpa using hc 0 (by simp)⟩
/-- the grants of a tenant and a kind. -/
def ofT (l : List Gr) (ten : Int) (wr : Bool) : List Gr := l.filter fun g => g.ten == ten && g.wr == wr
/-- a key is in some grant's label. -/
def InG (l : List Gr) (i k : Nat) : Prop := ∃ g ∈ l, Mem k (atA g.ar i)
/-- the union of grants' areas: label by label the set of all their keys. -/
def IsUn (l : List Gr) (r : Ar) : Prop := ∀ i, IsSet (fun k => InG l i k) (atA r i)
theorem IsUn.nil : IsUn [] [] := fun i => by
  rw [atA_ge (by simp)]
  exact ⟨NF.nil, fun k => ⟨fun h => (mem_nil h).elim, fun ⟨g, hg, _⟩ => by simp at hg⟩⟩
theorem IsUn.snoc {l : List Gr} {g : Gr} {r u : Ar} (h : IsUn l r) (hu : IsU r g.ar u) : IsUn (l ++ [g]) u := fun i =>
  (hu i).of fun k => by
    rw [(h i).iff]
    unfold InG
    constructor
    · rintro (⟨x, hx, hk⟩ | hk)
      · exact ⟨x, List.mem_append_left _ hx, hk⟩
      · exact ⟨g, List.mem_append_right _ (by simp), hk⟩
    · rintro ⟨x, hx, hk⟩
      rcases List.mem_append.1 hx with h1 | h1
      · exact .inl ⟨x, h1, hk⟩
      · simp at h1; subst h1; exact .inr hk
end Go.Proofs.YtfapeemdlphjbaaDoor
