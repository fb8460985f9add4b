import Derived.Test.YtcdldjiogoapkaaSgD
import Derived.StillTailTactics
import Derived.Deep.RegionLaw
import Derived.Deep.DrawnRows
import Derived.BigRegion
namespace Go.Proofs.Ytcdldjiogoapkaa
open Go.RowKit
attribute [local go_sem] World.cell?_alloc_some frozen_alloc_some

theorem undrew_r {n : Nat} {w w' : World} (h : Below n w w') : Below n w w'.drew := ⟨h.os, h.tape, h.output, h.size, h.block⟩

theorem below_cell {w W : World} {p : Addr} {v : Value} (hb : Below w.heap.size w W) (hc : w.cell? p = some v) : W.cell? p = some v := (hb.cell (World.block_lt_of_cell? w _ hc)).trans hc

def killN (ns : List Nd) (i : Int) : List Nd := if i = 0 then ns else setN ns i { getN ns i with a := Ag.zero, k := true }

theorem setN_len (ns : List Nd) (i : Int) (n : Nd) : (setN ns i n).length = ns.length := by unfold setN; split <;> simp
theorem killN_len (ns : List Nd) (i : Int) : (killN ns i).length = ns.length := by unfold killN; split <;> simp [setN_len]

theorem TrTo.of_ar {c : Nat} {χ : Col} {w w1 w2 : World} {pt qa : Nat} {ns ns' : List Nd} {root lim : Int} (h : TrAt c χ w pt ns root lim) (hb : Below w.heap.size w w1)
    (hq : w.cell? ⟨pt, 0, none⟩ = some (.pointer (some ⟨qa, 0, none⟩))) (ha : ArTo c χ w1 w2 qa ns' lim) : TrTo c χ w w2 pt ns' root lim := by
  obtain ⟨χ', k1, k2, k3⟩ := ha
  obtain ⟨qa', h0, h1, h2, h3, h4, h5⟩ := h
  rw [hq] at h1
  cases h1
  have hp := World.block_lt_of_cell? w _ hq
  have hb1 := hb.block pt hp
  have hb2 : w2.heap[pt]? = w.heap[pt]? := (k3.blk pt (Nat.lt_of_lt_of_le hp hb.size) (by omega)).trans hb1
  exact ⟨χ', fun b hb' => k1 b (Nat.lt_of_lt_of_le hb' hb.size), ⟨qa, (k1 pt (Nat.lt_of_lt_of_le hp hb.size)).trans h0, (World.cell?_of_block hb2).trans hq, (World.frozen?_of_block hb2).trans h2, (World.cell?_of_block hb2).trans h3, (World.frozen?_of_block hb2).trans h4, k2⟩,
    (Chg.of_below hb).trans (χ' := χ) (fun _ _ => rfl) ⟨k3.os, k3.tape, k3.output, k3.size, fun b hb hc => k3.blk b hb (by omega)⟩⟩

set_option maxRecDepth 100000 in
theorem kill_calls (w : World) (pt : Nat) (i : Int) {c : Nat} {χ : Col} {ns : List Nd} {root lim : Int} (h : TrAt c χ w pt ns root lim) (i0 : 0 ≤ i) (i1 : i ≤ ns.length) :
    Calls Try.prog 52 #[.pointer (some ⟨pt, 0, none⟩), .int .i32 i] w fun e w' => e = .returned (.tuple #[]) ∧ TrTo c χ w w' pt (killN ns i) root lim := by
  by_cases hi : i = 0
  · subst hi
    go_enter Try.func52, Try.ntmps52
    go_wp2
    go_end0
    exact ⟨rfl, χ, fun _ _ => rfl, h, Chg.of_below (Below.refl _ _)⟩
  · have hkn : killN ns i = setN ns i { getN ns i with a := Ag.zero, k := true } := if_neg hi
    obtain ⟨qa, -, hp, -, -, -, ha⟩ := id h
    have HP := Lib.hid hp
    rw [hkn]
    go_enter Try.func52, Try.ntmps52
    go_wp2_with fail
    refine (at_calls _ _ _ h i0 i1).mono ?_
    rintro e w1 ⟨rfl, hb1⟩
    have h1 := below_cell hb1 HP.out
    have H5 := Lib.hid fun o => ha.keep (w' := (w1.alloc o).drew) (Same.below' (undrew_r (hb1.alloc hb1.size o)))
    clear hp ha
    go_wp2
    go_region_law (go_simp; go_at_call 47; refine (set_calls _ _ _ { getN ns i with a := Ag.zero, k := true } (H5.out _) (by omega) (by omega)).mono ?_; rintro e w2 ⟨rfl, hA⟩)
    all_goals go_wp2
    all_goals go_end0
    all_goals exact ⟨rfl, TrTo.of_ar h (undrew_r (hb1.alloc hb1.size _)) HP.out hA⟩
end Go.Proofs.Ytcdldjiogoapkaa
