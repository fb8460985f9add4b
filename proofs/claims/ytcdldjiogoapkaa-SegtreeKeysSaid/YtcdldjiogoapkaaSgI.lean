import Derived.Test.YtcdldjiogoapkaaSgH
namespace Go.Proofs.Ytcdldjiogoapkaa
open Go.RowKit
attribute [local go_sem] World.cell?_alloc_some frozen_alloc_some field_na field_ac field_as

theorem TrAt.below {c pt : Nat} {χ : Col} {w W : World} {ns : List Nd} {root lim : Int} (h : TrAt c χ w pt ns root lim) (hb : Below w.heap.size w W) : TrAt c χ W pt ns root lim := h.keep (Same.below' hb)

set_option maxRecDepth 100000 in
set_option maxHeartbeats 4000000 in
theorem put_full (w : World) (pt key : Nat) (v : Int) {c : Nat} {χ : Col} {ns : List Nd} {root lim : Int} (h : TrAt c χ w pt ns root lim) (hok : OkN ns) (i0 : 0 ≤ root) (i1 : root ≤ ns.length) (k2 : key < 4294967296) (hl : 0 ≤ lim)
    (hm : Hid (lim - ns.length < missN ns key 32 root)) :
    Calls Try.prog 13 #[.pointer (some ⟨pt, 0, none⟩), .int .u32 key, .int .i64 v] w fun e w' => e = .returned (.int .i64 6) ∧ Below w.heap.size w w' := by
  obtain ⟨qa, -, q1, -, -, -, ha⟩ := id h
  obtain ⟨m, hmm⟩ : ∃ m, m = missN ns key 32 root := ⟨_, rfl⟩
  have HQ : Hid (∀ W, Below w.heap.size w W → W.cell? ⟨pt, 0, none⟩ = some (.pointer (some ⟨qa, 0, none⟩))) := fun W hb => below_cell hb q1
  have HA : Hid (∀ W, Below w.heap.size w W → ArAt c χ W qa ns lim) := fun W hb => ha.keep (Same.below' hb)
  have hB1 : Below w.heap.size w w.drew := undrew_r (Below.refl _ _)
  have HM := missing_calls w.drew pt key (h.below hB1) hok i0 i1 k2
  rw [← hmm] at HM hm
  have HC := Lib.hid HM
  have hm2 : lim - (ns.length : Int) < m := hm.out
  clear HM hmm hm ha q1 hok h
  go_enter Try.func13, Try.ntmps13
  go_wp2
  go_region_held3 (fun w' => w'.cell? ⟨pt, 0, none⟩ = some (.pointer (some ⟨qa, 0, none⟩)))
    (first | with_reducible exact HQ.out _ hB3 | with_reducible exact HQ.out _ hB2 | with_reducible exact HQ.out _ hB1)
    (first
      | (go_at_call 31; have hS := hB2; refine (room_calls _ _ (HA.out _ hB2) hl).mono ?_; rintro e w3 ⟨rfl, hq⟩; have hB3 := hB2.trans ((quiet_below hq).mono hB2.size); clear hq)
      | (go_at_call 30; refine HC.out.mono ?_; rintro e w2 ⟨rfl, hb2⟩; have hB2 := hB1.trans hb2))
  all_goals go_wp2
  all_goals go_ret
  all_goals exact ⟨rfl, hB3⟩

theorem TrAt.root {c pt : Nat} {χ : Col} {W : World} {ns : List Nd} {root lim : Int} (h : TrAt c χ W pt ns root lim) (r : Int) : TrAt c χ (W.setCell ⟨pt, 1, none⟩ (.int .i32 r)) pt ns r lim := by
  obtain ⟨qa, h0, h1, h2, h3, h4, h5⟩ := h
  refine ⟨qa, h0, ?_, ?_, World.cell?_setCell_same _ _ _ h3, ?_, h5.keep (Same.chg' (C := (· = c + 2)) (Chg.setCell W ⟨pt, 1, none⟩ _ h0) (fun _ _ => rfl) (fun x hx => by omega))⟩
  · rw [World.cell?_setCell_other _ _ _ _ (by simp)]; exact h1
  · rw [World.frozen?_setCell]; exact h2
  · rw [World.frozen?_setCell]; exact h4
theorem TrTo.root {c pt : Nat} {χ : Col} {w W : World} {ns : List Nd} {root lim : Int} (h : TrTo c χ w W pt ns root lim) (hpt : χ pt = c + 2) (_hlt : pt < w.heap.size) (r : Int) : TrTo c χ w (W.setCell ⟨pt, 1, none⟩ (.int .i32 r)) pt ns r lim := by
  obtain ⟨χ', h1, h2, h3⟩ := h
  exact ⟨χ', h1, h2.root r, h3.step (Chg.setCell W ⟨pt, 1, none⟩ _ (by show c ≤ χ pt ∧ χ pt ≤ c + 2; omega))⟩

set_option maxRecDepth 100000 in
set_option maxHeartbeats 4000000 in
theorem put_ok (w : World) (pt key : Nat) (v : Int) {c : Nat} {χ : Col} {ns : List Nd} {root lim : Int} (h : TrAt c χ w pt ns root lim) (hok : OkN ns) (i0 : 0 ≤ root) (i1 : root ≤ ns.length) (k2 : key < 4294967296) (hl : 0 ≤ lim)
    (hm : Hid (missN ns key 32 root ≤ lim - ns.length)) (hs : Hid (setOk lim key (Ag.one v) 32 ns root)) :
    Calls Try.prog 13 #[.pointer (some ⟨pt, 0, none⟩), .int .u32 key, .int .i64 v] w fun e w' => e = .returned (.int .i64 0) ∧
      TrTo c χ w w' pt (setT key (Ag.one v) 32 ns root).2 (setT key (Ag.one v) 32 ns root).1 lim := by
  obtain ⟨qa, hp0, q1, -, q3, -, ha⟩ := id h
  have hlt := World.block_lt_of_cell? w _ q1
  obtain ⟨m, hmm⟩ : ∃ m, m = missN ns key 32 root := ⟨_, rfl⟩
  have HQ : Hid (∀ W, Below w.heap.size w W → W.cell? ⟨pt, 0, none⟩ = some (.pointer (some ⟨qa, 0, none⟩))) := fun W hb => below_cell hb q1
  have HR : Hid (∀ W, Below w.heap.size w W → W.cell? ⟨pt, 1, none⟩ = some (.int .i32 root)) := fun W hb => below_cell hb q3
  have HA : Hid (∀ W, Below w.heap.size w W → ArAt c χ W qa ns lim) := fun W hb => ha.keep (Same.below' hb)
  have HT : Hid (∀ W, Below w.heap.size w W → TrAt c χ W pt ns root lim) := fun W hb => h.below hb
  have hB1 : Below w.heap.size w w.drew := undrew_r (Below.refl _ _)
  have HM := missing_calls w.drew pt key (h.below hB1) hok i0 i1 k2
  rw [← hmm] at HM hm
  have HC := Lib.hid HM
  have hm2 : m ≤ lim - (ns.length : Int) := hm.out
  obtain ⟨Z, hZ⟩ : ∃ Z, Z = setT key (Ag.one v) 32 ns root := ⟨_, rfl⟩
  have hSet : ∀ W, Below w.heap.size w W → Calls Try.prog 32 #[.pointer (some ⟨pt, 0, none⟩), .int .i32 root, .int .i64 32, .int .u32 key, (Ag.one v).val] W fun e w' =>
      e = .returned (.int .i32 Z.1) ∧ TrTo c χ W w' pt Z.2 root lim := fun W hb => by rw [hZ]; exact tset_calls key (Ag.one v) k2 32 (Nat.le_refl _) W root (h.below hb) hs.out
  have HS := Lib.hid hSet
  rw [← hZ]
  clear HM hmm hm ha q1 q3 hok h hSet hs hZ
  go_enter Try.func13, Try.ntmps13
  go_wp2
  go_region_held3 (fun w' => w'.cell? ⟨pt, 0, none⟩ = some (.pointer (some ⟨qa, 0, none⟩)))
    (first | with_reducible exact HQ.out _ hB3 | with_reducible exact HQ.out _ hB2 | with_reducible exact HQ.out _ hB1)
    (first
      | (go_at_call 31; have hS := hB2; refine (room_calls _ _ (HA.out _ hB2) hl).mono ?_; rintro e w3 ⟨rfl, hq⟩; have hB3 := hB2.trans ((quiet_below hq).mono hB2.size); clear hq)
      | (go_at_call 30; refine HC.out.mono ?_; rintro e w2 ⟨rfl, hb2⟩; have hB2 := hB1.trans hb2))
  go_wp2
  have hB4 : Below w.heap.size w w3.drew := undrew_r hB3
  have r4 := HR.out _ hB4
  have hpn := World.new_ne _ _ r4
  go_region_law (go_simp; first
    | (go_at_call 32; have hS := hB5; refine (HS.out _ hB5).mono ?_; rintro e w6 ⟨rfl, hT⟩; obtain ⟨χ6, ag6, T6, ch6⟩ := id hT; obtain ⟨_, -, p1, p2, p3, p4, -⟩ := id T6)
    | (go_at_call 33; refine (one_calls _ v).mono ?_; rintro e w5 ⟨rfl, hb5⟩; have hB5 := hB4.trans (hb5.mono hB4.size); have r5 := HR.out _ hB5))
  all_goals go_wp2
  all_goals go_ret
  all_goals exact ⟨rfl, (TrTo.trans (fun _ _ => rfl) (Chg.of_below hB5) hT).root hp0 hlt _⟩
end Go.Proofs.Ytcdldjiogoapkaa
