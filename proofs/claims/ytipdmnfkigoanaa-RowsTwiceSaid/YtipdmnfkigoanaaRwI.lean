import Derived.Test.YtipdmnfkigoanaaRwH
namespace Go.Proofs.Ytipdmnfkigoanaa
open Go.RowKit Go.Maps Go.Shelf
attribute [local go_sem] World.cell?_alloc_some frozen_alloc_some
variable {c : Nat} {χ χ' : Col} {w w' : World} {rb : Nat} {t : TypeId} {rest : List Value} {L : RL} {ev : List Cl} {last : Nat} {vm em : Value} {n1 n2 : Nat}
theorem below_cellR {w w' : World} {a : Addr} {v : Value} (hB : Below w.heap.size w w') (h : w.cell? a = some v) : w'.cell? a = some v := (World.cell?_of_block (hB.block _ (World.block_lt_of_cell? _ _ h))).trans h
theorem grown_below0 {w w' : World} (h : w.grownBy w' none) : Below w.heap.size w w' := ⟨h.os, h.tape, h.output, h.size, fun k hk => h.block k hk (by simp)⟩
theorem grown_belowN {w w' : World} {b N : Nat} (h : w.grownBy w' (some b)) (hb : N ≤ b) (hN : N ≤ w.heap.size) : Below N w w' := ⟨h.os, h.tape, h.output, h.size, fun k hk => h.block k (by omega) (fun e => by have := Option.some.inj e; omega)⟩
theorem below_drew (w : World) : Below w.heap.size w w.drew := ⟨rfl, rfl, rfl, Nat.le_refl _, fun _ _ => rfl⟩
set_option maxRecDepth 100000 in
set_option maxHeartbeats 8000000 in
theorem sorted_some (w : World) (h : RwIn c χ w rb t rest L ev last vm em n1 n2) (mb : Nat) (e1 : vm = .map (some mb)) (hll : last ≤ 1000000) :
    Calls Try.prog 28 #[.pointer (some ⟨rb, 0, none⟩)] w fun e w' => ∃ v, e = .returned v ∧ NewK w.heap.size w' v (L.map (·.1)) ∧ Below w.heap.size w w' := by
  subst e1
  obtain ⟨c0, -, -, -, -, -⟩ := h.cells
  have hM : MapF krC erV w mb n1 (verO L) := by
    rcases h.mv with ⟨e, -⟩ | ⟨b, e, h⟩
    · cases e
    · cases e; exact h
  have hrl := (Array.getElem?_eq_some_iff.1 h.at_).1
  have hml := hM.lt
  have hLL : L.length ≤ 1000000 := by
    have h1 := (verO_card h.wf.nd)
    obtain ⟨c', h2, h3, -⟩ := hM.len Try.underlying26
    have := h1.uniq h2 fun _ => rfl
    have := h.ln1
    omega
  have HW := Lib.hid h.wf
  have hb1 := (Below.refl w.heap.size w).alloc (Nat.le_refl _) (.cells #[.pointer (some ⟨rb, 0, none⟩)] 51)
  have M1 := Lib.hid (hM.below (hb1.block _ hM.lt))
  have hbx1 := heap_alloc_at w (.cells #[.pointer (some ⟨rb, 0, none⟩)] 51)
  clear h hM
  go_enter Try.func28, Try.ntmps28
  go_wp2_with (at_range; refine wpList_rangeF rfl _ rfl Try.underlying26 rfl M1.out ?_; intro w0 cn0 hrg0 hg0 hs0)
  have hb0 := hb1.trans ((grown_below0 hg0).mono (by simp))
  have hbx0 := (hg0.block _ (by simp) (by simp)).trans hbx1
  have hs0' : w0.heap.size = w.heap.size + 2 := by rw [hs0]; simp
  rw [World.size_alloc] at hrg0
  clear hg0 hs0 hbx1 hb1 M1
  go_frame
  rw [World.size_alloc]
  go_loopw [3] (fun v wr => ∃ (left : Cl → Bool) (cnt : Nat) (ks : List Cl), RangeF krC erV wr mb (w.heap.size + 1) n1 (verO L) left cnt ∧ NewK (w.heap.size + 2) wr v ks ∧ Below w.heap.size w wr ∧ w.heap.size + 2 ≤ wr.heap.size ∧ wr.heap[w.heap.size]? = some (.cells #[.pointer (some ⟨rb, 0, none⟩)] 51) ∧ ks.Nodup ∧ Hid (∀ x, x ∈ ks ↔ (verO L x).isSome = true ∧ left x = false)) (fun _ wr => wr.rangeLeft mb (w.heap.size + 1))
  case atStart => exact ⟨_, _, [], hrg0, ⟨rfl, .inl ⟨rfl, rfl⟩⟩, hb0, by omega, hbx0, List.nodup_nil, Lib.hid fun x => by simp only [List.not_mem_nil, false_iff, not_and]; intro h; rw [h]; simp⟩
  case round =>
    clear hrg0 hb0 hbx0 hs0'
    obtain ⟨left, cnt, ks, hrg, hV, hB, hsz, hbx, hnd, hks⟩ := hrel
    obtain ⟨A, cap, rfl⟩ := hV.form
    have hkl : ks.length ≤ L.length := by
      have := nodup_le hnd (m := L.map (·.1)) fun x hx => verO_isSome.1 ((hks.out x).1 hx).1
      simpa using this
    go_wp2_with (first | (at_next; refine wpList_nextC rfl _ rfl rfl hrg ?_ ?_))
    · intro hl0
      have hp : ks.Perm (L.map (·.1)) := (List.perm_ext_iff_of_nodup hnd HW.out.nd).2 fun x => by
        rw [hks.out x, ← verO_isSome]
        simp [hl0 x]
      have hbd : w.heap.size + 2 ≤ wr.heap.size := hsz
      have hvb : wr.cell? ⟨w.heap.size, 0, none⟩ = some (.pointer (some ⟨rb, 0, none⟩)) := by simp [World.cell?, hbx]
      have hrc := below_cellR hB c0
      have hm2 : MapV krC erV wr (.map (some mb)) n1 (verO L) := .inr ⟨mb, rfl, hrg.owns⟩
      have hown : ∀ b, (Value.slice A ks.length cap).ownBlock = some b → w.heap.size + 2 ≤ b := fun b e => (World.ownsRow.lt hV b e).1
      go_wp2_with fail
      refine (sort_cl wr _ ks hV (by omega) w.heap.size rb n1 (.map (some mb)) (verO L) hvb hrc hm2 (fun e => by have := hown _ e; omega) (fun e => by have := hown _ e; omega) (fun b e e2 => by cases e; have := hown _ e2; omega)).mono ?_
      rintro e w3 ⟨rfl, l', hp', hs', hown', hg'⟩
      have el : l' = L.map (·.1) := sorted_uniq HW.out (hp'.trans hp) hs'
      have hB3 : Below w.heap.size wr w3 := own_grown hV hg' (by omega) (by omega)
      have hfin : NewK w.heap.size w3 (.slice A ks.length cap) (L.map (·.1)) := by
        have hlen : ks.length = (L.map (·.1)).length := hp.length_eq
        rw [el, hlen] at hown'
        unfold NewK
        rw [← hlen] at hown' ⊢
        exact hown'.mono_base (by omega)
      go_wp2
      go_ret
      exact ⟨_, rfl, hfin, hB.trans hB3⟩
    · intro x s w1 cnt1 hlx hF hrg1 hlt1 hg1 hs1 hen
      have hB1 := hB.trans (grown_belowN hg1 (by omega) (by omega) : Below w.heap.size wr w1)
      have hrne : ∀ b, (Value.slice A ks.length cap).ownBlock = some b → b ≠ w.heap.size + 1 := fun b e => by have := (World.ownsRow.lt hV b e).1; omega
      have hV1 : NewK (w.heap.size + 2) w1 (.slice A ks.length cap) ks := owns_same hV fun b e => hg1.block b (World.ownsRow.lt hV b e).2 (fun e2 => hrne b e (Option.some.inj e2))
      have hbx' := (hg1.block _ (by omega) (fun e2 => by have := Option.some.inj e2; omega)).trans hbx
      have hb2 := (Below.refl w1.heap.size w1).alloc (Nat.le_refl _) (.cells #[.int .i64 x.lab, .int .u32 x.key] 36)
      have hV2 := hV1.keep hb2
      have hM1l := hrg1.owns.lt
      have hrl1 := hrg1.lt
      have hkn : x ∉ ks := fun hm => by have := ((hks.out x).1 hm).2; rw [hlx] at this; cases this
      have HK2 : Hid (∀ y, y ∈ ks ++ [x] ↔ (verO L y).isSome = true ∧ (left y && !decide (y = x)) = false) := Lib.hid fun y => by
        rw [List.mem_append, hks.out y, List.mem_singleton]
        by_cases e : y = x
        · subst e; simp [hF]
        · simp [e]
      have HND : Hid ((ks ++ [x]).Nodup) := by
        show List.Nodup _
        rw [List.nodup_append]
        exact ⟨hnd, by simp, fun a ha b hb => by simp at hb; subst hb; exact fun e => hkn (e ▸ ha)⟩
      have HLE := Lib.hid hrg.left_eq
      have HLT := Lib.hid hlt1
      have HRG := Lib.hid hrg1
      clear hrg hV hB hbx hV1 hrg1 hlt1 hF hlx hs1
      go_wp2_with (first | (at_builtin; refine push_cl rfl _ _ rfl (w.heap.size + 2) ks _ rfl hV2 (by omega) (by simp; omega) x _ rfl (by simp) ?_; intro v' w6 V6 hb6 ho6))
      have hb3 : Below (w.heap.size + 2) w1 w6 := (hb2.mono (by omega)).trans hb6
      have hsz6 := hb3.size
      have hrg6 := HRG.out.of_blocks (hb3.block mb (by omega)) (hb3.block (w.heap.size + 1) (by omega))
      exact ⟨⟨_, cnt1, ks ++ [x], hrg6, V6, hB1.trans (hb3.mono (by omega)), by omega, (hb3.block _ (by omega)).trans hbx', HND.out, HK2⟩, by rw [hrg6.left_eq, HLE.out]; exact HLT.out⟩
theorem rsorted_calls (w : World) (h : RwIn c χ w rb t rest L ev last vm em n1 n2) (hll : last ≤ 1000000) :
    Calls Try.prog 28 #[.pointer (some ⟨rb, 0, none⟩)] w fun e w' => ∃ v, e = .returned v ∧ NewK w.heap.size w' v (L.map (·.1)) ∧ Below w.heap.size w w' := by
  rcases id h.mv with ⟨e, -⟩ | ⟨b, e, -⟩
  · exact sorted_nil w h e
  · exact sorted_some w h b e hll
end Go.Proofs.Ytipdmnfkigoanaa
