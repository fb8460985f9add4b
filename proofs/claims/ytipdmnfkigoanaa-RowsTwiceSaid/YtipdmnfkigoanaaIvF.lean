import Derived.Test.YtipdmnfkigoanaaIvE
namespace Go.Proofs.Ytipdmnfkigoanaa
open Go.RowKit
attribute [local go_sem] World.cell?_alloc_some frozen_alloc_some

/-- an int64 that is no less than 0. -/
def rN : Rp Nat := fun _ _ cs x => cs = [.int .i64 (x : Int)]
def nc (x : Nat) : List Value := [.int .i64 (x : Int)]
theorem rN_on (D : Nat → Prop) : rN.On D := fun _ _ _ _ _ _ h _ => h
theorem rN_one : rN.One := by rintro χ w cs x rfl u hu; simp at hu; subst hu; rfl
theorem rN_enc : ∀ χ w cs x, rN χ w cs x → cs = nc x := fun _ _ _ _ h => h
theorem infoI64 : (Try.prog.info? 2).map (fun i => (i.zero, i.size, i.bytes)) = some (some (.int .i64 0), 1, 8) := by kernel_rfl
abbrev RdN (w : World) (v : Value) (l : List Nat) : Prop := IsL 1 rN 0 (fun _ => 0) w v l
theorem RdN.keep {w w' : World} {v : Value} {l : List Nat} (h : RdN w v l) (hb : Below w.heap.size w w') : RdN w' v l :=
  IsL.keep (D := fun _ => True) (by omega) (rN_on _) trivial h (Same.below' hb)
theorem RdN.get {w : World} {A : Option Addr} {cap n : Nat} {l : List Nat} (h : RdN w (.slice A n cap) l) (i : Nat) (hi : i < l.length) :
    ∃ b o, A = some ⟨b, o, none⟩ ∧ w.cell? ⟨b, o + i, none⟩ = some (.int .i64 (l[i] : Nat)) := by
  obtain ⟨A', c', e, h1, h2, h3, h4⟩ := h
  cases e
  obtain ⟨b, o, cs, e, hb, hl, rfl, hc⟩ := h4 i hi
  exact ⟨b, o, e, by simpa using hc 0 (by simp)⟩
theorem RdN.own {base : Nat} {w : World} {v : Value} {l : List Nat} (h : w.ownsRow base 2 1 v l.length (l.flatMap nc)) (hl : l.length ≤ 1000000) : RdN w v l :=
  IsL.of_owns (by omega) h (by omega) (fun _ _ => rfl) fun i hi => flat_chunk nc 1 (fun _ => rfl) l i hi

set_option maxRecDepth 100000 in
set_option maxHeartbeats 4000000 in
theorem put_calls (w : World) (v : Value) (row : List Nat) (n : Nat) (hr : RdN w v row) (hpos : 0 < row.length) (hl : row.length ≤ 100000) :
    Calls Try.prog 46 #[v, .int .i64 n] w fun e w' => ∃ v', e = .returned v' ∧ RdN w' v' (insC n row) ∧ Below w.heap.size w w' := by
  obtain ⟨A, cap, rfl, a1, a2, a3, -⟩ := id hr
  unfold maxLen at a2
  have HR := Lib.hid hr
  clear hr
  obtain ⟨i0, hi, hz0, hz1, hz2⟩ := info_parts infoI64
  obtain ⟨B, O, rfl, -⟩ := HR.out.get 0 hpos
  have HI := Lib.hid (insC_at n row)
  have HLT := Lib.hid (leadC_lt n row)
  have HGE := Lib.hid (leadC_ge n row)
  have hle := leadC_le n row
  obtain ⟨q, hq⟩ : ∃ q, q = leadC n row := ⟨_, rfl⟩
  rw [← hq] at hle
  have HQ := Lib.hid hq
  clear hq
  go_enter Try.func46, Try.ntmps46
  go_wp2
  go_loop [5] (fun i => ∃ k : Nat, k ≤ q ∧ i = .int .i64 k) (fun i => row.length - (intOf i).toNat)
  case atStart => exact ⟨0, by omega, rfl⟩
  case round =>
    obtain ⟨k, hk, rfl⟩ := hrel
    by_cases hlt : k < q
    · have hkl : k < row.length := by omega
      obtain ⟨b', o', e, hc⟩ := HR.out.get k hkl
      cases e
      have hx := HLT.out k (by rw [← HQ.out]; exact hlt) hkl
      go_wp2
      refine ⟨⟨k + 1, hlt, by go_num⟩, by simp [intOf]; omega⟩
    · have hkq : k = q := by omega
      subst hkq
      have HT := Lib.hid (HR.out.takeL k hle)
      have HD := Lib.hid (HR.out.dropL k hle)
      have hRD := Lib.hid fun (W : World) (h : Below w.heap.size w W) (A : Option Addr) (L C : Nat) (hL : L = row.length - k) (hC : C = cap - k) (hA : (cap = k ∧ A = some ⟨B, O, none⟩) ∨ (¬ cap = k ∧ A = some ⟨B, O + k, none⟩)) => (show RdN W (.slice A L C) (row.drop k) by
        subst hL hC
        have := HR.out.dropL k hle
        rcases hA with ⟨e, rfl⟩ | ⟨e, rfl⟩
        · rw [if_pos e] at this; exact RdN.keep this h
        · rw [if_neg e, Nat.mul_one] at this; exact RdN.keep this h)
      have o9 := World.ownsRow_made (base := w.heap.size) (e := 2) (size := 1) w #[] 0 (Nat.le_refl _) (Nat.zero_le _) rfl
      have hTK := Lib.hid fun (o : Obj) => RdN.keep (HR.out.takeL k hle) ((Below.refl _ w).alloc (Nat.le_refl _) o)
      obtain ⟨tk, htk⟩ : ∃ tk, tk = row.take k := ⟨_, rfl⟩
      have hTKL : tk.length = k := by rw [htk]; simp; omega
      have hTKE := Lib.hid htk
      clear htk
      have G0 : True := trivial
      by_cases hkl : k < row.length
      · obtain ⟨b', o', e, hc⟩ := HR.out.get k hkl
        cases e
        have hx := HGE.out (by rw [← HQ.out]; exact hkl)
        have hi' := HI.out
        rw [dif_pos (by rw [← HQ.out]; exact hkl)] at hi'
        simp only [← HQ.out] at hx hi'
        by_cases he : row[k] = n
        · rw [if_pos he] at hi'
          have HE : Hid (insC n row = row) := hi'
          have ht : ((row[k] : Nat) : Int) = n := by omega
          clear hi' hx he
          go_wp2
          go_ret
          exact ⟨_, rfl, by rw [HE.out]; exact HR.out, Below.refl _ _⟩
        · rw [if_neg he] at hi'
          have HE : Hid (insC n row = row.take k ++ n :: row.drop k) := hi'
          have hgt : ¬ ((row[k] : Nat) : Int) < n := by omega
          have hne : ((row[k] : Int) == (n : Int)) = false := by simp; omega
          clear hi' hx he
          go_wp2_with (at_builtin; first
            | (refine wpList_append_L 77 2 i0 _ Try.underlying77 hi hz0 hz1 hz2 rfl (by omega) (by omega) nc rN_enc rN_one rfl _ _ rfl w.heap.size _ _ _ rfl V2 _ (row.drop k) rfl (hRD.out _ hb2 _ _ _ (by omega) (by omega) (by first | exact .inl ⟨rfl, rfl⟩ | exact .inr ⟨by omega, rfl⟩)) (by simp; omega) hb2.size ?_
               intro v3 w3 hown3 hgrow3 hat3
               have hb3 := hb2.trans (own_grown V2 hgrow3 (N := w.heap.size) (Nat.le_refl _) hb2.size))
            | (refine wpList_append_own_at _ rfl _ _ 77 rfl w.heap.size 2 i0 _ 1 8 Try.underlying77 hi hz0 hz1 hz2 rfl (by decide) _ _ _ rfl (V1.alloc _) ⟨w1.heap.size, 0, none⟩ 1 1 [.int .i64 (n : Int)] rfl rfl (World.news_of_block (heap_alloc_new w1 _)) (by simp [Value.oneCell']) (by unfold maxLen; omega) (by omega) (by have := hb1.size; simp; omega) ?_
               intro v2 w2 V2 hgrow2 _ hat2
               have hb2 := hb1.trans (push_base V1 hgrow2 (N := w.heap.size) (Nat.le_refl _) hb1.size))
            | (clear G0
               refine wpList_append_L 77 2 i0 _ Try.underlying77 hi hz0 hz1 hz2 rfl (by omega) (by omega) nc rN_enc rN_one rfl _ _ rfl w.heap.size _ _ _ rfl o9 _ (row.take k) rfl (hTK.out _) (by simp; omega) (by simp) ?_
               intro v1 w1 hown1 hgrow1 hat1
               rw [Nat.zero_add, List.nil_append, ← hTKE.out] at hown1
               have V1 := hown1
               clear hown1
               have hb1 := ((Below.refl _ w).alloc (Nat.le_refl _) (.cells #[] 2)).trans (own_grown o9 hgrow1 (N := w.heap.size) (Nat.le_refl _) (by simp))))
          all_goals go_ret
          all_goals refine ⟨_, rfl, ?_, hb3⟩
          all_goals rw [HE.out]
          all_goals exact RdN.own (by simpa [hTKE.out, nc, Nat.add_assoc, Nat.add_comm 1] using hown3) (by simp; omega)
      · have hkk : k = row.length := by omega
        have hi' := HI.out
        rw [dif_neg (by rw [← HQ.out]; exact hkl)] at hi'
        have HE : Hid (insC n row = row.take k ++ n :: row.drop k) := by show _ = _; rw [hi', hkk]; simp
        clear hi' hkk
        by_cases hck : cap = k
        all_goals
          (try (have hck2 := Eq.symm hck; clear hck; subst hck2))
          go_wp2_with (at_builtin; first
            | (refine wpList_append_L 77 2 i0 _ Try.underlying77 hi hz0 hz1 hz2 rfl (by omega) (by omega) nc rN_enc rN_one rfl _ _ rfl w.heap.size _ _ _ rfl V2 _ (row.drop k) rfl (hRD.out _ hb2 _ _ _ (by omega) (by omega) (by first | exact .inl ⟨rfl, rfl⟩ | exact .inr ⟨by omega, rfl⟩)) (by simp; omega) hb2.size ?_
               intro v3 w3 hown3 hgrow3 hat3
               have hb3 := hb2.trans (own_grown V2 hgrow3 (N := w.heap.size) (Nat.le_refl _) hb2.size))
            | (refine wpList_append_own_at _ rfl _ _ 77 rfl w.heap.size 2 i0 _ 1 8 Try.underlying77 hi hz0 hz1 hz2 rfl (by decide) _ _ _ rfl (V1.alloc _) ⟨w1.heap.size, 0, none⟩ 1 1 [.int .i64 (n : Int)] rfl rfl (World.news_of_block (heap_alloc_new w1 _)) (by simp [Value.oneCell']) (by unfold maxLen; omega) (by omega) (by have := hb1.size; simp; omega) ?_
               intro v2 w2 V2 hgrow2 _ hat2
               have hb2 := hb1.trans (push_base V1 hgrow2 (N := w.heap.size) (Nat.le_refl _) hb1.size))
            | (clear G0
               refine wpList_append_L 77 2 i0 _ Try.underlying77 hi hz0 hz1 hz2 rfl (by omega) (by omega) nc rN_enc rN_one rfl _ _ rfl w.heap.size _ _ _ rfl o9 _ (row.take k) rfl (hTK.out _) (by simp; omega) (by simp) ?_
               intro v1 w1 hown1 hgrow1 hat1
               rw [Nat.zero_add, List.nil_append, ← hTKE.out] at hown1
               have V1 := hown1
               clear hown1
               have hb1 := ((Below.refl _ w).alloc (Nat.le_refl _) (.cells #[] 2)).trans (own_grown o9 hgrow1 (N := w.heap.size) (Nat.le_refl _) (by simp))))
          all_goals go_ret
          all_goals refine ⟨_, rfl, ?_, hb3⟩
          all_goals rw [HE.out]
          all_goals exact RdN.own (by simpa [hTKE.out, nc, Nat.add_assoc, Nat.add_comm 1] using hown3) (by simp; omega)
end Go.Proofs.Ytipdmnfkigoanaa
