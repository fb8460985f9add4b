import Derived.Test.YtipdmnfkigoanaaRwI
import Derived.Test.YtipdmnfkigoanaaArC
namespace Go.Proofs.Ytipdmnfkigoanaa
open Go.RowKit Go.Maps Go.Shelf
attribute [local go_sem] World.cell?_alloc_some frozen_alloc_some

/-! In. -/
def rCl : Rp Cl := fun _ _ cs x => cs = [.int .i64 x.lab, .int .u32 x.key]
theorem rCl_on (D : Nat → Prop) : rCl.On D := fun _ _ _ _ _ _ h _ => h
abbrev RdK (w : World) (v : Value) (l : List Cl) : Prop := IsL 2 rCl 0 (fun _ => 0) w v l
theorem RdK.keep {w w' : World} {v : Value} {l : List Cl} (h : RdK w v l) (hb : Below w.heap.size w w') : RdK w' v l := IsL.keep (D := fun _ => True) (by omega) (rCl_on _) trivial h (Same.below' hb)
theorem RdK.get {w : World} {A : Option Addr} {cap n : Nat} {l : List Cl} (h : RdK w (.slice A n cap) l) (i : Nat) (hi : i < l.length) :
    ∃ b o, A = some ⟨b, o, none⟩ ∧ w.cell? ⟨b, o + i * 2, none⟩ = some (.int .i64 l[i].lab) ∧ w.cell? ⟨b, o + i * 2 + 1, none⟩ = some (.int .u32 l[i].key) := by
  obtain ⟨A', c', e, h1, h2, h3, h4⟩ := h
  cases e
  obtain ⟨b, o, cs, e, hb, hl, rfl, hc⟩ := h4 i hi
  exact ⟨b, o, e, hc 0 (by simp), hc 1 (by simp)⟩
theorem NewK.rd {n : Nat} {w : World} {v : Value} {l : List Cl} (h : NewK n w v l) (hl : l.length ≤ 1000000) : RdK w v l :=
  IsL.of_owns (by omega) h (by omega) (fun _ _ => rfl) fun i hi => flat_chunk clc 2 (fun _ => rfl) l i hi
/-- A row of ints of the call's own. -/
def NewI (n : Nat) (w : World) (v : Value) (l : List Int) : Prop := w.ownsRow n 3 1 v l.length (l.map (Value.int .i64))
theorem NewI.keep {n : Nat} {w w' : World} {v : Value} {l : List Int} (h : NewI n w v l) (hb : Below w.heap.size w w') : NewI n w' v l := owns_same h fun b e => hb.block b (World.ownsRow.lt h b e).2
theorem NewI.mono {n m : Nat} {w : World} {v : Value} {l : List Int} (h : NewI n w v l) (hm : m ≤ n) : NewI m w v l := World.ownsRow.mono_base h hm
theorem NewI.form {n : Nat} {w : World} {v : Value} {l : List Int} (h : NewI n w v l) : ∃ A cap, v = .slice A l.length cap := owns_form h
theorem NewI.isI {n : Nat} {w : World} {v : Value} {l : List Int} (h : NewI n w v l) (hl : l.length ≤ 1000000) : IsI 0 (fun _ => 0) w v l :=
  IsL.of_owns (by omega) h (by omega) (fun _ _ => rfl) fun i hi => by
    show _ = _
    rw [Nat.mul_one, List.drop_eq_getElem_cons (by simpa using hi)]
    simp
theorem infoIn : (Try.prog.info? 3).map (fun i => (i.zero, i.size, i.bytes)) = some (some (.int .i64 0), 1, 8) := by kernel_rfl
/-- The versions of those in an area. -/
def inR (a : Ar) (L : RL) : List Int := (L.filter fun p => inA a p.1.lab p.1.key).map (·.2)
variable {c : Nat} {χ χ' : Col} {w w' : World} {rb : Nat} {t : TypeId} {rest : List Value} {L : RL} {ev : List Cl} {last : Nat} {vm em : Value} {n1 n2 : Nat}
theorem RwIn.len (h : RwIn c χ w rb t rest L ev last vm em n1 n2) : L.length ≤ last := by
  obtain ⟨m', hm', h3, -⟩ := h.mv.len Try.underlying26
  have := hm'.uniq (verO_card h.wf.nd) fun _ => rfl
  have := h.ln1
  omega
set_option maxRecDepth 100000 in
set_option maxHeartbeats 4000000 in
theorem rin_calls (w : World) (va : Value) (a : Ar) (h : RwIn c χ w rb t rest L ev last vm em n1 n2) (hr : RdA w va a) (hll : last ≤ 1000000) :
    Calls Try.prog 22 #[.pointer (some ⟨rb, 0, none⟩), va] w fun e w' => ∃ v, e = .returned v ∧ NewI w.heap.size w' v (inR a L) ∧ Below w.heap.size w w' := by
  obtain ⟨Aa, capa, rfl, -⟩ := id hr
  have H := Lib.hid h
  have HR := Lib.hid hr
  have hlen := h.len
  clear h hr
  obtain ⟨i0, hi, hz0, hz1, hz2⟩ := info_parts infoIn
  go_enter Try.func22, Try.ntmps22
  go_wp2_with fail
  refine (rsorted_calls _ H.out hll).mono ?_
  rintro e w1 ⟨v, rfl, hN, hB1⟩
  obtain ⟨A, cap, rfl⟩ := hN.form
  have hK := Lib.hid (hN.rd (by simp; omega))
  rw [List.length_map]
  have H1 := Lib.hid (H.out.below hB1)
  have HR1 := Lib.hid (HR.out.keep hB1)
  have hs1 := hB1.size
  clear hN
  go_wp2
  go_loopw [5, 11] (fun v i wr => ∃ j : Nat, j ≤ L.length ∧ i = .int .i64 j ∧ NewI w1.heap.size wr v (inR a (L.take j)) ∧ Below w1.heap.size w1 wr) (fun _ i _ => L.length - (intOf i).toNat)
  case atStart => exact ⟨0, by omega, rfl, ⟨rfl, .inl ⟨rfl, rfl⟩⟩, Below.refl _ _⟩
  case round =>
    obtain ⟨j, hj, rfl, hV, hB⟩ := hrel
    obtain ⟨wo, rfl⟩ : ∃ wo, wo = wr := ⟨_, rfl⟩
    by_cases hlt : j < L.length
    · obtain ⟨gb, go, rfl, p0, p1⟩ := (hK.out.keep hB).get j (by simpa using hlt)
      simp only [List.getElem_map] at p0 p1
      obtain ⟨⟨x, s⟩, hxs⟩ : ∃ p, p = L[j] := ⟨_, rfl⟩
      have hT : Hid (inR a (L.take (j + 1)) = inR a (L.take j) ++ (if inA a x.lab x.key then [s] else [])) := by
        show _ = _
        unfold inR
        rw [List.take_succ_eq_append_getElem hlt, ← hxs, List.filter_append, List.map_append]
        congr 1
        simp only [List.filter_cons, List.filter_nil]
        split <;> rfl
      rw [← hxs] at p0 p1
      have hv : Hid (verO L x = some s) := verO_of H.out.wf.nd (by rw [hxs]; exact List.getElem_mem hlt)
      have hil : (inR a (L.take j)).length ≤ j := by
        unfold inR
        rw [List.length_map]
        exact Nat.le_trans (List.length_filter_le _ _) (by simp; omega)
      obtain ⟨q, hq⟩ : ∃ q, q = inA a x.lab x.key := ⟨_, rfl⟩
      have HQ := Lib.hid hq
      obtain ⟨o, ho⟩ : ∃ o, o = inR a (L.take j) := ⟨_, rfl⟩
      rw [← ho] at hV hil hT
      obtain ⟨A5, cap5, rfl⟩ := hV.form
      have hb2 := (Below.refl wo.heap.size wo).alloc (Nat.le_refl _) (.cells #[.int .i64 x.lab, .int .u32 x.key] 36)
      have hBx := heap_alloc_at wo (.cells #[.int .i64 x.lab, .int .u32 x.key] 36)
      have hsz := hB.size
      have hB2 := hB.trans (hb2.mono hsz)
      have hV2 := hV.keep hb2
      clear hxs hq ho hV
      go_wp2_with fail
      refine (ahas_calls _ _ a x.lab x.key (HR1.out.keep hB2)).mono ?_
      rw [← HQ.out]
      rintro e w3 ⟨rfl, hb3⟩
      have hB3 := hB2.trans (hb3.mono hB2.size)
      have hV3 := hV2.keep hb3
      have hs3 := hB3.size
      have hBx3 := (hb3.block wo.heap.size (by simp)).trans hBx
      obtain ⟨⟨x0, x1⟩, -⟩ := cells2 hBx3
      have H3 := H1.out.below hB3
      obtain ⟨c0, -, -, -, -, -⟩ := H3.cells
      have hl : ∀ d, (Instr.lookup 26 vm (.agg #[.int .i64 x.lab, .int .u32 x.key]) false).run Try.prog (w3.drewN d) = .ok (.int .i64 s) (w3.drewN d) := fun d => by
        have := (H3.below (below_drewN _ _ d)).mv.look1 Try.underlying26 0 (zeroV _) (x := x) trivial
        rw [hv.out] at this; exact this
      have hl1 := hl 1
      have hl1 : (Instr.lookup 26 vm (.agg #[.int .i64 x.lab, .int .u32 x.key]) false).run Try.prog w3.drew = .ok (.int .i64 s) w3.drew := hl1
      have hV4 : NewI w1.heap.size w3.drew (.slice A5 o.length cap5) o := owns_drew hV3
      clear hBx hBx3 hb2 hV2 H3 hb3 hB hB2 p0 p1 hl
      cases q with
      | false =>
        go_wp2
        exact ⟨⟨j + 1, hlt, by go_num, by rw [hT.out, ← HQ.out]; simpa using hV3, hB3⟩, by simp [intOf]; omega⟩
      | true =>
        go_wp2
        go_region_law (refine step_append_lies _ rfl _ _ _ (by rfl) w1.heap.size 3 i0 _ 1 8 Try.underlying48 hi hz0 hz1 hz2 rfl (by omega) (.slice A5 o.length cap5) o.length (o.map (Value.int .i64)) (by rfl) (World.ownsRow.alloc hV4 _) ⟨w3.heap.size, 0, none⟩ 1 1 [.int .i64 s] (by rfl) (by rfl) (World.news_of_block (heap_alloc_new w3.drew _)) (by simp [Value.oneCell']) (by omega) (by unfold maxLen; omega) (by omega) (by simp; omega) _ rfl ?_; intro g cap' w6 hown hgrow hat hglt)
        all_goals
          have hB6 : Below w1.heap.size w3 w6 := (below_drew w3).mono hs3 |>.trans (push_below hV4 hgrow (Nat.le_refl _) hs3)
          have hV6 : NewI w1.heap.size w6 (.slice (some ⟨g, 0, none⟩) (o.length + 1) cap') (o ++ [s]) := by
            unfold NewI
            rw [List.length_append, List.map_append]
            exact hown
          go_wp2
          exact ⟨⟨j + 1, hlt, by go_num, by rw [hT.out, ← HQ.out]; exact hV6, hB3.trans hB6⟩, by simp [intOf]; omega⟩
    · have hjj : j = L.length := by omega
      subst hjj
      rw [List.take_length] at hV
      go_wp2
      go_ret
      exact ⟨_, rfl, hV.mono hs1, hB1.trans (hB.mono hs1)⟩
end Go.Proofs.Ytipdmnfkigoanaa
