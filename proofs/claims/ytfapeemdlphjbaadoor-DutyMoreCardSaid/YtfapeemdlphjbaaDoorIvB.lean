import Derived.Test.YtfapeemdlphjbaaDoorIvA
namespace Go.Proofs.YtfapeemdlphjbaaDoor
open Go.RowKit
attribute [local go_sem] World.cell?_alloc_some frozen_alloc_some

theorem notL_lt {q : Nat} {s : Sp} {a : List Sp} (h : q < s.1) : notL q (s :: a) = [(q, s.1 - 1)] ++ notL (s.2 + 1) a := by
  rw [notL, if_pos h]
theorem notL_ge {q : Nat} {s : Sp} {a : List Sp} (h : ¬ q < s.1) : notL q (s :: a) = notL (s.2 + 1) a := by
  rw [notL, if_neg h]; rfl

theorem not_new {p : Nat → Prop} {n m : Nat} {l o : List Sp} {w : World} {v : Value} (h : IsSet p l) (e : l = o) (V : w.ownsRow n 44 2 v o.length (o.flatMap spc)) (hm : m ≤ n) (hl : o.length ≤ 1000000) : NewS m w v l := by
  subst e; exact ⟨V.mono_base hm, h.nf.wf, hl⟩
set_option maxRecDepth 100000 in
set_option maxHeartbeats 4000000 in
theorem not_calls (w : World) (v : Value) (l : List Sp) (hr : RdS w v l) (hn : l.length ≤ 50000) :
    Calls Tryd.prog 46 #[v] w fun e w' => ∃ v' l', e = .returned v' ∧ NewS w.heap.size w' v' l' ∧ IsSet (fun k => k < 4294967296 ∧ ¬ Mem k l) l' ∧ l'.length ≤ l.length + 1 ∧ Below w.heap.size w w' := by
  obtain ⟨A, cap, rfl, a1, a2, a3, -⟩ := id hr
  unfold maxLen at a2
  have HR := Lib.hid hr
  clear hr
  obtain ⟨i0, hi, hz0, hz1, hz2⟩ := info_parts infoSp
  go_enter Tryd.func46, Tryd.ntmps46
  go_wp2_with fail
  refine (make_calls _ _ _ HR.out (by omega)).mono ?_
  rintro e w1 ⟨v1, a, rfl, N1, hset, hal, hb1⟩
  obtain ⟨A1, cap1, rfl⟩ := N1.form
  have R1 := Lib.hid N1.rd
  have HSET := Lib.hid hset
  have hnot := notL_spec a 0 hset.nf fun k _ => Nat.zero_le _
  have HN := Lib.hid hnot
  clear N1 hset hnot
  go_wp2
  go_loopw [3, 4, 10] (fun v q i wr => ∃ (j q' : Nat) (o : List Sp), j ≤ a.length ∧ i = .int .i64 j ∧ q = .int .u64 q' ∧ q' ≤ 4294967296 ∧ o.length ≤ j ∧ Hid (notL 0 a = o ++ notL q' (a.drop j)) ∧ wr.ownsRow w1.heap.size 44 2 v o.length (o.flatMap spc) ∧ Below w1.heap.size w1 wr) (fun _ _ i _ => a.length - (intOf i).toNat)
  case atStart => exact ⟨0, 0, [], by omega, rfl, rfl, by omega, by simp, rfl, World.ownsRow_nil _ _ _ _, Below.refl _ _⟩
  case round =>
    obtain ⟨j, q, o, hj, rfl, rfl, hq, hol, HM, V, hbr⟩ := hrel
    obtain ⟨A6, cap6, rfl⟩ := owns_form V
    by_cases hlt : j < a.length
    · obtain ⟨gb, go, rfl, p0, p1, q0, q1⟩ := (R1.out.keep hbr).get j hlt
      have hD : Hid (a.drop j = a[j] :: a.drop (j + 1)) := List.drop_eq_getElem_cons hlt
      obtain ⟨s, hs⟩ : ∃ s, s = a[j] := ⟨_, rfl⟩
      rw [← hs] at p0 p1 q0 q1 hD
      clear hs
      have hbl := hbr.alloc hbr.size (.cells #[.int .u32 s.1, .int .u32 s.2] 44)
      have V1 := V.alloc (.cells #[.int .u32 s.1, .int .u32 s.2] 44)
      have hsz := hbr.size
      by_cases hk : q < s.1
      · have HM2 : Hid (notL 0 a = (o ++ [(q, s.1 - 1)]) ++ notL (s.2 + 1) (a.drop (j + 1))) := by
          show _ = _; rw [HM.out, hD.out, notL_lt hk, List.append_assoc]
        go_wp2_with (at_builtin; refine push_sp rfl _ _ rfl w1.heap.size o _ rfl V1 (by omega) (by simp; omega) q (s.1 - 1) _ _ _ rfl (by simp) rfl (by omega) ?_; intro v' w6 V6 hb6 ho6; have hb7 := hbl.trans hb6; obtain ⟨⟨c0, c1⟩, -⟩ := cells2 ((ho6 wr.heap.size (by simp) (fun e => by have := (V.lt _ e.symm).2; omega)).trans (heap_alloc_at wr (.cells #[.int .u32 s.1, .int .u32 s.2] 44))))
        refine ⟨⟨j + 1, s.2 + 1, o ++ [(q, s.1 - 1)], hlt, by go_num, by go_num, by omega, by simp; omega, HM2, V6, hb7⟩, by simp [intOf]; omega⟩
      · have HM2 : Hid (notL 0 a = o ++ notL (s.2 + 1) (a.drop (j + 1))) := by
          show _ = _; rw [HM.out, hD.out, notL_ge hk]
        go_wp2
        refine ⟨⟨j + 1, s.2 + 1, o, hlt, by go_num, by go_num, by omega, by omega, HM2, V1, hbl⟩, by simp [intOf]; omega⟩
    · have hjj : j = a.length := by omega
      subst hjj
      have HM2 : Hid (notL 0 a = o ++ (if q ≤ 4294967295 then [(q, 4294967295)] else [])) := by
        show _ = _; rw [HM.out, List.drop_length, notL]
      clear HM
      by_cases hk : q ≤ 4294967295
      · rw [if_pos hk] at HM2
        go_wp2_with (at_builtin; refine push_sp rfl _ _ rfl w1.heap.size o _ rfl V (by omega) hbr.size q 4294967295 _ _ _ rfl rfl rfl (by simp) ?_; intro v' w6 V6 hb6 ho6)
        have hbb := hb1.trans ((hbr.trans hb6).mono hb1.size)
        go_ret
        exact ⟨_, _, rfl, not_new HN.out HM2.out V6 hb1.size (by simp; omega), (HN.out.of fun k => by rw [HSET.out.iff]; grind), by rw [HM2.out]; simp; omega, hbb⟩
      · rw [if_neg hk, List.append_nil] at HM2
        have hbb := hb1.trans (hbr.mono hb1.size)
        go_wp2
        go_ret
        exact ⟨_, _, rfl, not_new HN.out HM2.out V hb1.size (by omega), (HN.out.of fun k => by rw [HSET.out.iff]; grind), by rw [HM2.out]; omega, hbb⟩
end Go.Proofs.YtfapeemdlphjbaaDoor
