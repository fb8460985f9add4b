import Derived.Test.YtokknppnnddihaaOvTests
namespace Go.Proofs.Ytokknppnnddihaa
open Go.RowKit

/-- clear(xs) of a row of ints of the call's own: its own block alone turns. -/
theorem run_clear_int {w : World} {base n : Nat} {v : Value} {xs : List Value} (ty : TypeId) (h : w.ownsRow base 3 1 v n xs) :
    ∃ w', (Builtin.clear_ #[23] ty #[v]).run Try.prog w = .ok (.tuple #[]) w' ∧ w.grownBy w' v.ownBlock := by
  have hu := run_underlying Try.underlying23
  have hz : ∀ w, (zeroValue 3).run Try.prog w = .ok (.int .i64 0) w := fun w => by kernel_rfl
  obtain ⟨h1, (⟨rfl, rfl⟩ | ⟨g, cap, cur, rfl, hg, hh, hcap, hmax, hsz, htk⟩)⟩ := h
  · exact ⟨w, by simp [Builtin.clear_, hu, go_sem], ⟨rfl, rfl, rfl, Nat.le_refl _, fun _ _ _ => rfl⟩⟩
  · cases n with
    | zero => exact ⟨w, by simp [Builtin.clear_, hu, go_sem], ⟨rfl, rfl, rfl, Nat.le_refl _, fun _ _ _ => rfl⟩⟩
    | succ n =>
      have hl : (Builtin.zeroCells #[Value.int .i64 0] (n + 1)).toList.length = n + 1 := by simp [Builtin.zeroCells]
      have hs := run_storeCells_at (P := Try.prog) g 0 3 (Builtin.zeroCells #[Value.int .i64 0] (n + 1)).toList 0 cur w hh (by rw [hl, hsz]; omega) (fun u hu => by
        simp only [Builtin.zeroCells, Array.toList_map, List.mem_map] at hu
        obtain ⟨i, _, rfl⟩ := hu
        simp only [List.size_toArray, List.length_cons, List.length_nil, Nat.zero_add, Nat.mod_one]
        rfl)
      refine ⟨w.setRow g ((Builtin.zeroCells #[Value.int .i64 0] (n + 1)).toList ++ List.drop (Builtin.zeroCells #[Value.int .i64 0] (n + 1)).size cur.toList).toArray, by simp [Builtin.clear_, hu, hz, hs, go_sem], ⟨rfl, rfl, rfl, by simp [World.setRow], fun k hk hne => ?_⟩⟩
      show (w.heap.modify g _)[k]? = _
      rw [Array.getElem?_modify, if_neg (fun e => hne (by rw [← e]; rfl))]

theorem wpList_clear {w : World} {ops : Array Oper} {rest : List Oper} {o : Oper} {a : Act} {Q : Exit → Act → World → Prop} (hgd : o.guard = none) (s : Operand) (t : TypeId)
    (ho : o.op = .call { callee := .builtin .clear, args := #[s], argTypes := #[t] }) (v : Value) (hs : a.eval s = v) {w' : World} {r : Value}
    (hr : (Builtin.clear_ #[t] o.type #[v]).run Try.prog w = .ok r w') (h : wpList Try.prog ops Q rest (a.put o.dst r) w') : wpList Try.prog ops Q (o :: rest) a w := by
  refine wpList_plain hgd fun K hK => ?_
  unfold Oper.wp execOp
  simp only [ho, resolve, invoke, builtin, Sem.run_bind, Sem.run_pure, Result.andThen_ok, List.map_toArray, List.map_cons, List.map_nil, hs, hr]
  exact hK _ _ h

/-- A row of the law's own of rows that came in. -/
def WantAt (w : World) (c : Nat) (χ : Col) (W : World) (v : Value) (l : List (List Int)) : Prop :=
  ∃ vs, W.ownsRow w.heap.size 23 1 v l.length vs ∧ (∀ b, v.ownBlock = some b → χ b = c) ∧ ∀ i (hi : i < l.length), ∃ x, vs[i]? = some x ∧ IsI 0 (fun _ => 0) w x l[i]
theorem WantAt.keep {w : World} {c : Nat} {χ χ' : Col} {W W' : World} {v : Value} {l : List (List Int)} (h : WantAt w c χ W v l) (hs : Same (· = c) χ χ' W W') : WantAt w c χ' W' v l := by
  obtain ⟨vs, h1, h2, h3⟩ := h
  exact ⟨vs, owns_same h1 fun b e => (hs b (h1.lt b e).2 (h2 b e)).2, fun b e => ((hs b (h1.lt b e).2 (h2 b e)).1).trans (h2 b e), h3⟩
theorem WantAt.get {w : World} {c : Nat} {χ : Col} {W : World} {v : Value} {l : List (List Int)} (h : WantAt w c χ W v l) (i : Nat) (hi : i < l.length) :
    ∃ g cap x, v = .slice (some ⟨g, 0, none⟩) l.length cap ∧ W.cell? ⟨g, i, none⟩ = some x ∧ IsI 0 (fun _ => 0) w x l[i] := by
  obtain ⟨vs, h1, h2, h3⟩ := h
  obtain ⟨x, hx, hI⟩ := h3 i hi
  obtain ⟨A, cap, rfl⟩ := owns_form h1
  obtain ⟨k1, (⟨e, h0⟩ | ⟨g, _, _, e, _⟩)⟩ := id h1
  · omega
  · cases e
    refine ⟨g, cap, x, rfl, ?_, hI⟩
    have := h1.cells (g := g) rfl i x hx
    have e2 : (⟨g, 0, none⟩ : Addr).add i = ⟨g, i, none⟩ := by unfold Addr.add; split <;> simp_all
    rwa [e2] at this

/-- A row of rows of the law's own, of which those from the j-th on are as they were. -/
def ListFrom (cO cI j : Nat) (χ : Col) (W : World) (v : Value) (l : List (List Int)) : Prop :=
  ∃ vs, W.ownsRow 0 23 1 v l.length vs ∧ (∀ b, v.ownBlock = some b → χ b = cO) ∧ ∀ i (hi : i < l.length), j ≤ i → ∃ s, vs[i]? = some s ∧ OwnI (cI + i) χ W s l[i]
theorem OwnII.from {cO cI : Nat} {χ : Col} {W : World} {v : Value} {l : List (List Int)} (h : OwnII cO cI χ W v l) : ListFrom cO cI 0 χ W v l := by
  obtain ⟨vs, h1, h2, h3⟩ := h
  exact ⟨vs, h1, h2, fun i hi _ => h3 i hi⟩
theorem ListFrom.keep {cO cI j j' : Nat} {χ χ' : Col} {W W' : World} {v : Value} {l : List (List Int)} (h : ListFrom cO cI j χ W v l) (hs : Same (fun x => x = cO ∨ cI + j' ≤ x) χ χ' W W') (hj : j ≤ j') : ListFrom cO cI j' χ' W' v l := by
  obtain ⟨vs, h1, h2, h3⟩ := h
  refine ⟨vs, owns_same h1 fun b e => (hs b (h1.lt b e).2 (.inl (h2 b e))).2, fun b e => ((hs b (h1.lt b e).2 (.inl (h2 b e))).1).trans (h2 b e), fun i hi hij => ?_⟩
  obtain ⟨s, e, ho⟩ := h3 i hi (by omega)
  exact ⟨s, e, ho.keep (hs.mono fun x hx => .inr (by omega))⟩
theorem ListFrom.get {cO cI j : Nat} {χ : Col} {W : World} {v : Value} {l : List (List Int)} (h : ListFrom cO cI j χ W v l) (i : Nat) (hi : i < l.length) (hj : j ≤ i) :
    ∃ g cap A c, v = .slice (some ⟨g, 0, none⟩) l.length cap ∧ W.cell? ⟨g, i, none⟩ = some (.slice A l[i].length c) ∧ OwnI (cI + i) χ W (.slice A l[i].length c) l[i] := by
  obtain ⟨vs, h1, h2, h3⟩ := h
  obtain ⟨x, hx, hI⟩ := h3 i hi hj
  obtain ⟨A, cap, rfl⟩ := owns_form h1
  obtain ⟨A', c', rfl⟩ := owns_form hI.1
  obtain ⟨k1, (⟨e, h0⟩ | ⟨g, _, _, e, _⟩)⟩ := id h1
  · omega
  · cases e
    refine ⟨g, cap, A', c', rfl, ?_, hI⟩
    have := h1.cells (g := g) rfl i _ hx
    have e2 : (⟨g, 0, none⟩ : Addr).add i = ⟨g, i, none⟩ := by unfold Addr.add; split <;> simp_all
    rwa [e2] at this
theorem OwnI.isI {c : Nat} {χ : Col} {w : World} {v : Value} {xs : List Int} (h : OwnI c χ w v xs) (hl : xs.length ≤ 1000000) : IsI c χ w v xs := isI_owns h.1 (by omega) h.2

set_option maxHeartbeats 1000000 in
theorem all_no (w : World) (v u : Value) (s : List (List Int)) (a : List Int) (hs : IsII 0 0 (fun _ => 0) w v s) (ha : IsI 0 (fun _ => 0) w u a)
    (hno : Hid (fewM s = false ∨ (fewM s = true ∧ fewM [a] = false))) :
    Calls Try.prog 7 #[v, u] w fun e w' => e = .returned (.bool true) ∧ Below w.heap.size w w' := by
  obtain ⟨A, c, rfl, -, -, -, -⟩ := id hs
  obtain ⟨B, d, rfl, -, -, -, -⟩ := id ha
  go_enter Try.func7, Try.ntmps7
  go_wp2_with fail
  refine (alive_calls _).mono ?_
  rintro e w1 ⟨rfl, hbw⟩
  have hs := hs.keep (Same.below' hbw)
  have ha := ha.keep (Same.below' hbw)
  rcases hno.out with h | ⟨h, h2⟩
  · have H := Lib.hid h; clear h hno
    go_wp2_with fail
    refine (few_calls _ _ _ hs).mono ?_
    rw [H.out]
    rintro e w2 ⟨rfl, rfl⟩
    go_wp2
    go_ret
    exact ⟨rfl, hbw⟩
  · have H := Lib.hid h; have H2 := Lib.hid h2; clear h h2 hno
    go_wp2_with fail
    refine (few_calls _ _ _ hs).mono ?_
    rw [H.out]
    rintro e w2 ⟨rfl, rfl⟩
    go_wp2_with fail
    refine (few_calls _ _ [a] (isII_lit ha rfl)).mono ?_
    rw [H2.out]
    rintro e w3 ⟨rfl, rfl⟩
    go_wp2
    go_ret
    exact ⟨rfl, hbw.alloc hbw.size _⟩


set_option maxHeartbeats 16000000 in
theorem all_yes (w : World) (v u : Value) (s : List (List Int)) (a : List Int) (hs : IsII 0 0 (fun _ => 0) w v s) (ha : IsI 0 (fun _ => 0) w u a)
    (f1 : Hid (fewM s = true)) (f2 : Hid (fewM [a] = true)) :
    Calls Try.prog 7 #[v, u] w fun e w' => e = .returned (.bool true) ∧ Below w.heap.size w w' := by
  obtain ⟨A, c, rfl, s1, s2, s3, -⟩ := id hs
  obtain ⟨B, d, rfl, a1, a2, a3, -⟩ := id ha
  unfold maxLen at s2 a2
  obtain ⟨i0, hi0, hz0, hz1, hz2⟩ := info_parts infoII
  have fs := Lib.hid ((fewM_iff s).1 f1.out)
  have hl30 : s.length ≤ 30 := fs.out.2
  have HA := ha; have HS := hs
  go_enter Try.func7, Try.ntmps7
  go_wp2_with fail
  refine (alive_calls _).mono ?_
  rintro e w1 ⟨rfl, hbw⟩
  go_wp2_with fail
  refine (few_calls _ _ _ (hs.keep (Same.below' hbw))).mono ?_
  rw [f1.out]
  rintro e w2 ⟨rfl, rfl⟩
  go_wp2_with fail
  refine (few_calls _ _ [a] (isII_lit (ha.keep (Same.below' hbw)) rfl)).mono ?_
  rw [f2.out]
  rintro e w3 ⟨rfl, hw3⟩
  have hb3 : Below w.heap.size w w3 := by rw [hw3]; exact hbw.alloc hbw.size _
  clear hw3
  go_wp2
  obtain ⟨χ, hI⟩ := rinv_new hb3
  have o2 := World.ownsRow_made (base := w.heap.size) (e := 23) (size := 1) (w3.alloc (.cells #[.slice none 0 0] 27)) #[] 0 (by have := hb3.size; simp; omega) (Nat.zero_le _) rfl
  have hI2 := hI.chg (χ2 := paint χ (w3.heap.size + 1) 3) (C := fun _ => False) (Chg.of_below ((Below.refl _ _).alloc (Nat.le_refl _) (.cells #[] 23))) (fun b hb => paint_low (by simpa using hb)) id id id
  have hw0 : WantAt w 3 (paint χ (w3.heap.size + 1) 3) ((w3.alloc (.cells #[.slice none 0 0] 27)).alloc (.cells #[] 23)) (.slice (some ⟨w3.heap.size + 1, 0, none⟩) 0 0) [] := by
    refine ⟨[], ?_, fun b e => ?_, fun i hi => by simp at hi⟩
    · simp only [World.size_alloc] at o2; exact o2
    · cases e; exact paint_high (Nat.le_refl _)
  clear o2 hI
  obtain ⟨pb, hpb⟩ : ∃ pb, pb = w3.heap.size := ⟨_, rfl⟩
  rw [← hpb] at hI2 hw0
  rw [← hpb]
  clear hpb
  go_loopw [6, 7, 28] (fun n v i wr => ∃ (k : Nat) (χ : Col), k ≤ s.length ∧ i = .int .i64 k ∧ n = .int .i64 (mostM a (recs (s.take k))) ∧ RInv w pb χ (recs (s.take k)) wr ∧ WantAt w 3 χ wr v (recs (s.take k))) (fun _ _ i _ => s.length - (intOf i).toNat)
  case atStart => exact ⟨0, paint χ (pb + 1) 3, by omega, rfl, rfl, hI2, hw0⟩
  case round =>
    obtain ⟨k, χ, hk, rfl, rfl, hI, hW⟩ := hrel
    have hrl := recs_len s k
    by_cases hlt : k < s.length
    · obtain ⟨gb, go, x, rfl, hcell0, hx0⟩ := HS.getS k hlt
      have hcell := below_cell hI.2.1 hcell0
      obtain ⟨X, cx, rfl, x1, x2, x3, -⟩ := id hx0
      have hlx : s[k].length ≤ 60 := fs.out.1 _ (List.getElem_mem hlt)
      have hx := hI.args hx0
      by_cases hr : rightM 0 s[k] = true
      · have HR : Hid (rightM 0 s[k] = true) := hr
        have HS2 := Lib.hid (recs_take_yes hlt hr)
        clear hr
        go_wp2_with fail
        refine (add_yes _ _ _ _ hI.1 hx (by omega) (by omega) HR).mono ?_
        rintro e w4 ⟨rfl, hq⟩
        have hW2 : ∃ χ', RInv w pb χ' (recs (s.take k) ++ [s[k]]) w4 ∧ WantAt w 3 χ' w4 u7 (recs (s.take k)) := by
          obtain ⟨χ', h1, h2, h3⟩ := hq
          obtain ⟨χ'', h4⟩ := hI.add ⟨χ', h1, h2, h3⟩
          exact ⟨χ', ⟨h2, h4.2.1, fun b hb => (h1 b (by have := hI.2.1.size; omega)).trans (hI.2.2 b hb)⟩, hW.keep (Same.chg' h3 h1 (fun x hx => by subst hx; simp))⟩
        obtain ⟨χ2, I2, W2⟩ := hW2
        clear hq hx hI hW
        obtain ⟨vs7, o7, c7, e7⟩ := W2
        have C7 := Lib.hid c7; have E7 := Lib.hid e7; clear c7 e7
        have b1 := sharedM_bd a s[k]
        have b4 := mostM_bd a (recs (s.take k))
        go_wp2_with (at_builtin; refine wpList_append_own_at _ rfl _ _ 22 rfl w.heap.size 23 i0 _ 1 24 Try.underlying22 hi0 hz0 hz1 hz2 rfl (by decide) _ _ _ rfl (o7.alloc _) ⟨_, 0, none⟩ 1 1 [.slice X s[k].length cx] rfl rfl (cell_one_new _ _ _) (by simp [Value.oneCell']) (by unfold maxLen; omega) (by omega) (by have := I2.2.1.size; simp; omega) ?_; intro v' w5 hown' hgrow _ hat; obtain ⟨g', cap', rfl⟩ := ownsRow_succ hown')
        obtain ⟨q1, q2⟩ := own_push o7 C7.out hgrow hat
        have I3 := I2.chg (χ2 := paint χ2 w4.heap.size 3) q2 (fun b hb => paint_low hb) (by omega) (by omega) (by omega)
        have W3 : WantAt w 3 (paint χ2 w4.heap.size 3) w5 (.slice (some ⟨g', 0, none⟩) ((recs (s.take k)).length + 1) cap') (recs (s.take k) ++ [s[k]]) := by
          refine ⟨vs7 ++ [.slice X s[k].length cx], by rw [List.length_append]; exact hown', q1, fun i hi => ?_⟩
          have hl7 : vs7.length = (recs (s.take k)).length := by have := o7.1; omega
          by_cases hi' : i < (recs (s.take k)).length
          · obtain ⟨x, h1, h2⟩ := E7.out i hi'
            exact ⟨x, by rw [List.getElem?_append_left (by omega)]; exact h1, by rw [List.getElem_append_left hi']; exact h2⟩
          · have hie : i = (recs (s.take k)).length := by simp at hi; omega
            subst hie
            exact ⟨_, by rw [List.getElem?_append_right (by omega), hl7]; simp; rfl, by rw [List.getElem_append_right (by omega)]; simpa using hx0⟩
        clear q1 q2 hat hgrow hown' o7 I2
        refine (shared_calls _ _ _ _ _ (I3.args HA) (I3.args hx0)).mono ?_
        rintro e w6 ⟨rfl, hq⟩
        have I4 := I3.step (quiet_below hq)
        have W4 := W3.keep (Same.below' (quiet_below hq))
        clear hq I3 W3
        go_wp2
        go_roundw
        case rel => exact ⟨k + 1, paint χ2 w4.heap.size 3, hlt, by go_num, val_int (by rw [HS2.out, mostM_snoc]; split <;> omega), by rw [HS2.out]; exact I4, by rw [HS2.out]; exact W4⟩
        case measure => simp [intOf]; omega
      · have HR : Hid (rightM 0 s[k] = false) := Bool.eq_false_iff.2 hr
        have HS2 := Lib.hid (recs_take_no hlt HR)
        clear hr
        go_wp2_with fail
        refine (add_no _ _ _ _ hx HR).mono ?_
        rintro e w4 ⟨rfl, rfl⟩
        go_wp2
        go_roundw
        case rel => exact ⟨k + 1, χ, hlt, by go_num, val_int (by rw [HS2.out]), by rw [HS2.out]; exact hI, by rw [HS2.out]; exact hW⟩
        case measure => simp [intOf]; omega
    · have htk : s.take k = s := List.take_of_length_le (by omega)
      rw [htk] at hI hW hrl ⊢
      clear htk
      have hin : ∀ x ∈ recs s, x.length ≤ 60 := fun x hx => fs.out.1 x (List.mem_filter.1 hx).1
      have HIN := Lib.hid hin; clear hin
      go_wp2_with fail
      refine (allf_calls _ _ 1000 (cO := 4) (cI := 10) hI.1 (by omega) (fun x hx => by have := HIN.out x hx; omega) (by omega)).mono ?_
      rintro e w5 ⟨v10, χ3, rfl, h1, h2, h3⟩
      rw [List.take_of_length_le (by simp; omega)] at h2
      have I1 := hI.color h3 h1
      have W1 := hW.keep (χ' := χ3) (W' := w5) (fun b hb _ => ⟨h1 b hb, h3.block b hb⟩)
      obtain ⟨A10, c10, rfl⟩ := h2.isII
      have L1 := h2.from
      clear h1 h2 h3 hI hW
      obtain ⟨L, hL⟩ : ∃ L, L = recs s := ⟨_, rfl⟩
      rw [← hL] at I1 W1 L1 hrl HIN ⊢
      clear hL
      have hL30 : L.length ≤ 30 := by omega
      have hu7 : ∃ A cap, u7 = .slice A L.length cap := by obtain ⟨vs, h, _⟩ := W1; exact owns_form h
      obtain ⟨A7, c7, rfl⟩ := hu7
      go_wp2
      go_loopw [48] (fun i wr => ∃ (j : Nat) (χ : Col), j ≤ L.length ∧ i = .int .i64 j ∧ RInv w pb χ L wr ∧ WantAt w 3 χ wr (.slice A7 L.length c7) L ∧ ListFrom 4 10 j χ wr (.slice A10 L.length c10) L) (fun i _ => L.length - (intOf i).toNat)
      case atStart => exact ⟨0, χ3, by omega, rfl, I1, W1, L1⟩
      case round =>
        clear I1 W1 L1
        obtain ⟨j, χ, hj, rfl, hI, hW, hL⟩ := hrel
        by_cases hlt : j < L.length
        · obtain ⟨gw, cw, x, e, hcw, hxI⟩ := hW.get j hlt
          cases e
          obtain ⟨gl, cl, Al, cl2, e, hcl, hO⟩ := hL.get j hlt (Nat.le_refl _)
          cases e
          have hx := hI.args hxI
          have hlj := HIN.out _ (List.getElem_mem hlt)
          have hl := hO.isI (by omega)
          have i1 : (0 : Int) ≤ (j : Int) := by omega
          have i2 : (j : Int) < (L.length : Int) := by omega
          have hd : decide ((L.length : Int) ≤ (j : Int)) = false := by simp; omega
          go_wp2
          go_quiet ((go_at_call 14; exact Calls.quiet_of (sameInts_self _ _ _ _ (by exact hl) (by exact hx))))
          obtain ⟨w7, hrun, hgr⟩ := run_clear_int (w := wr.drewN nq) 0 (by exact hO.1)
          go_wp2_with (at_builtin; refine wpList_clear rfl _ 23 rfl _ rfl hrun ?_)
          have hcg : Chg χ (· = 10 + j) wr w7 := ⟨hgr.os, hgr.tape, hgr.output, hgr.size, fun b hb hc => hgr.block b hb (fun e => hc (hO.2 b e.symm))⟩
          go_roundw
          case rel => exact ⟨j + 1, χ, hlt, by go_num, hI.chg hcg (fun _ _ => rfl) (by omega) (by omega) (by omega), hW.keep (Same.chg' hcg (fun _ _ => rfl) (fun x hx => by omega)), hL.keep (Same.chg' hcg (fun _ _ => rfl) (fun x hx => by omega)) (by omega)⟩
          case measure => simp [intOf]; omega
        · have hl2 : L.length ≤ 1000000 := by omega
          clear hL
          go_wp2_with fail
          refine (allf_calls _ _ 1000 (cO := 5) (cI := 50) hI.1 (by omega) (fun x hx => by have := HIN.out x hx; omega) (by omega)).mono ?_
          rintro e w8 ⟨v12, χ4, rfl, h1, h2, h3⟩
          rw [List.take_of_length_le (by simp; omega)] at h2
          have I1 := hI.color h3 h1
          have W1 := hW.keep (χ' := χ4) (W' := w8) (fun b hb _ => ⟨h1 b hb, h3.block b hb⟩)
          obtain ⟨A12, c12, rfl⟩ := h2.isII
          have L1 := h2.from
          clear h1 h2 h3 hI hW
          go_wp2
          go_loopw [75] (fun i wr => ∃ (j : Nat), j ≤ L.length ∧ i = .int .i64 j ∧ RInv w pb χ4 L wr ∧ WantAt w 3 χ4 wr (.slice A7 L.length c7) L ∧ ListFrom 5 50 0 χ4 wr (.slice A12 L.length c12) L) (fun i _ => L.length - (intOf i).toNat)
          case atStart => exact ⟨0, by omega, rfl, I1, W1, L1⟩
          case round =>
            clear I1 W1 L1
            obtain ⟨j2, hj2, rfl, hI, hW, hL⟩ := hrel
            by_cases hlt2 : j2 < L.length
            · obtain ⟨gw, cw, x, e, hcw, hxI⟩ := hW.get j2 hlt2
              cases e
              obtain ⟨gl, cl, Al, cl2, e, hcl, hO⟩ := hL.get j2 hlt2 (Nat.zero_le _)
              cases e
              have hx := hI.args hxI
              have hlj := HIN.out _ (List.getElem_mem hlt2)
              have hl := hO.isI (by omega)
              have i1 : (0 : Int) ≤ (j2 : Int) := by omega
              have i2 : (j2 : Int) < (L.length : Int) := by omega
              go_wp2
              go_quiet ((go_at_call 14; exact Calls.quiet_of (sameInts_self _ _ _ _ (by exact hl) (by exact hx))))
              go_wp2
              have hbq := below_drewN wr wr.heap.size nq
              go_roundw
              case rel => exact ⟨j2 + 1, hlt2, by go_num, hI.step hbq, hW.keep (Same.below' hbq), hL.keep (j' := 0) (Same.below' hbq) (by omega)⟩
              case measure => simp [intOf]; omega
            · go_wp2_with fail
              refine (most_calls _ _ _ a hI.1 (hI.args HA) hl2).mono ?_
              rintro e w9 ⟨rfl, hq⟩
              have I9 := hI.step (quiet_below hq)
              go_wp2
              go_ret
              exact ⟨rfl, I9.2.1⟩

theorem all_law (w : World) (v u : Value) (s : List (List Int)) (a : List Int) (hs : IsII 0 0 (fun _ => 0) w v s) (ha : IsI 0 (fun _ => 0) w u a) :
    Calls Try.prog 7 #[v, u] w fun e w' => e = .returned (.bool true) ∧ Below w.heap.size w w' := by
  cases h1 : fewM s with
  | false => exact all_no w v u s a hs ha (.inl h1)
  | true =>
    cases h2 : fewM [a] with
    | false => exact all_no w v u s a hs ha (.inr ⟨h1, h2⟩)
    | true => exact all_yes w v u s a hs ha h1 h2
end Go.Proofs.Ytokknppnnddihaa
