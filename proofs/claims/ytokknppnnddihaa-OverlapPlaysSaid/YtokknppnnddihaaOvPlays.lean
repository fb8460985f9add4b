import Derived.Test.YtokknppnnddihaaOvAll
import Derived.Test.YtokknppnnddihaaOvJ
import Derived.Laws.AppendOwnNone
import Derived.Laws.Bits128
namespace Go.Proofs.Ytokknppnnddihaa
open Go.RowKit

theorem cellsI' {c : Nat} {χ : Col} {w : World} {a : Addr} {n cap : Nat} {xs : List Int} (h : IsI c χ w (.slice (some a) n cap) xs) :
    n = xs.length ∧ (∀ j u, (xs.map (Value.int .i64))[j]? = some u → w.cell? (a.add j) = some u) ∧ ∀ u ∈ xs.map (Value.int .i64), u.oneCell' = true := by
  have hn : n = xs.length := by obtain ⟨A, cap', e, _⟩ := id h; cases e; rfl
  by_cases hx : xs = []
  · subst hx
    exact ⟨hn, fun j u hj => by simp at hj, fun u hu => by simp at hu⟩
  · obtain ⟨b, o, e, -⟩ := h.getI 0 (List.length_pos_iff.2 hx)
    cases e
    exact ⟨hn, (cellsI h).2⟩

theorem i64_and7 (n : Int) : bits .and .i64 n 7 = n % 8 := by
  have h127 : (BitVec.ofInt 64 7).toNat = 2 ^ 3 - 1 := by decide
  have key : (BitVec.ofInt 64 n &&& BitVec.ofInt 64 7).toNat = (n % ((2 ^ 64 : Nat) : Int)).toNat % 2 ^ 3 := by
    rw [BitVec.toNat_and, BitVec.toNat_ofInt, h127, Nat.and_two_pow_sub_one_eq_mod]
  show IntKind.i64.wrap ((BitVec.ofInt 64 n &&& BitVec.ofInt 64 7).toNat : Nat) = n % 8
  rw [key, IntKind.wrap_i64]
  omega

theorem isII_lit2 {w : World} {b : Nat} {v u : Value} {x y : List Int} {t : TypeId} (h : IsI 0 (fun _ => 0) w v x) (k : IsI 0 (fun _ => 0) w u y) (hb : b = w.heap.size) :
    IsII 0 0 (fun _ => 0) (w.alloc (.cells #[v, u] t)) (.slice (some ⟨b, 0, none⟩) 2 2) [x, y] := by
  subst hb
  refine ⟨_, _, rfl, Nat.le_refl _, by unfold maxLen; omega, ⟨by simp, fun h => by cases h⟩, fun i hi => ?_⟩
  have hi2 : i = 0 ∨ i = 1 := by simp at hi; omega
  rcases hi2 with rfl | rfl
  · refine ⟨w.heap.size, 0, [v], rfl, rfl, rfl, ⟨v, rfl, h.alloc _⟩, fun j hj => ?_⟩
    have hj0 : j = 0 := by simpa using hj
    subst hj0
    simp
  · refine ⟨w.heap.size, 0, [u], rfl, rfl, rfl, ⟨u, rfl, k.alloc _⟩, fun j hj => ?_⟩
    have hj0 : j = 0 := by simpa using hj
    subst hj0
    simp

/-- append(v, u...) of ints: v of the call's own, u whatever row of ints. -/
theorem wpList_append_ints {w : World} {ops : Array Oper} {rest : List Oper} {o : Oper} {a : Act} {Q : Exit → Act → World → Prop} (hgd : o.guard = none) (s x : Operand)
    (ho : o.op = .call { callee := .builtin .append, args := #[s, x], argTypes := #[23, 23] })
    (base : Nat) (v : Value) (n : Nat) (xs : List Value) (hs : a.eval s = v) (hown : w.ownsRow base 3 1 v n xs)
    (u : Value) {c : Nat} {χ : Col} (ys : List Int) (hx : a.eval x = u) (hu : IsI c χ w u ys) (h63 : n + ys.length ≤ 1000000) (hbase : base ≤ w.heap.size)
    (h : ∀ v' w', w'.ownsRow base 3 1 v' (n + ys.length) (xs ++ ys.map (Value.int .i64)) → w.grownBy w' v.ownBlock → (v'.ownBlock = v.ownBlock ∨ v'.ownBlock = some w.heap.size) → (v ≠ .slice none 0 0 → v' ≠ .slice none 0 0) → wpList Try.prog ops Q rest (a.put o.dst v') w') :
    wpList Try.prog ops Q (o :: rest) a w := by
  obtain ⟨j0, hj0, hy0, hy1, hy2⟩ := info_parts infoI
  obtain ⟨A, cap, rfl, u1, u2, u3, -⟩ := id hu
  cases A with
  | some ad =>
    obtain ⟨e1, e2, e3⟩ := cellsI' hu
    exact wpList_append_own_at _ hgd s x 23 ho base 3 j0 _ 1 8 Try.underlying23 hj0 hy0 hy1 hy2 rfl (by decide) v n xs hs hown ad ys.length cap _ hx (by simp) e2 e3 (by unfold maxLen; omega) (by omega) hbase
      fun v' w' k1 k2 k3 k4 => h v' w' k1 k2 k4 (fun hv e => hv (k3.1 e).1)
  | none =>
    have hc : cap = 0 := u3.2 rfl
    have hy : ys = [] := List.length_eq_zero_iff.1 (by omega)
    subst hc; subst hy
    exact wpList_append_own_none hgd s x 23 ho base 3 j0 1 Try.underlying23 hj0 v n xs hs hown hx
      (h v w (by simpa using hown) ⟨rfl, rfl, rfl, Nat.le_refl _, fun _ _ _ => rfl⟩ (.inl rfl) (fun h => h))

theorem fewM2 {a b : List Int} : fewM [a, b] = true ↔ a.length ≤ 60 ∧ b.length ≤ 60 := by rw [fewM_iff]; simp

set_option maxRecDepth 100000 in
set_option maxHeartbeats 1000000 in
theorem plays_no (w : World) (v u x : Value) (s : List (List Int)) (a b : List Int) (m : Int) (hs : IsII 0 0 (fun _ => 0) w v s) (ha : IsI 0 (fun _ => 0) w u a) (hb : IsI 0 (fun _ => 0) w x b)
    (hno : Hid (fewM s = false ∨ (fewM s = true ∧ fewM [a, b] = false))) :
    Calls Try.prog 3 #[v, u, x, .int .i64 m] w fun e w' => e = .returned (.bool true) ∧ Below w.heap.size w w' := by
  obtain ⟨A, c, rfl, -, -, -, -⟩ := id hs
  obtain ⟨B, d, rfl, -, -, -, -⟩ := id ha
  obtain ⟨C, f, rfl, -, -, -, -⟩ := id hb
  go_enter Try.func3, Try.ntmps3
  go_wp2_with fail
  refine (alive_calls _).mono ?_
  rintro e w1 ⟨rfl, hbw⟩
  have hs := hs.keep (Same.below' hbw)
  have ha := ha.keep (Same.below' hbw)
  have hb := hb.keep (Same.below' hbw)
  rcases hno.out with h | ⟨h, h2⟩
  · have H := Lib.hid h; clear h hno
    go_wp2_with fail
    refine (few_calls _ _ _ hs).mono ?_
    rw [H.out]
    rintro e w2 ⟨rfl, rfl⟩
    go_wp2
    go_ret
    exact ⟨rfl, hbw⟩
  · have H := Lib.hid h; have H2 := Lib.hid h2; clear h h2 hno
    go_wp2_with fail
    refine (few_calls _ _ _ hs).mono ?_
    rw [H.out]
    rintro e w2 ⟨rfl, rfl⟩
    go_wp2_with fail
    refine (few_calls _ _ [a, b] (isII_lit2 ha hb rfl)).mono ?_
    rw [H2.out]
    rintro e w3 ⟨rfl, rfl⟩
    go_wp2
    go_ret
    exact ⟨rfl, hbw.alloc hbw.size _⟩

/-- A row of ints of the law's own, of color c, whatever it holds. -/
def OwnAny (c : Nat) (χ : Col) (W : World) (v : Value) (n : Nat) : Prop := ∃ cells, W.ownsRow 0 3 1 v n cells ∧ ∀ b, v.ownBlock = some b → χ b = c
theorem OwnI.any {c : Nat} {χ : Col} {w : World} {v : Value} {xs : List Int} (h : OwnI c χ w v xs) : OwnAny c χ w v xs.length := ⟨_, h.1, h.2⟩
theorem OwnAny.store {c : Nat} {χ : Col} {W : World} {A : Option Addr} {n cap : Nat} (h : OwnAny c χ W (.slice A n cap) n) (j : Nat) (hj : j < n) (x : Int) :
    ∃ g, A = some ⟨g, 0, none⟩ ∧ (∃ y, W.cell? ⟨g, j, none⟩ = some y) ∧ W.frozen? ⟨g, j, none⟩ = false ∧
      Hid (OwnAny c χ (W.setCell ⟨g, j, none⟩ (.int .i64 x)) (.slice A n cap) n ∧ Chg χ (· = c) W (W.setCell ⟨g, j, none⟩ (.int .i64 x))) := by
  obtain ⟨cells, h1, h2⟩ := h
  obtain ⟨k1, (⟨e, h0⟩ | ⟨g, _, cur, e, hg, hh, hcap, hmax, hsz, htk⟩)⟩ := id h1
  · omega
  · cases e
    have hcur : j < cur.size := by omega
    refine ⟨g, rfl, ⟨cur[j], by simp [World.cell?, hh, hcur]⟩, by simp [World.frozen?, hh], ⟨cells.set j (.int .i64 x), ⟨by simpa using k1, .inr ⟨g, cap, cur.setIfInBounds j (.int .i64 x), rfl, hg, ?_, hcap, hmax, by simpa using hsz, ?_⟩⟩, h2⟩, ?_⟩
    · simp only [World.setCell, Array.getElem?_modify]
      simp [hh]
    · rw [Array.toList_setIfInBounds, ← htk, List.take_set]
    · exact ⟨rfl, rfl, rfl, by simp [World.setCell], fun b hb hc => Below.heap_setCell _ _ _ _ (fun e => hc (by rw [e]; exact h2 g rfl))⟩
theorem OwnAny.keep {c : Nat} {χ χ' : Col} {w w' : World} {v : Value} {n : Nat} (h : OwnAny c χ w v n) (hs : Same (· = c) χ χ' w w') : OwnAny c χ' w' v n := by
  obtain ⟨cells, h1, h2⟩ := h
  exact ⟨cells, owns_same h1 fun b e => (hs b (h1.lt b e).2 (h2 b e)).2, fun b e => ((hs b (h1.lt b e).2 (h2 b e)).1).trans (h2 b e)⟩

set_option maxRecDepth 100000 in
set_option maxHeartbeats 16000000 in
theorem plays_yes (w : World) (v u x : Value) (s : List (List Int)) (a b : List Int) (m : Int) (hs : IsII 0 0 (fun _ => 0) w v s) (ha : IsI 0 (fun _ => 0) w u a) (hb : IsI 0 (fun _ => 0) w x b)
    (f1 : Hid (fewM s = true)) (f2 : Hid (fewM [a, b] = true)) :
    Calls Try.prog 3 #[v, u, x, .int .i64 m] w fun e w' => e = .returned (.bool true) ∧ Below w.heap.size w w' := by
  obtain ⟨A, c, rfl, s1, s2, s3, -⟩ := id hs
  obtain ⟨B, d, rfl, a1, a2, a3, -⟩ := id ha
  obtain ⟨C, f, rfl, b1, b2, b3, -⟩ := id hb
  unfold maxLen at s2 a2 b2
  obtain ⟨i0, hi0, hz0, hz1, hz2⟩ := info_parts infoII
  obtain ⟨j0, hj0, hy0, hy1, hy2⟩ := info_parts infoI
  have fs := Lib.hid ((fewM_iff s).1 f1.out)
  have hl30 : s.length ≤ 30 := fs.out.2
  have HA := ha; have HS := hs; have HB := hb
  go_enter Try.func3, Try.ntmps3
  go_wp2_with fail
  refine (alive_calls _).mono ?_
  rintro e w1 ⟨rfl, hbw⟩
  go_wp2_with fail
  refine (few_calls _ _ _ (hs.keep (Same.below' hbw))).mono ?_
  rw [f1.out]
  rintro e w2 ⟨rfl, rfl⟩
  go_wp2_with fail
  refine (few_calls _ _ [a, b] (isII_lit2 (ha.keep (Same.below' hbw)) (hb.keep (Same.below' hbw)) rfl)).mono ?_
  rw [f2.out]
  rintro e w3 ⟨rfl, hw3⟩
  have hb3 : Below w.heap.size w w3 := by rw [hw3]; exact hbw.alloc hbw.size _
  clear hw3
  go_wp2
  obtain ⟨χ, hI⟩ := rinv_new hb3
  have o2 := World.ownsRow_made (base := w.heap.size) (e := 23) (size := 1) (w3.alloc (.cells #[.slice none 0 0] 27)) #[] 0 (by have := hb3.size; simp; omega) (Nat.zero_le _) rfl
  have hI2 := hI.chg (χ2 := paint χ (w3.heap.size + 1) 3) (C := fun _ => False) (Chg.of_below ((Below.refl _ _).alloc (Nat.le_refl _) (.cells #[] 23))) (fun b hb => paint_low (by simpa using hb)) id id id
  have hw0 : WantAt w 3 (paint χ (w3.heap.size + 1) 3) ((w3.alloc (.cells #[.slice none 0 0] 27)).alloc (.cells #[] 23)) (.slice (some ⟨w3.heap.size + 1, 0, none⟩) 0 0) [] := by
    refine ⟨[], ?_, fun b e => ?_, fun i hi => by simp at hi⟩
    · simp only [World.size_alloc] at o2; exact o2
    · cases e; exact paint_high (Nat.le_refl _)
  clear o2 hI
  obtain ⟨pb, hpb⟩ : ∃ pb, pb = w3.heap.size := ⟨_, rfl⟩
  rw [← hpb] at hI2 hw0
  rw [← hpb]
  clear hpb
  go_loopw [10, 36] (fun v i wr => ∃ (k : Nat) (χ : Col) (gq cq : Nat), k ≤ s.length ∧ v = .slice (some ⟨gq, 0, none⟩) (recs (s.take k)).length cq ∧ i = .int .i64 k ∧ RInv w pb χ (recs (s.take k)) wr ∧ WantAt w 3 χ wr v (recs (s.take k))) (fun _ i _ => s.length - (intOf i).toNat)
  case atStart => exact ⟨0, paint χ (pb + 1) 3, _, _, by omega, rfl, rfl, hI2, hw0⟩
  case round =>
    obtain ⟨k, χ, gq, cq, hk, rfl, rfl, hI, hW⟩ := hrel
    have hrl := recs_len s k
    by_cases hlt : k < s.length
    · obtain ⟨gb, go, x, rfl, hcell0, hx0⟩ := HS.getS k hlt
      have hcell := below_cell hI.2.1 hcell0
      obtain ⟨X, cx, rfl, x1, x2, x3, -⟩ := id hx0
      have hlx : s[k].length ≤ 60 := fs.out.1 _ (List.getElem_mem hlt)
      have hx := hI.args hx0
      have o0 := World.ownsRow_made (base := wr.heap.size) (e := 3) (size := 1) wr #[] 0 (Nat.le_refl _) (Nat.zero_le _) rfl
      go_wp2_with (at_builtin; refine wpList_append_ints rfl _ _ rfl wr.heap.size _ 0 [] rfl (by exact o0) _ s[k] rfl (hx.alloc _) (by omega) (by simp) ?_; intro v5 w5 ho hgr _ hnn; obtain ⟨A5, c5, rfl⟩ := owns_form ho)
      rw [Nat.zero_add, List.nil_append] at ho
      have hb5 : Below wr.heap.size wr w5 := ⟨hgr.os, hgr.tape, hgr.output, by have := hgr.size; simp at this; omega, fun b hb => (hgr.block b (by simp; omega) (fun e => Nat.ne_of_lt hb (Option.some.inj e))).trans (((Below.refl wr.heap.size wr).alloc (Nat.le_refl _) _).block b hb)⟩
      have I1 := hI.color (χ2 := paint χ wr.heap.size 6) hb5 (fun b hb => paint_low hb)
      have W1 := hW.keep (Same.below 6 hb5)
      have O1 : OwnI 6 (paint χ wr.heap.size 6) w5 (.slice A5 s[k].length c5) s[k] := ⟨ho.mono_base (Nat.zero_le _), fun b e => paint_high (ho.lt b e).1⟩
      clear ho hgr hb5 hI hW hnn o0
      by_cases hr : rightM 0 s[k] = true
      · have HR : Hid (rightM 0 s[k] = true) := hr
        have HS2 := Lib.hid (recs_take_yes hlt hr)
        clear hr
        go_wp2_with fail
        refine (add_yes _ _ _ _ I1.1 (O1.isI (by omega)) (by omega) (by omega) HR).mono ?_
        rintro e w6 ⟨rfl, hq⟩
        have hI2 : ∃ χ', RInv w pb χ' (recs (s.take k) ++ [s[k]]) w6 ∧ WantAt w 3 χ' w6 (.slice (some ⟨gq, 0, none⟩) (recs (s.take k)).length cq) (recs (s.take k)) ∧ OwnI 6 χ' w6 (.slice A5 s[k].length c5) s[k] := by
          obtain ⟨χ', h1, h2, h3⟩ := hq
          obtain ⟨χ'', h4⟩ := I1.add ⟨χ', h1, h2, h3⟩
          exact ⟨χ', ⟨h2, h4.2.1, fun b hb => (h1 b (by have := I1.2.1.size; omega)).trans (I1.2.2 b hb)⟩, W1.keep (Same.chg' h3 h1 (fun x hx => by subst hx; simp)), O1.keep (Same.chg' h3 h1 (fun x hx => by subst hx; simp))⟩
        obtain ⟨χ2, I2, W2, O2⟩ := hI2
        clear hq I1 W1 O1
        go_wp2_with fail
        refine (refRight_calls _ _ _ (I2.args hx0)).mono ?_
        rintro e w7 ⟨rfl, hq⟩
        rw [HR.out]
        have I3 := I2.step (quiet_below hq)
        have W3 := W2.keep (Same.below' (quiet_below hq))
        have O3 := (O2.keep (Same.below' (quiet_below hq))).any
        clear hq I2 W2 O2
        go_wp2
        go_loopw [61] (fun i wq => ∃ (j : Nat), j ≤ s[k].length ∧ i = .int .i64 j ∧ RInv w pb χ2 (recs (s.take k) ++ [s[k]]) wq ∧ WantAt w 3 χ2 wq (.slice (some ⟨gq, 0, none⟩) (recs (s.take k)).length cq) (recs (s.take k)) ∧ OwnAny 6 χ2 wq (.slice A5 s[k].length c5) s[k].length) (fun i _ => s[k].length - (intOf i).toNat)
        case atStart => exact ⟨0, by omega, rfl, I3, W3, O3⟩
        case round =>
          clear I3 W3 O3
          obtain ⟨j, hj, rfl, I4, W4, O4⟩ := hrel
          by_cases hltj : j < s[k].length
          · obtain ⟨g5, rfl, hcj, hfj, H5⟩ := O4.store j hltj 1
            obtain ⟨y5, hcj⟩ := hcj
            have i1 : (0 : Int) ≤ (j : Int) := by omega
            have i2 : (j : Int) < (s[k].length : Int) := by omega
            go_wp2
            go_roundw
            case rel => exact ⟨j + 1, hltj, by go_num, I4.chg H5.out.2 (fun _ _ => rfl) (by omega) (by omega) (by omega), W4.keep (Same.chg' H5.out.2 (fun _ _ => rfl) (fun x hx => by omega)), H5.out.1⟩
            case measure => simp [intOf]; omega
          · clear O4
            obtain ⟨vs7, o7, c7, e7⟩ := W4
            have C7 := Lib.hid c7; have E7 := Lib.hid e7; clear c7 e7
            go_wp2_with (at_builtin; refine wpList_append_own_at _ rfl _ _ 22 rfl w.heap.size 23 i0 _ 1 24 Try.underlying22 hi0 hz0 hz1 hz2 rfl (by decide) _ _ _ rfl (o7.alloc _) ⟨_, 0, none⟩ 1 1 [.slice X s[k].length cx] rfl rfl (cell_one_new _ _ _) (by simp [Value.oneCell']) (by unfold maxLen; omega) (by omega) (by have := I4.2.1.size; simp; omega) ?_; intro v' w5 hown' hgrow _ hat; obtain ⟨g', cap', rfl⟩ := ownsRow_succ hown')
            obtain ⟨q1, q2⟩ := own_push o7 C7.out hgrow hat
            have I5 := I4.chg (χ2 := paint χ2 wr.heap.size 3) q2 (fun b hb => paint_low hb) (by omega) (by omega) (by omega)
            have W5 : WantAt w 3 (paint χ2 wr.heap.size 3) w5 (.slice (some ⟨g', 0, none⟩) ((recs (s.take k)).length + 1) cap') (recs (s.take k) ++ [s[k]]) := by
              refine ⟨vs7 ++ [.slice X s[k].length cx], by rw [List.length_append]; exact hown', q1, fun i hi => ?_⟩
              have hl7 : vs7.length = (recs (s.take k)).length := by have := o7.1; omega
              by_cases hi' : i < (recs (s.take k)).length
              · obtain ⟨x, h1, h2⟩ := E7.out i hi'
                exact ⟨x, by rw [List.getElem?_append_left (by omega)]; exact h1, by rw [List.getElem_append_left hi']; exact h2⟩
              · have hie : i = (recs (s.take k)).length := by simp at hi; omega
                subst hie
                exact ⟨_, by rw [List.getElem?_append_right (by omega), hl7]; simp; rfl, by rw [List.getElem_append_right (by omega)]; simpa using hx0⟩
            clear q1 q2 hat hgrow hown' o7 I4
            go_wp2
            go_roundw
            case rel => exact ⟨k + 1, paint χ2 wr.heap.size 3, g', cap', hlt, by rw [HS2.out]; simp, by go_num, by rw [HS2.out]; exact I5, by rw [HS2.out]; exact W5⟩
            case measure => simp [intOf]; omega
      · have HR : Hid (rightM 0 s[k] = false) := Bool.eq_false_iff.2 hr
        have HS2 := Lib.hid (recs_take_no hlt HR)
        clear hr
        go_wp2_with fail
        refine (add_no _ _ _ _ (O1.isI (by omega)) HR).mono ?_
        rintro e w6 ⟨rfl, rfl⟩
        go_wp2_with fail
        refine (refRight_calls _ _ _ (I1.args hx0)).mono ?_
        rintro e w7 ⟨rfl, hq⟩
        rw [HR.out]
        have I3 := I1.step (quiet_below hq)
        have W3 := W1.keep (Same.below' (quiet_below hq))
        have O3 := (O1.keep (Same.below' (quiet_below hq))).any
        clear hq I1 W1 O1
        obtain ⟨χ2, hχ2⟩ : ∃ χ2, χ2 = paint χ wr.heap.size 6 := ⟨_, rfl⟩
        rw [← hχ2] at I3 W3 O3
        clear hχ2
        go_wp2
        go_loopw [61] (fun i wq => ∃ (j : Nat), j ≤ s[k].length ∧ i = .int .i64 j ∧ RInv w pb χ2 (recs (s.take k)) wq ∧ WantAt w 3 χ2 wq (.slice (some ⟨gq, 0, none⟩) (recs (s.take k)).length cq) (recs (s.take k)) ∧ OwnAny 6 χ2 wq (.slice A5 s[k].length c5) s[k].length) (fun i _ => s[k].length - (intOf i).toNat)
        case atStart => exact ⟨0, by omega, rfl, I3, W3, O3⟩
        case round =>
          clear I3 W3 O3
          obtain ⟨j, hj, rfl, I4, W4, O4⟩ := hrel
          by_cases hltj : j < s[k].length
          · obtain ⟨g5, rfl, hcj, hfj, H5⟩ := O4.store j hltj 1
            obtain ⟨y5, hcj⟩ := hcj
            have i1 : (0 : Int) ≤ (j : Int) := by omega
            have i2 : (j : Int) < (s[k].length : Int) := by omega
            go_wp2
            go_roundw
            case rel => exact ⟨j + 1, hltj, by go_num, I4.chg H5.out.2 (fun _ _ => rfl) (by omega) (by omega) (by omega), W4.keep (Same.chg' H5.out.2 (fun _ _ => rfl) (fun x hx => by omega)), H5.out.1⟩
            case measure => simp [intOf]; omega
          · go_wp2
            go_roundw
            case rel => exact ⟨k + 1, χ2, gq, cq, hlt, by rw [HS2.out], by go_num, by rw [HS2.out]; exact I4, by rw [HS2.out]; exact W4⟩
            case measure => simp [intOf]; omega
    · have htk : s.take k = s := List.take_of_length_le (by omega)
      rw [htk] at hI hW hrl ⊢
      clear htk
      have hin : ∀ x ∈ recs s, x.length ≤ 60 := fun x hx => fs.out.1 x (List.mem_filter.1 hx).1
      have HIN := Lib.hid hin; clear hin
      go_wp2_with fail
      refine (allf_calls _ _ 1000 (cO := 4) (cI := 10) hI.1 (by omega) (fun x hx => by have := HIN.out x hx; omega) (by omega)).mono ?_
      rintro e w5 ⟨v10, χ3, rfl, h1, h2, h3⟩
      rw [List.take_of_length_le (by simp; omega)] at h2
      have I1 := hI.color h3 h1
      have W1 := hW.keep (χ' := χ3) (W' := w5) (fun b hb _ => ⟨h1 b hb, h3.block b hb⟩)
      obtain ⟨A10, c10, rfl⟩ := h2.isII
      have L1 := h2.from
      clear h1 h2 h3 hI hW
      obtain ⟨L, hL⟩ : ∃ L, L = recs s := ⟨_, rfl⟩
      rw [← hL] at I1 W1 L1 hrl HIN ⊢
      clear hL
      have hL30 : L.length ≤ 30 := by omega
      have hL3 : L.length ≤ 1000000 := by omega
      go_wp2_with fail
      refine (len_calls _ _ I1.1 hL3).mono ?_
      rintro e w6 ⟨rfl, rfl⟩
      go_wp2_with fail
      rw [i64_and7]
      obtain ⟨q, hq⟩ : ∃ q, q = m % 8 := ⟨_, rfl⟩
      have hq0 : 0 ≤ q := by omega
      have hq7 : q ≤ 7 := by omega
      rw [← hq]
      refine (allf_calls _ _ q (cO := 5) (cI := 50) I1.1 (by omega) (fun x hx => by have := HIN.out x hx; omega) (by omega)).mono ?_
      rintro e w7 ⟨v12, χ4, rfl, h1, h2, h3⟩
      have I2 := I1.color h3 h1
      have W2 := W1.keep (χ' := χ4) (W' := w7) (fun b hb _ => ⟨h1 b hb, h3.block b hb⟩)
      have L2 := L1.keep (χ' := χ4) (W' := w7) (j' := 0) (fun b hb _ => ⟨h1 b hb, h3.block b hb⟩) (by omega)
      obtain ⟨A12, c12, rfl⟩ := h2.isII
      have hlen : (L.take q.toNat).length = min q.toNat L.length := List.length_take
      obtain ⟨n12, hn12⟩ : ∃ n12, n12 = (L.take q.toNat).length := ⟨_, rfl⟩
      rw [← hn12] at hlen ⊢
      clear h1 h2 h3 I1 W1 L1 hn12
      have hne : ((n12 : Int) != if (L.length : Int) < bits .and .i64 m 7 then (L.length : Int) else bits .and .i64 m 7) = false := by
        rw [i64_and7, ← hq, bne_eq_false_iff_eq]
        split <;> omega
      clear hlen hq
      go_wp2
      all_goals
        go_loopw [100] (fun i wr => ∃ (j : Nat) (χ : Col), j ≤ L.length ∧ i = .int .i64 j ∧ RInv w pb χ L wr ∧ WantAt w 3 χ wr (.slice (some ⟨gq, 0, none⟩) L.length cq) L ∧ ListFrom 4 10 j χ wr (.slice A10 L.length c10) L) (fun i _ => L.length - (intOf i).toNat)
        case atStart => exact ⟨0, χ4, by omega, rfl, I2, W2, L2⟩
        case round =>
          clear I2 W2 L2
          obtain ⟨j, χ, hj, rfl, hI, hW, hL⟩ := hrel
          by_cases hlt : j < L.length
          · obtain ⟨gw, cw, x, e, hcw, hxI⟩ := hW.get j hlt
            cases e
            obtain ⟨gl, cl, Al, cl2, e, hcl, hO⟩ := hL.get j hlt (Nat.le_refl _)
            cases e
            have hx := hI.args hxI
            have hlj := HIN.out _ (List.getElem_mem hlt)
            have hl := hO.isI (by omega)
            have i1 : (0 : Int) ≤ (j : Int) := by omega
            have i2 : (j : Int) < (L.length : Int) := by omega
            have hd : decide ((L.length : Int) ≤ (j : Int)) = false := by simp; omega
            go_wp2
            go_quiet ((go_at_call 14; exact Calls.quiet_of (sameInts_self _ _ _ _ (by exact hl) (by exact hx))))
            go_wp2
            have I3 := hI.step (below_drewN wr wr.heap.size nq)
            have W3 := hW.keep (Same.below' (below_drewN wr wr.heap.size nq))
            have L3 := hL.keep (j' := j + 1) (Same.below' (below_drewN wr wr.heap.size nq)) (Nat.le_succ _)
            have O3 := (hO.keep (Same.below' (below_drewN wr wr.heap.size nq))).any
            obtain ⟨Lj, hLj⟩ : ∃ Lj, Lj = L[j].length := ⟨_, rfl⟩
            have hcl3 : (wr.drewN nq).cell? ⟨gl, j, none⟩ = some (.slice Al Lj cl2) := by rw [hLj]; exact below_cell (below_drewN wr wr.heap.size nq) hcl
            have hgl : χ gl = 4 := by obtain ⟨vs, _, h, _⟩ := L3; exact h gl rfl
            rw [← hLj] at O3 hlj ⊢
            clear hI hW hL hO hx hl hcl hxI hcw hLj
            go_loopw [118] (fun i wq => ∃ (n : Nat), n ≤ Lj ∧ i = .int .i64 n ∧ RInv w pb χ L wq ∧ WantAt w 3 χ wq (.slice (some ⟨gq, 0, none⟩) L.length cq) L ∧ ListFrom 4 10 (j + 1) χ wq (.slice (some ⟨gl, 0, none⟩) L.length c10) L ∧ OwnAny (10 + j) χ wq (.slice Al Lj cl2) Lj ∧ wq.cell? ⟨gl, j, none⟩ = some (.slice Al Lj cl2)) (fun i _ => Lj - (intOf i).toNat)
            case atStart => exact ⟨0, by omega, rfl, I3, W3, L3, O3, hcl3⟩
            case round =>
              clear I3 W3 L3 O3 hcl3
              obtain ⟨n, hn, rfl, I4, W4, L4, O4, hcl4⟩ := hrel
              by_cases hltn : n < Lj
              · obtain ⟨g5, rfl, hcj, hfj, H5⟩ := O4.store n hltn 1
                obtain ⟨y5, hcj⟩ := hcj
                have i3 : (0 : Int) ≤ (n : Int) := by omega
                have i4 : (n : Int) < (Lj : Int) := by omega
                go_wp2
                go_roundw
                case rel =>
                  refine ⟨n + 1, hltn, by go_num, I4.chg H5.out.2 (fun _ _ => rfl) (by omega) (by omega) (by omega), W4.keep (Same.chg' H5.out.2 (fun _ _ => rfl) (fun x hx => by omega)), L4.keep (Same.chg' H5.out.2 (fun _ _ => rfl) (fun x hx => by omega)) (Nat.le_refl _), H5.out.1, ?_⟩
                  rw [← hcl4]
                  exact World.cell?_of_block (let ⟨_, _, _, _, h⟩ := H5.out.2; h gl (World.block_lt_of_cell? _ _ hcl4) (by show ¬ (χ gl = 10 + j); omega))
                case measure => simp [intOf]; omega
              · clear O4 hcl4
                go_wp2
                go_roundw
                case rel => exact ⟨j + 1, χ, hlt, by go_num, I4, W4, L4⟩
                case measure => simp [intOf]; omega
          · obtain ⟨vs, o1, o2, o3⟩ := hW
            obtain ⟨k1, k2⟩ := id o1
            have hcq : L.length ≤ cq ∧ cq ≤ maxLen := by
              rcases k2 with ⟨e, _⟩ | ⟨g, cap, cur, e, hg, hh, hcap, hmax, hsz, htk⟩
              · cases e
              · cases e; exact ⟨hcap, hmax⟩
            have hcells : ∀ i (hi : i < L.length), ∃ x, wr.cell? ⟨gq, i, none⟩ = some x ∧ IsI 0 (fun _ => 0) wr x L[i] := by
              intro i hi
              obtain ⟨x, h1, h2⟩ := o3 i hi
              have := o1.cells (g := gq) rfl i x h1
              have e2 : (⟨gq, 0, none⟩ : Addr).add i = ⟨gq, i, none⟩ := by unfold Addr.add; split <;> simp_all
              exact ⟨x, by rwa [e2] at this, hI.args h2⟩
            clear hL o1 o2 o3 k1 k2
            go_wp2_with fail
            refine (refMost_calls _ _ _ _ L a hcq.1 hcq.2 hcells (hI.args HA)).mono ?_
            rintro e w8 ⟨rfl, hq⟩
            have I4 := hI.step (quiet_below hq)
            clear hq hcells hI
            go_wp2_with fail
            refine (right_calls _ _ a (I4.args HA)).mono ?_
            rintro e w9 ⟨rfl, rfl⟩
            go_wp2_with fail
            refine (refRight_calls _ _ a (I4.args HA)).mono ?_
            rintro e w10 ⟨rfl, hq⟩
            have I5 := I4.step (quiet_below hq)
            clear hq I4
            go_wp2_with fail
            refine (shared_calls _ _ _ a b (I5.args HA) (I5.args HB)).mono ?_
            rintro e w11 ⟨rfl, hq⟩
            have I6 := I5.step (quiet_below hq)
            clear hq I5
            go_wp2_with fail
            refine (refShared_calls _ _ _ a b (I6.args HA) (I6.args HB)).mono ?_
            rintro e w12 ⟨rfl, hq⟩
            have I7 := I6.step (quiet_below hq)
            clear hq I6
            go_wp2_with fail
            refine (most_calls _ _ _ a I7.1 (I7.args HA) hL3).mono ?_
            rintro e w13 ⟨rfl, hq⟩
            have I8 := I7.step (quiet_below hq)
            clear hq I7
            by_cases hgt : m < mostM a L
            · have hgt2 : ¬ mostM a L ≤ m := by omega
              go_wp2_with fail
              refine (test_calls _ _ _ a m I8.1 (I8.args HA) hL3).mono ?_
              rintro e w14 ⟨rfl, hq⟩
              rw [if_pos hgt]
              have I9 := I8.step (quiet_below hq)
              go_wp2
              go_ret
              exact ⟨rfl, I9.2.1⟩
            · have hgt2 : mostM a L ≤ m := by omega
              go_wp2_with fail
              refine (test_calls _ _ _ a m I8.1 (I8.args HA) hL3).mono ?_
              rintro e w14 ⟨rfl, hq⟩
              rw [if_neg (Int.not_lt.2 hgt2)]
              have I9 := I8.step (quiet_below hq)
              go_wp2
              go_ret
              exact ⟨rfl, I9.2.1⟩

theorem plays_law (w : World) (v u x : Value) (s : List (List Int)) (a b : List Int) (m : Int) (hs : IsII 0 0 (fun _ => 0) w v s) (ha : IsI 0 (fun _ => 0) w u a) (hb : IsI 0 (fun _ => 0) w x b) (_hm : (Lit.int .i64 m).wf = true) :
    Calls Try.prog 3 #[v, u, x, .int .i64 m] w fun e w' => e = .returned (.bool true) ∧ Below w.heap.size w w' := by
  cases h1 : fewM s with
  | false => exact plays_no w v u x s a b m hs ha hb (.inl h1)
  | true =>
    cases h2 : fewM [a, b] with
    | false => exact plays_no w v u x s a b m hs ha hb (.inr ⟨h1, h2⟩)
    | true => exact plays_yes w v u x s a b m hs ha hb h1 h2
end Go.Proofs.Ytokknppnnddihaa
