import Derived.Test.YtlaohilchcjffaaInAO
import Derived.Laws.Bits128
namespace Go.Proofs.Ytlaohilchcjffaa
open Go.RowKit
attribute [local go_sem] World.cell?_alloc_some frozen_alloc_some

/-! InferPlays. -/
/-- The document's control, in a box of color 3. -/
def RefAt (w : World) (χ : Col) (W : World) (xb : Nat) (k r b : Int) (l : List (List Int)) : Prop :=
  ∃ tv, W.heap[xb]? = some (.cells #[.int .i64 k, .int .i64 r, .int .i64 b, tv] 33) ∧ χ xb = 3 ∧ Tol w.heap.size w W tv l ∧ ∀ bb, tv.ownBlock = some bb → χ bb = 3 ∧ bb ≠ xb
theorem RefAt.keep {w : World} {χ χ' : Col} {W W' : World} {xb : Nat} {k r b : Int} {l : List (List Int)} (h : RefAt w χ W xb k r b l) (hs : Same (· = 3) χ χ' W W') : RefAt w χ' W' xb k r b l := by
  obtain ⟨tv, h1, h2, ⟨vs, h3, h4⟩, h5⟩ := h
  have hx := hs xb (Array.getElem?_eq_some_iff.1 h1).1 h2
  refine ⟨tv, hx.2.trans h1, hx.1.trans h2, ⟨vs, owns_same h3 fun b e => (hs b (h3.lt b e).2 (h5 b e).1).2, h4⟩, fun bb e => ⟨((hs bb (h3.lt bb e).2 (h5 bb e).1).1).trans (h5 bb e).1, (h5 bb e).2⟩⟩
theorem RefAt.step {w : World} {χ : Col} {W W' : World} {xb : Nat} {k r b : Int} {l : List (List Int)} (h : RefAt w χ W xb k r b l) (hb : Below W.heap.size W W') : RefAt w χ W' xb k r b l := h.keep (Same.below' hb)
theorem fewM_iff {s : List (List Int)} {m : Int} (h : fewM s m = true) : (∀ x ∈ s, x.length ≤ 40) ∧ (s.length : Int) ≤ m := by
  unfold fewM at h
  rw [Bool.and_eq_true, List.all_eq_true] at h
  exact ⟨fun x hx => by simpa using h.1 x hx, by simpa using h.2⟩
set_option maxRecDepth 100000 in
set_option maxHeartbeats 4000000 in
theorem plays_no (w : World) (k r b : Int) (v u : Value) (s : List (List Int)) (lv : List Int) (m : Int) (hs : IsII 0 0 (fun _ => 0) w v s) (hl : IsI 0 (fun _ => 0) w u lv)
    (hno : Hid (fewM s 30 = false ∨ (fewM s 30 = true ∧ (lv.length < s.length ∨ (s.length ≤ lv.length ∧ checkM k r b = 43))))) :
    Calls Try.prog 3 #[.int .i64 k, .int .i64 r, .int .i64 b, v, u, .int .i64 m] w fun e w' => e = .returned (.bool true) ∧ Below w.heap.size w w' := by
  obtain ⟨A, c, rfl, -, -, -, -⟩ := id hs
  obtain ⟨B, d, rfl, -, -, -, -⟩ := id hl
  have HS := Lib.hid hs
  clear hs hl
  go_enter Try.func3, Try.ntmps3
  go_wp2_with fail
  refine (alive_calls _).mono ?_
  rintro e w1 ⟨rfl, hbw⟩
  have HS1 := Lib.hid (HS.out.keep (Same.below' hbw))
  go_wp2_with fail
  refine (few_calls _ _ 30 _ HS1.out).mono ?_
  rintro e w2 ⟨rfl, rfl⟩
  rcases hno.out with h | ⟨h, h2⟩
  · rw [h]
    go_wp2
    go_ret
    exact ⟨rfl, hbw⟩
  · rw [h]
    rcases h2 with h2 | ⟨h2, h3⟩
    · clear hno
      go_wp2
      go_ret
      exact ⟨rfl, hbw⟩
    · have HR := Lib.hid h3
      have h4 : ¬ lv.length < s.length := by omega
      clear hno h3
      go_wp2_with fail
      refine (new_no _ k r b HR.out).mono ?_
      rintro e w3 ⟨rfl, rfl⟩
      go_wp2_with fail
      refine (refCheck_calls _ k r b).mono ?_
      rintro e w4 ⟨rfl, rfl⟩
      rw [HR.out]
      go_wp2_with fail
      refine (check_calls _ k r b).mono ?_
      rintro e w5 ⟨rfl, rfl⟩
      rw [HR.out]
      go_wp2_with fail
      refine (check_calls _ k r b).mono ?_
      rintro e w6 ⟨rfl, rfl⟩
      rw [HR.out]
      go_wp2
      go_ret
      exact ⟨rfl, hbw⟩
abbrev set4 (w : World) (g : Nat) (v0 v1 v2 v3 : Value) : World := (((w.setCell ⟨g, 0, none⟩ v0).setCell ⟨g, 1, none⟩ v1).setCell ⟨g, 2, none⟩ v2).setCell ⟨g, 3, none⟩ v3
theorem heap_set4 {w : World} {g : Nat} {a0 a1 a2 a3 v0 v1 v2 v3 : Value} {t : TypeId} (h : w.heap[g]? = some (.cells #[a0, a1, a2, a3] t)) : (set4 w g v0 v1 v2 v3).heap[g]? = some (.cells #[v0, v1, v2, v3] t) := by
  simp [set4, World.setCell, Array.getElem?_modify, h]
theorem heap_set4_ne {w : World} {g b : Nat} {v0 v1 v2 v3 : Value} (h : b ≠ g) : (set4 w g v0 v1 v2 v3).heap[b]? = w.heap[b]? := by
  unfold set4
  rw [Below.heap_setCell _ _ _ _ h, Below.heap_setCell _ _ _ _ h, Below.heap_setCell _ _ _ _ h, Below.heap_setCell _ _ _ _ h]
theorem chg_set4 {χ : Col} {C : Nat → Prop} (w : World) (g : Nat) (v0 v1 v2 v3 : Value) (h : C (χ g)) : Chg χ C w (set4 w g v0 v1 v2 v3) :=
  ⟨rfl, rfl, rfl, by simp [set4, World.setCell], fun b _ hn => heap_set4_ne (fun e => hn (by rw [e]; exact h))⟩
theorem ref_round {w wo w7 : World} {pb xb : Nat} {χ : Col} {k r b : Int} {l l' : List (List Int)} {tv tv' : Value} (hI : CI 1 w pb χ k r b l wo) (hx : wo.heap[xb]? = some (.cells #[.int .i64 k, .int .i64 r, .int .i64 b, tv] 33)) (hxc : χ xb = 3)
    (hb : Below wo.heap.size wo w7) (hT : Tol w.heap.size w w7 tv' l') (hc : ∀ bb, tv'.ownBlock = some bb → (wo.heap.size ≤ bb ∨ χ bb = 3) ∧ bb ≠ xb) :
    CI 1 w pb (paint χ wo.heap.size 3) k r b l (set4 w7 xb (.int .i64 k) (.int .i64 r) (.int .i64 b) tv') ∧ RefAt w (paint χ wo.heap.size 3) (set4 w7 xb (.int .i64 k) (.int .i64 r) (.int .i64 b) tv') xb k r b l' := by
  have hxl := (Array.getElem?_eq_some_iff.1 hx).1
  have hx7 := (hb.block xb hxl).trans hx
  have c1 : Chg χ (· = 3) wo (set4 w7 xb (.int .i64 k) (.int .i64 r) (.int .i64 b) tv') := (Chg.of_below hb).trans (fun _ _ => rfl) (chg_set4 w7 xb _ _ _ _ hxc)
  obtain ⟨vs, t1, t2⟩ := hT
  refine ⟨hI.chg c1 (fun b hb => paint_low hb) (by omega) (by omega) (by omega), tv', heap_set4 hx7, (paint_low hxl).trans hxc, ⟨vs, owns_same t1 fun bb e => heap_set4_ne (hc bb e).2, t2⟩, fun bb e => ⟨?_, (hc bb e).2⟩⟩
  rcases Nat.lt_or_ge bb wo.heap.size with h | h
  · rw [paint_low h]
    rcases (hc bb e).1 with h2 | h2
    · omega
    · exact h2
  · exact paint_high h
theorem tol_below {base : Nat} {w0 W W' : World} {v : Value} {l : List (List Int)} (h : Tol base w0 W v l) (hb : Below W.heap.size W W') : Tol base w0 W' v l := let ⟨vs, h1, h2⟩ := h; ⟨vs, owns_same h1 fun b e => hb.block b (h1.lt b e).2, h2⟩
theorem kept_new1 {w w1 : World} {o : Obj} (h : Below ((w.alloc o).drewN 1).heap.size ((w.alloc o).drewN 1) w1) : w1.heap[w.heap.size]? = some o := kept_new (undrewN h)
theorem chain6 {wo W' w6 : World} {P : Prop} (h : Below wo.heap.size wo W' ∧ P) (hb6 : Below W'.heap.size W' w6) : Below wo.heap.size wo w6 := h.1.trans (hb6.mono h.1.size)
theorem alloc6 {wo W' : World} {P : Prop} (h : Below wo.heap.size wo W' ∧ P) (o : Obj) : Below wo.heap.size wo (W'.alloc o) := h.1.alloc h.1.size o
theorem askM_left {k r b live : Int} {l : List (List Int)} {s : List Int} (h : askM k r b l s live = 0) : b - l.length ≠ 0 := by
  unfold askM at h
  split at h
  · cases h
  · split at h
    · cases h
    · assumption
theorem tol_mono {base base' : Nat} {w0 W : World} {v : Value} {l : List (List Int)} (h : Tol base w0 W v l) (hb : base' ≤ base) : Tol base' w0 W v l := let ⟨vs, h1, h2⟩ := h; ⟨vs, h1.mono_base hb, h2⟩
theorem round_a {w wo w6 : World} {pb xb : Nat} {χ : Col} {k r b : Int} {l l' : List (List Int)} {tv tv' v0 v1 v2 v3 : Value} (hI : CI 1 w pb χ k r b l wo) (hx : wo.heap[xb]? = some (.cells #[.int .i64 k, .int .i64 r, .int .i64 b, tv] 33)) (hxc : χ xb = 3)
    (hb : Below wo.heap.size wo w6) (hT : Tol (wo.heap.size + 1) w w6 tv' l') :
    CI 1 w pb (paint χ wo.heap.size 3) k r b l (set4 (set4 w6 wo.heap.size v0 v1 v2 v3) xb (.int .i64 k) (.int .i64 r) (.int .i64 b) tv') ∧ RefAt w (paint χ wo.heap.size 3) (set4 (set4 w6 wo.heap.size v0 v1 v2 v3) xb (.int .i64 k) (.int .i64 r) (.int .i64 b) tv') xb k r b l' := by
  have hs := hI.2.1.size
  have hxl := (Array.getElem?_eq_some_iff.1 hx).1
  obtain ⟨vs, t1, t2⟩ := hT
  exact ref_round hI hx hxc (below_set4 hb) ⟨vs, owns_same (t1.mono_base (by omega)) fun bb e => heap_set4_ne (by have := (t1.lt bb e).1; omega), t2⟩ fun bb e => by have := (t1.lt bb e).1; exact ⟨.inl (by omega), by omega⟩
theorem round_b {w wo w6 : World} {pb xb : Nat} {χ : Col} {k r b : Int} {l l' : List (List Int)} {tv tv' : Value} (hI : CI 1 w pb χ k r b l wo) (hx : wo.heap[xb]? = some (.cells #[.int .i64 k, .int .i64 r, .int .i64 b, tv] 33)) (hxc : χ xb = 3)
    (hb : Below wo.heap.size wo w6) (o : Obj) (hT : Tol wo.heap.size w w6 tv' l') :
    CI 1 w pb (paint χ wo.heap.size 3) k r b l (set4 (w6.alloc o) xb (.int .i64 k) (.int .i64 r) (.int .i64 b) tv') ∧ RefAt w (paint χ wo.heap.size 3) (set4 (w6.alloc o) xb (.int .i64 k) (.int .i64 r) (.int .i64 b) tv') xb k r b l' := by
  have hs := hI.2.1.size
  have hxl := (Array.getElem?_eq_some_iff.1 hx).1
  obtain ⟨vs, t1, t2⟩ := hT
  exact ref_round hI hx hxc (hb.alloc hb.size o) ⟨vs, (t1.mono_base (by omega)).alloc o, t2⟩ fun bb e => by have := (t1.lt bb e).1; exact ⟨.inl (by omega), by omega⟩
theorem i64_and3 (n : Int) : bits .and .i64 n 3 = n % 4 := by
  have h127 : (BitVec.ofInt 64 3).toNat = 2 ^ 2 - 1 := by decide
  have key : (BitVec.ofInt 64 n &&& BitVec.ofInt 64 3).toNat = (n % ((2 ^ 64 : Nat) : Int)).toNat % 2 ^ 2 := by
    rw [BitVec.toNat_and, BitVec.toNat_ofInt, h127, Nat.and_two_pow_sub_one_eq_mod]
  show IntKind.i64.wrap ((BitVec.ofInt 64 n &&& BitVec.ofInt 64 3).toNat : Nat) = n % 4
  rw [key, IntKind.wrap_i64]
  omega
theorem tol_drew {base : Nat} {w0 W : World} {v : Value} {l : List (List Int)} (h : Tol base w0 W v l) : Tol base w0 W.drew v l := let ⟨vs, h1, h2⟩ := h; ⟨vs, owns_drew h1, h2⟩
theorem ref_new {w : World} (W : World) (χ : Col) (k r b : Int) : RefAt w (paint χ W.heap.size 3) (W.alloc (.cells #[.int .i64 k, .int .i64 r, .int .i64 b, .slice none 0 0] 33)) W.heap.size k r b [] :=
  ⟨.slice none 0 0, heap_alloc_at _ _, paint_high (Nat.le_refl _), ⟨[], World.ownsRow_nil _ _ _ _, fun i hi => by simp at hi⟩, fun bb e => by cases e⟩
set_option maxRecDepth 100000 in
set_option maxHeartbeats 16000000 in
theorem plays_yes (w : World) (k r b : Int) (v u : Value) (s : List (List Int)) (lv : List Int) (m : Int) (hs : IsII 0 0 (fun _ => 0) w v s) (hl : IsI 0 (fun _ => 0) w u lv) (hlw : ∀ x ∈ lv, -9223372036854775808 ≤ x ∧ x ≤ 9223372036854775807)
    (f1 : Hid (fewM s 30 = true)) (f2 : s.length ≤ lv.length) (f3 : Hid (checkM k r b = 0)) :
    Calls Try.prog 3 #[.int .i64 k, .int .i64 r, .int .i64 b, v, u, .int .i64 m] w fun e w' => e = .returned (.bool true) ∧ Below w.heap.size w w' := by
  obtain ⟨A, c, rfl, s1, s2, s3, -⟩ := id hs
  obtain ⟨B, d, rfl, l1, l2, l3, -⟩ := id hl
  unfold maxLen at s2 l2
  have HS := Lib.hid hs
  have HLV := Lib.hid hl
  have HW := Lib.hid hlw
  have F1 := Lib.hid (fewM_iff f1.out)
  have hl30 : s.length ≤ 30 := by have := F1.out.2; omega
  have F3 := Lib.hid (checkM_ok f3.out)
  have h4 : ¬ lv.length < s.length := by omega
  clear hs hl hlw
  go_enter Try.func3, Try.ntmps3
  go_wp2_with fail
  refine (alive_calls _).mono ?_
  rintro e w1 ⟨rfl, hbw⟩
  go_wp2_with fail
  refine (few_calls _ _ 30 _ (HS.out.keep (Same.below' hbw))).mono ?_
  rintro e w2 ⟨rfl, rfl⟩
  rw [f1.out]
  go_wp2_with fail
  refine (new_yes _ k r b f3).mono ?_
  rintro e w3 ⟨rfl, rfl⟩
  obtain ⟨χ, hI⟩ := ci_new hbw k r b
  have hbw3 := hI.2.1
  obtain ⟨W5, hW5⟩ : ∃ W5, W5 = w2.alloc (.cells #[.int .i64 k, .int .i64 r, .int .i64 b, .slice none 0 0] 50) := ⟨_, rfl⟩
  obtain ⟨pb, hpb⟩ : ∃ pb, pb = w2.heap.size := ⟨_, rfl⟩
  rw [← hW5] at hI hbw3 ⊢
  rw [← hpb] at hI ⊢
  clear hW5 hpb hbw
  go_wp2_with fail
  refine (refCheck_calls _ k r b).mono ?_
  rintro e w4 ⟨rfl, rfl⟩
  rw [f3.out]
  go_wp2_with fail
  refine (check_calls _ k r b).mono ?_
  rintro e w5 ⟨rfl, rfl⟩
  rw [f3.out]
  go_wp2
  have hR0 := ref_new (w := w) w5 χ k r b
  have hI0 := hI.color (χ2 := paint χ w5.heap.size 3) ((Below.refl w5.heap.size w5).alloc (Nat.le_refl _) (.cells #[.int .i64 k, .int .i64 r, .int .i64 b, .slice none 0 0] 33)) (fun b hb => paint_low hb)
  obtain ⟨W6, hW6⟩ : ∃ W6, W6 = w5.alloc (.cells #[.int .i64 k, .int .i64 r, .int .i64 b, .slice none 0 0] 33) := ⟨_, rfl⟩
  obtain ⟨xb, hxb⟩ : ∃ xb, xb = w5.heap.size := ⟨_, rfl⟩
  obtain ⟨χ0, hχ0⟩ : ∃ χ0, χ0 = paint χ w5.heap.size 3 := ⟨_, rfl⟩
  rw [← hW6, ← hχ0] at hI0 hR0
  rw [← hxb] at hR0
  rw [← hW6, ← hxb]
  clear hW6 hxb hχ0 hI hbw3
  go_loopw [85] (fun i wr => ∃ (j : Nat) (χ : Col) (l : List (List Int)), j ≤ s.length ∧ i = .int .i64 j ∧ CI 1 w pb χ k r b l wr ∧ RefAt w χ wr xb k r b l ∧ l.length ≤ j ∧ (l.length : Int) ≤ b ∧ Hid (∀ x ∈ l, x.length ≤ 40)) (fun i _ => s.length - (intOf i).toNat)
  case atStart => exact ⟨0, χ0, [], by omega, rfl, hI0, hR0, by simp, by have := F3.out; simp; omega, fun x hx => by simp at hx⟩
  case round =>
    clear hI0 hR0
    obtain ⟨j, χ, l, hj, rfl, hI, hR, hlj, hlb, HL40⟩ := hrel
    obtain ⟨wo, rfl⟩ : ∃ wo, wo = wr := ⟨_, rfl⟩
    by_cases hlt : j < s.length
    · obtain ⟨b1, o1, x, rfl, hc1, hx0⟩ := HS.out.getS j hlt
      obtain ⟨b2, o2, rfl, hc2⟩ := HLV.out.getI j (by omega)
      have hc1' := below_cellA hI.2.1 hc1
      have hc2' := below_cellA hI.2.1 hc2
      have hc2w := hc2
      have hx40 := F1.out.1 _ (List.getElem_mem hlt)
      have hlr := HW.out _ (List.getElem_mem (show j < lv.length by omega))
      obtain ⟨live, hlive⟩ : ∃ live, live = lv[j] := ⟨_, rfl⟩
      rw [← hlive] at hc2' hlr hc2w
      obtain ⟨sj, hsj⟩ : ∃ sj, sj = s[j] := ⟨_, rfl⟩
      rw [← hsj] at hx0 hx40
      obtain ⟨X, cx, rfl, -⟩ := id hx0
      have HX0 := Lib.hid hx0
      have HX := Lib.hid (hI.args hx0)
      clear hc1 hc2 hlive hsj hx0
      obtain ⟨tv, kx, hx3, hT, hcol⟩ := id hR
      obtain ⟨At, ct, rfl⟩ : ∃ At ct, tv = .slice At l.length ct := by obtain ⟨vs, ho, -⟩ := hT; exact owns_form ho
      obtain ⟨⟨q0, q1, q2, q3⟩, fq0, fq1, fq2, fq3⟩ := cells4 kx
      have HI := Lib.hid hI
      have HR := Lib.hid hR
      have HT := Lib.hid hT
      have HC := Lib.hid hcol
      have F3' := F3.out
      clear hI hR hT hcol
      by_cases hno : askM k r b l sj live = 0
      · have HA : Hid (∀ W', Below wo.heap.size wo W' → Calls Try.prog 12 #[.agg #[.int .i64 k, .int .i64 r, .int .i64 b, .slice At l.length ct], .slice X sj.length cx, .int .i64 live] W' fun e w' => ∃ A6 c6, e = .returned (.tuple #[.agg #[.int .i64 k, .int .i64 r, .int .i64 b, .slice A6 (l.length + 1) c6], .int .i64 0]) ∧ Tol W'.heap.size w w' (.slice A6 (l.length + 1) c6) (l ++ [sj]) ∧ Below W'.heap.size W' w') := fun W' hW' => by
          refine (refAsk_yes w W' w.heap.size k r b live (.slice At l.length ct) (.slice X sj.length cx) l sj (tol_below HT.out hW') (HI.out.2.1.trans (hW'.mono HI.out.2.1.size)) (by omega) hlb (by omega) HX0.out hlr hno).mono ?_
          rintro e w' ⟨tv, rfl, ⟨vs, t1, t2⟩, h3⟩
          rw [List.length_append] at t1
          obtain ⟨A6, c6, rfl⟩ := owns_form t1
          exact ⟨A6, c6, rfl, ⟨vs, by rw [List.length_append]; exact t1, t2⟩, h3⟩
        have hleft := askM_left hno
        have HNO := Lib.hid hno
        obtain ⟨L, hL⟩ : ∃ L, L = l ++ [sj] := ⟨_, rfl⟩
        have hLl : l.length + 1 = L.length := by rw [hL]; simp
        have HL := Lib.hid hL
        have HL41 : Hid (∀ x ∈ L, x.length ≤ 40) := by
          intro x hx
          rw [hL] at hx
          rcases List.mem_append.1 hx with h | h
          · exact HL40.out x h
          · rw [List.mem_singleton.1 h]; exact hx40
        rw [← hL, hLl] at HA
        have hLj : L.length ≤ j + 1 := by omega
        have hLb : (L.length : Int) ≤ b := by omega
        have HLl := Lib.hid hLl
        clear hno hL hLl
        have hjl : j < lv.length := by omega
        have i1 : (0 : Int) ≤ (j : Int) := by omega
        have i2 : (j : Int) < (lv.length : Int) := by omega
        have HXS : Hid (∀ W', Below wo.heap.size wo W' → Below wo.heap.size wo W' ∧ (W'.cell? ⟨xb, 0, none⟩ = some (.int .i64 k) ∧ W'.cell? ⟨xb, 1, none⟩ = some (.int .i64 r) ∧ W'.cell? ⟨xb, 2, none⟩ = some (.int .i64 b) ∧ W'.cell? ⟨xb, 3, none⟩ = some (.slice At l.length ct) ∧ W'.cell? ⟨b2, o2 + j, none⟩ = some (.int .i64 live))) := fun W' hW' =>
          ⟨hW', below_cellA hW' q0, below_cellA hW' q1, below_cellA hW' q2, below_cellA hW' q3, below_cellA hW' hc2'⟩
        go_wp2
        go_region_held3 (fun W => Below wo.heap.size wo W ∧ (W.cell? ⟨xb, 0, none⟩ = some (.int .i64 k) ∧ W.cell? ⟨xb, 1, none⟩ = some (.int .i64 r) ∧ W.cell? ⟨xb, 2, none⟩ = some (.int .i64 b) ∧ W.cell? ⟨xb, 3, none⟩ = some (.slice At l.length ct) ∧ W.cell? ⟨b2, o2 + j, none⟩ = some (.int .i64 live)))
          (first | exact HXS.out _ (below_drewN wo wo.heap.size 1) | exact HXS.out _ hB6 | exact HXS.out _ (hB6.alloc hB6.size _) | exact HXS.out _ (below_set4 hB6) | exact HXS.out _ (alloc6 (by assumption) _))
          (first | (go_at_call 12; refine (HA.out _ (And.left (by assumption))).mono ?_; rintro e w6 ⟨A6, c6, rfl, T6, hb6⟩; have hB6 := chain6 (by assumption) hb6; have T7 := Lib.hid T6; clear T6; first | (have kz := kept_new1 hb6; have z0 := (cells4 kz).1.1; have z1 := (cells4 kz).1.2.1; have z2 := (cells4 kz).1.2.2.1; have z3 := (cells4 kz).1.2.2.2; have fz0 := (cells4 kz).2.1; have fz1 := (cells4 kz).2.2.1; have fz2 := (cells4 kz).2.2.2.1; have fz3 := (cells4 kz).2.2.2.2) | skip))
        all_goals
          obtain ⟨⟨p0, p1, p2, p3⟩, fp0, fp1, fp2, fp3⟩ := cells4 ((hB6.block xb (Array.getElem?_eq_some_iff.1 kx).1).trans kx)
          go_wp2
        all_goals
          first
            | (obtain ⟨W8, hq8, hW8⟩ : ∃ W8, (CI 1 w pb (paint χ wo.heap.size 3) k r b l W8 ∧ RefAt w (paint χ wo.heap.size 3) W8 xb k r b L) ∧ W8 = set4 (set4 w6 wo.heap.size (.int .i64 k) (.int .i64 r) (.int .i64 b) (.slice A6 L.length c6)) xb (.int .i64 k) (.int .i64 r) (.int .i64 b) (.slice A6 L.length c6) := ⟨_, round_a HI.out kx hx3 hB6 (tol_mono T7.out (by simp)), rfl⟩
               simp only [set4] at hW8; rw [← hW8]; clear hW8)
            | (obtain ⟨W8, hq8, hW8⟩ : ∃ W8, (CI 1 w pb (paint χ wo.heap.size 3) k r b l W8 ∧ RefAt w (paint χ wo.heap.size 3) W8 xb k r b L) ∧ W8 = set4 (w6.alloc (.cells #[.int .i64 k, .int .i64 r, .int .i64 b, .slice A6 L.length c6] 33)) xb (.int .i64 k) (.int .i64 r) (.int .i64 b) (.slice A6 L.length c6) := ⟨_, round_b HI.out kx hx3 hB6 _ (tol_mono T7.out (by simp)), rfl⟩
               simp only [set4] at hW8; rw [← hW8]; clear hW8)
          obtain ⟨hI8, hR8⟩ := hq8
          obtain ⟨χ8, hχ8⟩ : ∃ χ8, χ8 = paint χ wo.heap.size 3 := ⟨_, rfl⟩
          rw [← hχ8] at hI8 hR8
          clear hχ8
          have hlive8 := below_cellA hI8.2.1 hc2w
          obtain ⟨tv8, kx8, hx8, hT8, hcol8⟩ := id hR8
          obtain ⟨A8, c8, rfl⟩ : ∃ A8 c8, tv8 = .slice A8 L.length c8 := by obtain ⟨vs, ho, -⟩ := hT8; exact owns_form ho
          obtain ⟨⟨e0, e1, e2, e3⟩, fe0, fe1, fe2, fe3⟩ := cells4 kx8
          have hxl8 := (Array.getElem?_eq_some_iff.1 kx8).1
          have HAsk := Lib.hid (ask_yes W8.drew pb (.slice X sj.length cx) sj live (CI.step hI8 (below_drewN W8 _ 1)).1 (by omega) (by omega) (by omega) ((CI.step hI8 (below_drewN W8 _ 1)).args HX0.out) (by omega) hlr HNO.out)
          rw [← HL.out] at HAsk
          have hwr : IntKind.i64.wrap (b - (L.length : Int)) = b - L.length := by rw [IntKind.wrap_i64]; omega
          have HI8 := Lib.hid hI8
          have HR8 := Lib.hid hR8
          clear hI8 hR8 hT8 hcol8
          first
            | (go_region_held3 (fun W => W.cell? ⟨xb, 3, none⟩ = some (.slice A8 L.length c8) ∧ W.cell? ⟨b2, o2 + j, none⟩ = some (.int .i64 live))
                (first | with_reducible exact hS9 | exact ⟨e3, hlive8⟩ | exact hS9)
                (first
                  | (go_at_call 13; refine HAsk.out.mono ?_; rintro e w9 ⟨rfl, hq9⟩; obtain ⟨χ9, x9, g9, I9⟩ := CI.ask (CI.step HI8.out (below_drewN W8 _ 1)) (by omega) hq9; have hS9 : w9.cell? ⟨xb, 3, none⟩ = some (.slice A8 L.length c8) ∧ w9.cell? ⟨b2, o2 + j, none⟩ = some (.int .i64 live) := ⟨(World.cell?_of_block (g9.blk xb hxl8 (by rw [hx8]; omega))).trans e3, below_cellA I9.2.1 hc2w⟩)
                  | (go_at_call 14; refine (left_calls _ pb I9.1 (by omega) (by omega)).mono ?_; rintro e w10 ⟨rfl, d10, rfl⟩)))
            | fail
          have R9 := RefAt.keep (RefAt.step HR8.out (below_drewN W8 _ 1)) (Same.chg' g9 x9 (fun x hx => by subst hx; omega))
          clear hS9 hq9 g9 x9
          go_wp2
          exact ⟨⟨j + 1, χ9, L, hlt, by go_num, I9.step (below_drewN _ _ _), R9.step (below_drewN _ _ _), by omega, hLb, HL41⟩, by simp [intOf]; omega⟩
      · have HA : Hid (∀ W', Below wo.heap.size wo W' → Calls Try.prog 12 #[.agg #[.int .i64 k, .int .i64 r, .int .i64 b, .slice At l.length ct], .slice X sj.length cx, .int .i64 live] W' fun e w' => e = .returned (.tuple #[.agg #[.int .i64 k, .int .i64 r, .int .i64 b, .slice At l.length ct], .int .i64 (askM k r b l sj live)]) ∧ Below W'.heap.size W' w') := fun W' hW' =>
          refAsk_no w W' w.heap.size k r b live (.slice At l.length ct) (.slice X sj.length cx) l sj (tol_below HT.out hW') (HI.out.2.1.trans (hW'.mono HI.out.2.1.size)) (by omega) hlb (by omega) (IsI.keep HX.out (Same.below' hW')) hlr hno
        obtain ⟨q, hq⟩ : ∃ q, q = askM k r b l sj live := ⟨_, rfl⟩
        rw [← hq] at HA
        have HQ := Lib.hid hq
        have hq0 : q ≠ 0 := by rw [hq]; exact hno
        clear hq hno
        have hjl : j < lv.length := by omega
        have i1 : (0 : Int) ≤ (j : Int) := by omega
        have i2 : (j : Int) < (lv.length : Int) := by omega
        have HXS : Hid (∀ W', Below wo.heap.size wo W' → Below wo.heap.size wo W' ∧ (W'.cell? ⟨xb, 0, none⟩ = some (.int .i64 k) ∧ W'.cell? ⟨xb, 1, none⟩ = some (.int .i64 r) ∧ W'.cell? ⟨xb, 2, none⟩ = some (.int .i64 b) ∧ W'.cell? ⟨xb, 3, none⟩ = some (.slice At l.length ct) ∧ W'.cell? ⟨b2, o2 + j, none⟩ = some (.int .i64 live))) := fun W' hW' =>
          ⟨hW', below_cellA hW' q0, below_cellA hW' q1, below_cellA hW' q2, below_cellA hW' q3, below_cellA hW' hc2'⟩
        go_wp2
        go_region_held3 (fun W => Below wo.heap.size wo W ∧ (W.cell? ⟨xb, 0, none⟩ = some (.int .i64 k) ∧ W.cell? ⟨xb, 1, none⟩ = some (.int .i64 r) ∧ W.cell? ⟨xb, 2, none⟩ = some (.int .i64 b) ∧ W.cell? ⟨xb, 3, none⟩ = some (.slice At l.length ct) ∧ W.cell? ⟨b2, o2 + j, none⟩ = some (.int .i64 live)))
          (first | exact HXS.out _ (below_drewN wo wo.heap.size 1) | exact HXS.out _ hB6 | exact HXS.out _ (hB6.alloc hB6.size _) | exact HXS.out _ (below_set4 hB6) | exact HXS.out _ (alloc6 (by assumption) _))
          (first | (go_at_call 12; refine (HA.out _ (And.left (by assumption))).mono ?_; rintro e w6 ⟨rfl, hb6⟩; have hB6 := chain6 (by assumption) hb6; first | (have kz := kept_new1 hb6; have z0 := (cells4 kz).1.1; have z1 := (cells4 kz).1.2.1; have z2 := (cells4 kz).1.2.2.1; have z3 := (cells4 kz).1.2.2.2; have fz0 := (cells4 kz).2.1; have fz1 := (cells4 kz).2.2.1; have fz2 := (cells4 kz).2.2.2.1; have fz3 := (cells4 kz).2.2.2.2) | skip))
        all_goals
          obtain ⟨⟨p0, p1, p2, p3⟩, fp0, fp1, fp2, fp3⟩ := cells4 ((hB6.block xb (Array.getElem?_eq_some_iff.1 kx).1).trans kx)
          go_wp2
        all_goals
          have hcn : ∀ bb, (Value.slice At l.length ct).ownBlock = some bb → (wo.heap.size ≤ bb ∨ χ bb = 3) ∧ bb ≠ xb := fun bb e => ⟨.inr (HC.out bb e).1, (HC.out bb e).2⟩
          have hcl : ∃ W8, (CI 1 w pb (paint χ wo.heap.size 3) k r b l W8 ∧ RefAt w (paint χ wo.heap.size 3) W8 xb k r b l) ∧ (W8 = set4 (set4 w6 wo.heap.size (.int .i64 k) (.int .i64 r) (.int .i64 b) (.slice At l.length ct)) xb (.int .i64 k) (.int .i64 r) (.int .i64 b) (.slice At l.length ct)) := ⟨_, ref_round HI.out kx hx3 (below_set4 hB6) (tol_below HT.out (below_set4 hB6)) hcn, rfl⟩
          have hcl2 : ∃ W8, (CI 1 w pb (paint χ wo.heap.size 3) k r b l W8 ∧ RefAt w (paint χ wo.heap.size 3) W8 xb k r b l) ∧ (W8 = set4 (w6.alloc (.cells #[.int .i64 k, .int .i64 r, .int .i64 b, .slice At l.length ct] 33)) xb (.int .i64 k) (.int .i64 r) (.int .i64 b) (.slice At l.length ct)) := ⟨_, ref_round HI.out kx hx3 (hB6.alloc hB6.size _) (tol_below HT.out (hB6.alloc hB6.size _)) hcn, rfl⟩
          first
            | (obtain ⟨W8, hq8, hW8⟩ := hcl; simp only [set4] at hW8; rw [← hW8]; clear hW8 hcl2)
            | (obtain ⟨W8, hq8, hW8⟩ := hcl2; simp only [set4] at hW8; rw [← hW8]; clear hW8 hcl)
          clear hcn
          obtain ⟨hI8, hR8⟩ := hq8
          obtain ⟨χ8, hχ8⟩ : ∃ χ8, χ8 = paint χ wo.heap.size 3 := ⟨_, rfl⟩
          rw [← hχ8] at hI8 hR8
          clear hχ8
          have hlive8 := below_cellA hI8.2.1 hc2w
          obtain ⟨tv8, kx8, hx8, hT8, hcol8⟩ := id hR8
          obtain ⟨A8, c8, rfl⟩ : ∃ A8 c8, tv8 = .slice A8 l.length c8 := by obtain ⟨vs, ho, -⟩ := hT8; exact owns_form ho
          obtain ⟨⟨e0, e1, e2, e3⟩, fe0, fe1, fe2, fe3⟩ := cells4 kx8
          have HAsk : Hid (∀ n, Calls Try.prog 13 #[.pointer (some ⟨pb, 0, none⟩), .slice X sj.length cx, .int .i64 live] (W8.drewN n) fun e w'' => e = .returned (.int .i64 q) ∧ ∃ m, w'' = W8.drewN m) := fun n => by
            have := ask_no (W8.drewN n) pb _ sj live (hI8.step (below_drewN _ _ n)).1 (by omega) (by omega) (by omega) ((hI8.step (below_drewN _ _ n)).args HX0.out) hlr (by rw [← HQ.out]; exact hq0)
            rw [← HQ.out] at this
            exact Calls.quiet_of this
          have HLeft : Hid (∀ n, Calls Try.prog 14 #[.pointer (some ⟨pb, 0, none⟩)] (W8.drewN n) fun e w'' => e = .returned (.int .i64 (b - l.length)) ∧ ∃ m, w'' = W8.drewN m) := fun n =>
            Calls.quiet_of (left_calls (W8.drewN n) pb (hI8.step (below_drewN _ _ n)).1 (by omega) (by omega))
          have hb4 : b - (l.length : Int) ≤ 4096 := by omega
          have hb5 : 0 ≤ b - (l.length : Int) := by omega
          have hwr : IntKind.i64.wrap (b - (l.length : Int)) = b - l.length := by rw [IntKind.wrap_i64]; omega
          go_quiet (first | (go_at_call 13; exact HAsk.out _) | (go_at_call 14; exact HLeft.out _))
          go_wp2
          exact ⟨⟨j + 1, χ8, l, hlt, by go_num, hI8.step (below_drewN _ _ _), hR8.step (below_drewN _ _ _), by omega, hlb, HL40⟩, by simp [intOf]; omega⟩
    · have hje : j = s.length := by omega
      have F3' := F3.out
      go_wp2_with fail
      refine (told_calls _ pb 1000 (cO := 5) (cI := 10) hI.1.1 (by omega) (fun x hx => by have := HL40.out x hx; omega) (by omega)).mono ?_
      rintro e w6 ⟨v10, χ10, rfl, x10, h10, hb10⟩
      rw [List.take_of_length_le (by simp; omega)] at h10
      have I6 := hI.color hb10 x10
      have R6 := hR.keep (χ' := χ10) (W' := w6) (fun b hb _ => ⟨x10 b hb, hb10.block b hb⟩)
      obtain ⟨A10, c10, rfl⟩ := h10.isII
      clear hb10 x10 hI hR
      obtain ⟨tv, kx, hx3, hT, hcol⟩ := id R6
      obtain ⟨At, ct, rfl⟩ : ∃ At ct, tv = .slice At l.length ct := by obtain ⟨vs, ho, -⟩ := hT; exact owns_form ho
      obtain ⟨⟨q0, q1, q2, q3⟩, -⟩ := cells4 kx
      have HI := Lib.hid I6
      have HR := Lib.hid R6
      have HT := Lib.hid hT
      have H10 := Lib.hid h10
      clear I6 R6 hT hcol h10
      go_wp2_with fail
      rw [i64_and3]
      obtain ⟨q, hq⟩ : ∃ q, q = m % 4 := ⟨_, rfl⟩
      have hq0 : 0 ≤ q := by omega
      have hq7 : q ≤ 3 := by omega
      rw [← hq]
      refine (told_calls _ pb q (cO := 6) (cI := 60) HI.out.1.1 (by omega) (fun x hx => by have := HL40.out x hx; omega) (by omega)).mono ?_
      rintro e w7 ⟨v12, χ4, rfl, x4, h12, hb7⟩
      have I7 := Lib.hid (HI.out.color hb7 x4)
      have T7 := Lib.hid (tol_below HT.out hb7)
      have N7 := Lib.hid (OwnII.keep (χ' := χ4) (w' := w7) H10.out (fun b hb _ => ⟨x4 b hb, hb7.block b hb⟩))
      have q3' := below_cellA hb7 q3
      obtain ⟨A12, c12, rfl⟩ := h12.isII
      have hlen : (l.take q.toNat).length = min q.toNat l.length := List.length_take
      obtain ⟨n12, hn12⟩ : ∃ n12, n12 = (l.take q.toNat).length := ⟨_, rfl⟩
      rw [← hn12] at hlen ⊢
      have hne : ((n12 : Int) != if (l.length : Int) < bits .and .i64 m 3 then (l.length : Int) else bits .and .i64 m 3) = false := by
        rw [i64_and3, ← hq, bne_eq_false_iff_eq]
        split <;> omega
      clear hlen hq hn12 h12 x4 hb7 HI HR HT H10 q0 q1 q2 q3 kx hx3
      go_wp2
      all_goals
        go_loopw [144] (fun i wr => ∃ (n : Nat) (d : Nat), n ≤ l.length ∧ i = .int .i64 n ∧ wr = w7.drewN d) (fun i _ => l.length - (intOf i).toNat)
        case atStart => exact ⟨0, 0, by omega, rfl, rfl⟩
        case round =>
          obtain ⟨n, dd, hn, rfl, rfl⟩ := hrel
          by_cases hlt : n < l.length
          · obtain ⟨vs, t1, t2⟩ := T7.out
            obtain ⟨vn, n1, -, n3⟩ := N7.out
            obtain ⟨s2, es2, hO⟩ := n3 n hlt
            obtain ⟨As, cs, rfl⟩ := owns_form hO.1
            obtain ⟨gl, ol, xl, eA, hcl, hxl⟩ := tol_cells t1 t2 (Below.refl _ _) I7.out.2.1 n hlt
            subst eA
            obtain ⟨-, (⟨e, h0⟩ | ⟨gn, cn2, cur, e, -⟩)⟩ := id n1
            · omega
            · cases e
              have hcn := n1.cells (g := gn) rfl n _ es2
              rw [add0] at hcn
              have h40 := HL40.out _ (List.getElem_mem hlt)
              have hl2 := isI_owns hO.1 (by omega) hO.2
              have hcn' : w7.cell? ⟨gn, n, none⟩ = some (.slice As l[n].length cs) := hcn
              have hcl' : w7.cell? ⟨gl, ol + n, none⟩ = some xl := hcl
              have hq7' : w7.cell? ⟨xb, 3, none⟩ = some (.slice (some ⟨gl, ol, none⟩) l.length ct) := q3'
              have HS2 : Hid (∀ nn, Calls Try.prog 16 #[.slice As l[n].length cs, xl] (w7.drewN (dd + nn)) fun e w'' => e = .returned (.bool true) ∧ ∃ mm, w'' = w7.drewN (dd + mm)) := fun nn => by
                refine (sameInts_self (w7.drewN (dd + nn)) _ _ l[n] (IsI.keep hl2 (Same.below' (below_drewN _ _ _))) (IsI.keep hxl (Same.below' (below_drewN _ _ _)))).mono ?_
                rintro e w' ⟨rfl, mm, rfl⟩
                exact ⟨rfl, nn + mm, by rw [World.drewN_drewN, Nat.add_assoc]⟩
              clear t1 t2 n1 n3 hO es2 hcl hxl hl2 hcn
              go_wp2
              go_quiet ((go_at_call 16; exact HS2.out _))
              go_wp2
              exact ⟨⟨n + 1, _, hlt, by go_num, rfl⟩, by simp [intOf]; omega⟩
          · have hB := I7.out.2.1
            go_wp2
            go_ret
            exact ⟨rfl, hB.trans (below_drewN _ _ _)⟩
theorem lit_i64 {n : Int} (h : (Lit.int .i64 n).wf = true) : -9223372036854775808 ≤ n ∧ n ≤ 9223372036854775807 := by
  simp [Lit.wf, show IntKind.i64.min = -9223372036854775808 by decide, show IntKind.i64.max = 9223372036854775807 by decide] at h
  exact h
theorem unB {c : Nat} {χ : Col} {w : World} {v : Value} {xs : List Int} {P : Int → Prop} (h : IsL 1 (fun χ w cs x => rInt .i64 χ w cs x ∧ P x) c χ w v xs) : IsI c χ w v xs ∧ ∀ x ∈ xs, P x := by
  obtain ⟨A, cap, e, h1, h2, h3, h4⟩ := h
  refine ⟨⟨A, cap, e, h1, h2, h3, fun i hi => ?_⟩, fun x hx => ?_⟩
  · obtain ⟨b, o, cs, e1, e2, e3, e4, e5⟩ := h4 i hi
    exact ⟨b, o, cs, e1, e2, e3, e4.1, e5⟩
  · obtain ⟨i, hi, rfl⟩ := List.getElem_of_mem hx
    obtain ⟨b, o, cs, e1, e2, e3, e4, e5⟩ := h4 i hi
    exact e4.2
theorem plays_law (w : World) (v u : Value) (k r b : Int) (s : List (List Int)) (lv : List Int) (m : Int) (_ : (Lit.int .i64 k).wf = true) (_ : (Lit.int .i64 r).wf = true) (_ : (Lit.int .i64 b).wf = true) (hs : IsII 0 0 (fun _ => 0) w v s)
    (hl : IsL 1 (fun χ w cs x => rInt .i64 χ w cs x ∧ (-9223372036854775808 ≤ x ∧ x ≤ 9223372036854775807)) 0 (fun _ => 0) w u lv) (_ : (Lit.int .i64 m).wf = true) :
    Calls Try.prog 3 #[.int .i64 k, .int .i64 r, .int .i64 b, v, u, .int .i64 m] w fun e w' => e = .returned (.bool true) ∧ Below w.heap.size w w' := by
  obtain ⟨h1, h2⟩ := unB hl
  by_cases f : fewM s 30 = true
  · by_cases g : s.length ≤ lv.length
    · rcases checkM_or k r b with h | h
      · exact plays_yes w k r b v u s lv m hs h1 h2 f g h
      · exact plays_no w k r b v u s lv m hs h1 (.inr ⟨f, .inr ⟨g, h⟩⟩)
    · exact plays_no w k r b v u s lv m hs h1 (.inr ⟨f, .inl (by omega)⟩)
  · exact plays_no w k r b v u s lv m hs h1 (.inl (by simpa using f))
end Go.Proofs.Ytlaohilchcjffaa
