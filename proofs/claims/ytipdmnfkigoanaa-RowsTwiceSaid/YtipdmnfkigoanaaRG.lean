import Derived.Test.YtipdmnfkigoanaaRF
namespace Go.Proofs.Ytipdmnfkigoanaa
open Go.RowKit


/-- The word of an iterator that turns memory of its own (colors T): the function gf, its captured values lb, hands out the items xs, one by one; the round turns blocks of colors Co alone; at the end Zt holds. -/
def IterC {α : Type} (P : Program) (gf : Nat) (lb : Array Value) (Y : α → Array Value → Prop) (Co T : Nat → Prop) (Zt : Col → World → Prop) (xs : List α) (χ : Col) (W : World) : Prop :=
  ∀ (n l : Nat) (J Jx : List α → Col → World → Prop),
    (∀ pre χ1 χ2 U U', J pre χ1 U → Same Co χ1 χ2 U U' → J pre χ2 U') → (∀ pre χ1 χ2 U U', Jx pre χ1 U → Same Co χ1 χ2 U U' → Jx pre χ2 U') →
    (∀ m pre x rest vs χ1 U, xs = pre ++ x :: rest → J pre χ1 U → Y x vs → YieldAt Fence.wide m P l vs U fun e W' => ∃ χ2, (∀ b, b < U.heap.size → χ2 b = χ1 b) ∧ Chg χ1 Co U W' ∧
      ((e = .returned (.bool true) ∧ J (pre ++ [x]) χ2 W') ∨ (e = .returned (.bool false) ∧ Jx (pre ++ [x]) χ2 W'))) →
    J [] χ W → CallsIn Fence.wide n P gf (#[.func (.yield l) #[] #[]] ++ lb) W fun e W' => (∃ v, e = .returned v) ∧ ∃ χ2, (∀ b, b < W.heap.size → χ2 b = χ b) ∧ Chg χ (fun x => Co x ∨ T x) W W' ∧
      ((Zt χ2 W' ∧ J xs χ2 W') ∨ ∃ pre, pre <+: xs ∧ Jx pre χ2 W')

/-- How a round may be left. -/
def roundEndC {α : Type} (Co : Nat → Prop) (χ : Col) (I : List α → Col → World → Prop) (Ix : Code → List α → Col → World → Prop) (xs : List α) (W : World) : Exit → Act → World → Prop
  | .normal, _, W' => ∃ χ2, (∀ b, b < W.heap.size → χ2 b = χ b) ∧ Chg χ Co W W' ∧ I xs χ2 W'
  | .ret, _, W' => ∃ χ2, (∀ b, b < W.heap.size → χ2 b = χ b) ∧ Chg χ Co W W' ∧ Ix .ret xs χ2 W'
  | .exit id, _, W' => ∃ χ2, (∀ b, b < W.heap.size → χ2 b = χ b) ∧ Chg χ Co W W' ∧ Ix (.exit id) xs χ2 W'
  | .goto t, _, W' => ∃ χ2, (∀ b, b < W.heap.size → χ2 b = χ b) ∧ Chg χ Co W W' ∧ Ix (.goto t) xs χ2 W'
  | .panic _, _, _ => False
  | .outgrown, _, _ => False

theorem Chg.mono {χ : Col} {C C' : Nat → Prop} {w w' : World} (h : Chg χ C w w') (hc : ∀ x, C x → C' x) : Chg χ C' w w' := ⟨h.os, h.tape, h.output, h.size, fun b hb hn => h.blk b hb fun k => hn (hc _ k)⟩
theorem Chg.putObj {χ : Col} {C : Nat → Prop} (W : World) (l : Nat) (o : Obj) (hc : C (χ l)) : Chg χ C W (W.putObj l o) :=
  ⟨rfl, rfl, rfl, by simp, fun b _ hn => World.putObj_heap_other (fun e => hn (by subst e; exact hc))⟩
theorem Same.refl (D : Nat → Prop) (χ : Col) (w : World) : Same D χ χ w w := fun _ _ _ => ⟨rfl, rfl⟩

/-- A range over a function, outside all rounds; the iterator may turn memory. -/
theorem wp_rangeC {α : Type} {n : Nat} {P : Program} {g : Operand} {ps : Array Tmp} {assign body : Code} {Q : Exit → Act → World → Prop} {a : Act} {w : World}
    {gf : Nat} {lb : Array Value} (hg : a.eval g = .func (.func gf) #[] lb) (eg : ∀ args w, (callFunc gf args).run P w = .ok (.enter gf args) w)
    {Y : α → Array Value → Prop} {Co T : Nat → Prop} {cR : Nat} {χ : Col} {Zt : Col → World → Prop} {xs : List α} (hCR : ¬ Co cR) (hTR : ¬ T cR)
    (hit : ∀ W, Below w.heap.size w W → IterC P gf lb Y (fun x => Co x ∨ x = cR) T Zt xs (paint χ w.heap.size cR) W)
    (I : List α → Col → World → Prop) (Ix : Code → List α → Col → World → Prop) (Z : List α → α → Act → Col → World → Prop)
    (hI : ∀ pre χ1 χ2 W W', I pre χ1 W → Same Co χ1 χ2 W W' → I pre χ2 W') (hIx : ∀ c pre χ1 χ2 W W', Ix c pre χ1 W → Same Co χ1 χ2 W W' → Ix c pre χ2 W')
    (hZ : ∀ pre x a₁ χ1 χ2 W W', Z pre x a₁ χ1 W → Same Co χ1 χ2 W W' → Z pre x a₁ χ2 W')
    (h0 : I [] χ w)
    (hassign : ∀ (m l : Nat) pre x rest vs χ1 W, xs = pre ++ x :: rest → I pre χ1 W → Y x vs → vs.size = ps.size ∧
      assign.wpIn (Fence.wide.inRound l) m P (Exit.then (fun a₁ W1 => ∃ χ2, (∀ b, b < W.heap.size → χ2 b = χ1 b) ∧ Chg χ1 Co W W1 ∧ Z pre x a₁ χ2 W1) (fun _ _ _ => False))
        { tmps := (ps.zip vs).foldl (fun t (p, v) => t.setIfInBounds p v) a.tmps, defers := [] } W)
    (hbody : ∀ (m l : Nat) pre x rest a₁ χ1 W, xs = pre ++ x :: rest → Z pre x a₁ χ1 W → body.wpIn (Fence.wide.inRound l) m P (roundEndC Co χ1 I Ix (pre ++ [x]) W) a₁ W)
    (hdone : ∀ (D : Nat) (χ2 : Col) (W : World), w.heap.size ≤ D → χ2 D = cR → (∀ b, b < w.heap.size → χ2 b = χ b) → Chg χ (fun x => Co x ∨ T x) w W → Zt χ2 W → I xs χ2 W → W.heap[D]? = some (.deferred (some [])) →
      Q .normal { a with defers := { target := .collected D, args := #[] } :: a.defers } W)
    (hZt : ∀ χ1 χ2 W W', Zt χ1 W → Same T χ1 χ2 W W' → Zt χ2 W')
    (hstop : ∀ (D : Nat) (χ2 : Col) (c : Code) (pre : List α) (W : World), w.heap.size ≤ D → χ2 D = cR → (∀ b, b < w.heap.size → χ2 b = χ b) → Chg χ (fun x => Co x ∨ T x) w W → pre <+: xs → Ix c pre χ2 W → W.heap[D]? = some (.deferred (some [])) →
      c.wpIn Fence.wide n P Q { a with defers := { target := .collected D, args := #[] } :: a.defers } W)
    (hcw : ∀ b, b < w.heap.size → χ b ≠ cR) :
    (Code.rangeFunc g ps assign body).wpIn Fence.wide n P Q a w := by
  refine wpIn_rangeFunc ?_
  intro fn hfn
  obtain ⟨rec, hrec⟩ : ∃ rec : LoopState → Option Code → Loop, rec = fun st pe => { state := st, pending := pe, fn, tmps := a.tmps, params := ps, assign, body, defers := w.heap.size } := ⟨_, rfl⟩
  obtain ⟨W1, hW1⟩ : ∃ W1, (w.alloc (.deferred (some []))).alloc (.loop (rec .ready none)) = W1 := ⟨_, rfl⟩
  have hL1 : W1.heap[w.heap.size + 1]? = some (.loop (rec .ready none)) := by
    rw [← hW1]; have := World.alloc_heap_new (w.alloc (.deferred (some []))) (.loop (rec .ready none)); rwa [World.size_alloc] at this
  have hK1 : W1.heap[w.heap.size]? = some (.deferred (some [])) := by
    rw [← hW1]; exact (Below.heap_alloc _ _ _ (by simp)).trans (World.alloc_heap_new w _)
  have hb1 : Below w.heap.size w W1 := by
    rw [← hW1]; exact ((Below.refl _ w).alloc (Nat.le_refl _) _).alloc (by simp) _
  have hI1 : I [] (paint χ w.heap.size cR) W1 := hI _ _ _ _ _ h0 (.below cR hb1)
  have hp0 : paint χ w.heap.size cR w.heap.size = cR := paint_high (Nat.le_refl _)
  have hp1 : paint χ w.heap.size cR (w.heap.size + 1) = cR := paint_high (by omega)
  have sameCo : ∀ {χ1 χ2 : Col} {U U' : World}, Same (fun x => Co x ∨ x = cR) χ1 χ2 U U' → Same Co χ1 χ2 U U' := fun h => h.mono fun _ => .inl
  have keepR : ∀ {χ1 χ2 : Col} {U U' : World} {k : Nat} {o : Obj}, Same (fun x => Co x ∨ x = cR) χ1 χ2 U U' → χ1 k = cR → U.heap[k]? = some o → χ2 k = cR ∧ U'.heap[k]? = some o := fun hs hc ho => by
    have h := hs _ (Array.getElem?_eq_some_iff.1 ho).1 (.inr hc)
    exact ⟨h.1.trans hc, h.2.trans ho⟩
  have keepC : ∀ {χ1 : Col} {U U' : World} {k : Nat} {o : Obj}, Chg χ1 Co U U' → χ1 k = cR → U.heap[k]? = some o → U'.heap[k]? = some o := fun hs hc ho =>
    (hs.blk _ (Array.getElem?_eq_some_iff.1 ho).1 (by rw [hc]; exact hCR)).trans ho
  refine ⟨w.heap.size + 1, [{ target := .collected w.heap.size, args := #[] }], W1, { target := .fn (.func gf) lb, args := #[.func (.yield (w.heap.size + 1)) #[] #[]] }, W1, gf,
    #[.func (.yield (w.heap.size + 1)) #[] #[]] ++ lb, W1, ?_, ?_, ?_, ?_, fun h => by simp [Fence.wide] at h, ?_⟩
  · rw [← hW1, hrec]; exact run_enterLoop_outer _ _ _ _ _
  · simp only [resolve, hg]
    simp [go_sem]
  · intro f' hf'; trivial
  · simp [invoke, go_sem, eg]
  · have hsz : W1.heap.size = w.heap.size + 2 := by rw [← hW1]; simp
    refine (hit W1 hb1 (n - 1) (w.heap.size + 1)
      (fun pre χ1 W => I pre χ1 W ∧ (χ1 (w.heap.size + 1) = cR ∧ W.heap[w.heap.size + 1]? = some (.loop (rec .ready none))) ∧ (χ1 w.heap.size = cR ∧ W.heap[w.heap.size]? = some (.deferred (some []))))
      (fun pre χ1 W => ∃ c, Ix c pre χ1 W ∧ (χ1 (w.heap.size + 1) = cR ∧ W.heap[w.heap.size + 1]? = some (.loop (rec .done (some c)))) ∧ (χ1 w.heap.size = cR ∧ W.heap[w.heap.size]? = some (.deferred (some []))))
      ?_ ?_ ?_ ⟨hI1, ⟨hp1, hL1⟩, hp0, hK1⟩).mono ?_
    · rintro pre χ1 χ2 U U' ⟨h1, h2, h3⟩ hs
      exact ⟨hI _ _ _ _ _ h1 (sameCo hs), keepR hs h2.1 h2.2, keepR hs h3.1 h3.2⟩
    · rintro pre χ1 χ2 U U' ⟨c, h1, h2, h3⟩ hs
      exact ⟨c, hIx _ _ _ _ _ _ h1 (sameCo hs), keepR hs h2.1 h2.2, keepR hs h3.1 h3.2⟩
    · rintro m pre x rest vs χ1 W hx ⟨hi, ⟨cl, hl⟩, ck, hk⟩ hy0
      have hlt : w.heap.size + 1 < W.heap.size := (Array.getElem?_eq_some_iff.1 hl).1
      obtain ⟨hps, ha⟩ := hassign m (w.heap.size + 1) pre x rest vs χ1 W hx hi hy0
      have hy := run_yield (P := P) (args := vs) hl (by rw [hrec]; exact hps)
      rw [hrec] at hy
      refine ⟨fn, _, assign, body, hy, roundIn_of_wpIn hfn (wpIn_mono ha ?_)⟩
      rintro e a₁ Wa hp
      cases e with
      | normal =>
        obtain ⟨χa, aga, hca, hz⟩ := hp
        have hla := keepC hca cl hl
        have hKa := keepC hca ck hk
        have cla : χa (w.heap.size + 1) = cR := (aga _ hlt).trans cl
        have cka : χa w.heap.size = cR := (aga _ (by omega)).trans ck
        refine ⟨_, run_beginRound hla (by rw [hrec]), ?_⟩
        have hl2 : (Wa.putObj (w.heap.size + 1) (.loop { rec .ready none with state := .busy })).heap[w.heap.size + 1]? = some (.loop { rec .ready none with state := .busy }) := World.putObj_heap_same (Array.getElem?_eq_some_iff.1 hla).1
        have hk2 : (Wa.putObj (w.heap.size + 1) (.loop { rec .ready none with state := .busy })).heap[w.heap.size]? = some (.deferred (some [])) := (World.putObj_heap_other (by omega)).trans hKa
        have hc2 : Chg χa (· = cR) Wa (Wa.putObj (w.heap.size + 1) (.loop { rec .ready none with state := .busy })) := .putObj _ _ _ cla
        have hs2 : Same Co χa χa Wa (Wa.putObj (w.heap.size + 1) (.loop { rec .ready none with state := .busy })) := .chg' hc2 (fun _ _ => rfl) (fun x hx e => hCR (e ▸ hx))
        refine wpIn_mono (hbody m (w.heap.size + 1) pre x rest a₁ χa _ hx (hZ _ _ _ _ _ _ _ hz hs2)) ?_
        have fin : ∀ (jump : Option Code) (χ3 : Col) (W3 : World), (∀ b, b < (Wa.putObj (w.heap.size + 1) (.loop { rec .ready none with state := .busy })).heap.size → χ3 b = χa b) →
            Chg χa Co (Wa.putObj (w.heap.size + 1) (.loop { rec .ready none with state := .busy })) W3 →
            (Instr.endRound (w.heap.size + 1) jump).run P W3 = .ok (.bool jump.isNone) (W3.putObj (w.heap.size + 1) (.loop (rec (if jump.isNone then .ready else .done) jump))) ∧
            Same Co χ3 χ3 W3 (W3.putObj (w.heap.size + 1) (.loop (rec (if jump.isNone then .ready else .done) jump))) ∧
            (χ3 (w.heap.size + 1) = cR ∧ (W3.putObj (w.heap.size + 1) (.loop (rec (if jump.isNone then .ready else .done) jump))).heap[w.heap.size + 1]? = some (.loop (rec (if jump.isNone then .ready else .done) jump))) ∧
            (χ3 w.heap.size = cR ∧ (W3.putObj (w.heap.size + 1) (.loop (rec (if jump.isNone then .ready else .done) jump))).heap[w.heap.size]? = some (.deferred (some []))) ∧
            (∀ b, b < W.heap.size → χ3 b = χ1 b) ∧ Chg χ1 (fun x => Co x ∨ x = cR) W (W3.putObj (w.heap.size + 1) (.loop (rec (if jump.isNone then .ready else .done) jump))) := fun jump χ3 W3 ag3 hc3 => by
          have hl3 := keepC hc3 cla hl2
          have := run_endRound (P := P) jump hl3
          rw [hrec] at this ⊢
          have hsa : Wa.heap.size ≤ (Wa.putObj (w.heap.size + 1) (.loop { rec .ready none with state := .busy })).heap.size := by simp
          have cl3 : χ3 (w.heap.size + 1) = cR := (ag3 _ (Array.getElem?_eq_some_iff.1 hl2).1).trans cla
          have ck3 : χ3 w.heap.size = cR := (ag3 _ (Array.getElem?_eq_some_iff.1 hk2).1).trans cka
          have hcE : ∀ o, Chg χ3 (· = cR) W3 (W3.putObj (w.heap.size + 1) o) := fun o => .putObj _ _ _ cl3
          refine ⟨this, .chg' (hcE _) (fun _ _ => rfl) (fun x hx e => hCR (e ▸ hx)), ⟨cl3, World.putObj_heap_same (Array.getElem?_eq_some_iff.1 hl3).1⟩, ⟨ck3, (World.putObj_heap_other (by omega)).trans (keepC hc3 cka hk2)⟩,
            fun b hb => ?_, ?_⟩
          · have hba : b < Wa.heap.size := Nat.lt_of_lt_of_le hb hca.size
            exact (ag3 b (Nat.lt_of_lt_of_le hba hsa)).trans (aga b hb)
          · refine (hca.mono fun x => .inl).trans aga ((hc2.mono fun x => .inr).step ((hc3.mono fun x => .inl).trans (χ' := χ3) ag3 ((hcE _).mono fun x => .inr)))
        rintro e a3 W3 hp
        cases e with
        | normal =>
          obtain ⟨χ3, ag3, hc3, hi3⟩ := hp
          obtain ⟨hr, hs3, hl4, hk4, ag4, hc4⟩ := fin none χ3 W3 ag3 hc3
          exact ⟨_, _, hr, χ3, ag4, hc4, .inl ⟨rfl, hI _ _ _ _ _ hi3 hs3, hl4, hk4⟩⟩
        | ret =>
          obtain ⟨χ3, ag3, hc3, hi3⟩ := hp
          obtain ⟨hr, hs3, hl4, hk4, ag4, hc4⟩ := fin (some .ret) χ3 W3 ag3 hc3
          exact ⟨_, _, hr, χ3, ag4, hc4, .inr ⟨rfl, .ret, hIx _ _ _ _ _ _ hi3 hs3, hl4, hk4⟩⟩
        | exit id =>
          obtain ⟨χ3, ag3, hc3, hi3⟩ := hp
          obtain ⟨hr, hs3, hl4, hk4, ag4, hc4⟩ := fin (some (.exit id)) χ3 W3 ag3 hc3
          exact ⟨_, _, hr, χ3, ag4, hc4, .inr ⟨rfl, .exit id, hIx _ _ _ _ _ _ hi3 hs3, hl4, hk4⟩⟩
        | goto t =>
          obtain ⟨χ3, ag3, hc3, hi3⟩ := hp
          obtain ⟨hr, hs3, hl4, hk4, ag4, hc4⟩ := fin (some (.goto t)) χ3 W3 ag3 hc3
          exact ⟨_, _, hr, χ3, ag4, hc4, .inr ⟨rfl, .goto t, hIx _ _ _ _ _ _ hi3 hs3, hl4, hk4⟩⟩
        | panic ch => exact hp.elim
        | outgrown => exact hp.elim
      | ret => exact hp.elim
      | exit id => exact hp.elim
      | goto t => exact hp.elim
      | panic ch => exact hp.elim
      | outgrown => exact hp.elim
    · have back : ∀ {χ2 : Col} {W2 : World} (o : Obj), (∀ b, b < W1.heap.size → χ2 b = paint χ w.heap.size cR b) → Chg (paint χ w.heap.size cR) (fun x => (Co x ∨ x = cR) ∨ T x) W1 W2 → χ2 (w.heap.size + 1) = cR →
          (∀ b, b < w.heap.size → χ2 b = χ b) ∧ Chg χ (fun x => Co x ∨ T x) w (W2.putObj (w.heap.size + 1) o) := fun o ag hc cl => by
        refine ⟨fun b hb => (ag b (by omega)).trans (paint_low hb), ⟨(hc.os.trans hb1.os), hc.tape.trans hb1.tape, hc.output.trans hb1.output, by have := hc.size; simp; omega, fun b hb hn => ?_⟩⟩
        refine (World.putObj_heap_other (by omega)).trans ((hc.blk b (by omega) ?_).trans (hb1.block b hb))
        rw [paint_low hb]
        rintro ((h | h) | h)
        · exact hn (.inl h)
        · exact hcw b hb h
        · exact hn (.inr h)
      rintro e W2 ⟨⟨v, rfl⟩, χ2, ag, hc, (⟨hzt, hi, ⟨cl, hl⟩, ck, hk⟩ | ⟨pre, hSp, c, hi, ⟨cl, hl⟩, ck, hk⟩)⟩
      · exact ⟨none, _, by have := run_endLoop (P := P) hl (by rw [hrec]; simp); rw [hrec] at this; exact this,
          hdone w.heap.size χ2 _ (Nat.le_refl _) ck (back (.deferred none) ag hc cl).1 (back _ ag hc cl).2 (hZt _ _ _ _ hzt (.chg' (C := (· = cR)) (.putObj _ _ _ cl) (fun _ _ => rfl) (fun x hx e => hTR (e ▸ hx))))
            (hI _ _ _ _ _ hi (.chg' (C := (· = cR)) (.putObj _ _ _ cl) (fun _ _ => rfl) (fun x hx e => hCR (e ▸ hx)))) ((World.putObj_heap_other (by omega)).trans hk)⟩
      · exact ⟨some c, _, by have := run_endLoop (P := P) hl (by rw [hrec]; simp); rw [hrec] at this; exact this,
          hstop w.heap.size χ2 c pre _ (Nat.le_refl _) ck (back (.deferred none) ag hc cl).1 (back _ ag hc cl).2 hSp
            (hIx _ _ _ _ _ _ hi (.chg' (C := (· = cR)) (.putObj _ _ _ cl) (fun _ _ => rfl) (fun x hx e => hCR (e ▸ hx)))) ((World.putObj_heap_other (by omega)).trans hk)⟩
end Go.Proofs.Ytipdmnfkigoanaa
