import Derived.Test.YtipdmnfkigoanaaBase
namespace Go.Proofs.Ytipdmnfkigoanaa

/-! Sets of keys as spans: plain facts. -/
abbrev Sp := Nat × Nat
/-- a key is in spans. -/
def Mem (k : Nat) (l : List Sp) : Prop := ∃ s ∈ l, s.1 ≤ k ∧ k ≤ s.2
def memB (k : Nat) (l : List Sp) : Bool := l.any fun s => decide (s.1 ≤ k) && decide (k ≤ s.2)
theorem memB_iff {k : Nat} {l : List Sp} : memB k l = true ↔ Mem k l := by
  unfold memB Mem; simp [List.any_eq_true, Bool.and_eq_true, decide_eq_true_eq]
theorem mem_nil {k : Nat} : ¬ Mem k [] := by rintro ⟨s, h, _⟩; simp at h
theorem mem_cons {k : Nat} {s : Sp} {l : List Sp} : Mem k (s :: l) ↔ (s.1 ≤ k ∧ k ≤ s.2) ∨ Mem k l := by
  unfold Mem; simp only [List.mem_cons, exists_eq_or_imp]
theorem mem_append {k : Nat} {l m : List Sp} : Mem k (l ++ m) ↔ Mem k l ∨ Mem k m := by
  unfold Mem
  constructor
  · rintro ⟨s, h, hk⟩
    rcases List.mem_append.1 h with h | h
    · exact .inl ⟨s, h, hk⟩
    · exact .inr ⟨s, h, hk⟩
  · rintro (⟨s, h, hk⟩ | ⟨s, h, hk⟩)
    · exact ⟨s, List.mem_append_left _ h, hk⟩
    · exact ⟨s, List.mem_append_right _ h, hk⟩
theorem mem_one {k : Nat} {s : Sp} : Mem k [s] ↔ s.1 ≤ k ∧ k ≤ s.2 := by
  rw [mem_cons]; exact or_iff_left mem_nil
theorem mem_perm {k : Nat} {l m : List Sp} (h : l.Perm m) : Mem k l ↔ Mem k m := by
  unfold Mem
  exact ⟨fun ⟨s, hs, hk⟩ => ⟨s, h.mem_iff.1 hs, hk⟩, fun ⟨s, hs, hk⟩ => ⟨s, h.mem_iff.2 hs, hk⟩⟩
theorem mem_rev {k : Nat} {l : List Sp} : Mem k l.reverse ↔ Mem k l := mem_perm (List.reverse_perm l)
/-- the spans that have keys. -/
def okSp (s : Sp) : Bool := decide (s.1 ≤ s.2)
theorem mem_filter {k : Nat} {l : List Sp} : Mem k (l.filter okSp) ↔ Mem k l := by
  unfold Mem
  constructor
  · rintro ⟨s, h, hk⟩
    exact ⟨s, (List.mem_filter.1 h).1, hk⟩
  · rintro ⟨s, h, hk⟩
    exact ⟨s, List.mem_filter.2 ⟨h, by unfold okSp; simp; omega⟩, hk⟩

abbrev Gap (s t : Sp) : Prop := s.2 + 1 < t.1
abbrev OkS (s : Sp) : Prop := s.1 ≤ s.2 ∧ s.2 < 4294967296
/-- a set. -/
structure NF (l : List Sp) : Prop where
  ok : ∀ s ∈ l, OkS s
  gap : l.Pairwise Gap
theorem NF.nil : NF [] := ⟨by simp, .nil⟩
theorem NF.tail {s : Sp} {l : List Sp} (h : NF (s :: l)) : NF l := ⟨fun t ht => h.ok t (List.mem_cons_of_mem _ ht), h.gap.of_cons⟩
theorem NF.head {s : Sp} {l : List Sp} (h : NF (s :: l)) : OkS s := h.ok s List.mem_cons_self
theorem NF.far {s : Sp} {l : List Sp} (h : NF (s :: l)) {k : Nat} (hk : Mem k l) : s.2 + 1 < k := by
  obtain ⟨t, ht, h1, _⟩ := hk
  have : s.2 + 1 < t.1 := List.rel_of_pairwise_cons h.gap ht
  omega
theorem NF.cons {s : Sp} {l : List Sp} (h : NF l) (hs : OkS s) (hf : ∀ k, Mem k l → s.2 + 1 < k) : NF (s :: l) := by
  refine ⟨fun t ht => ?_, .cons (fun t ht => ?_) h.gap⟩
  · rcases List.mem_cons.1 ht with e | e
    · subst e; exact hs
    · exact h.ok t e
  · exact hf t.1 ⟨t, ht, Nat.le_refl _, (h.ok t ht).1⟩
theorem NF.lt {l : List Sp} (h : NF l) {k : Nat} (hk : Mem k l) : k < 4294967296 := by
  obtain ⟨s, hs, _, h2⟩ := hk
  have := (h.ok s hs).2; omega
/-- two sets of the same keys are the same. -/
theorem NF.ext {l m : List Sp} (h : NF l) (g : NF m) (e : ∀ k, Mem k l ↔ Mem k m) : l = m := by
  induction l generalizing m with
  | nil =>
    cases m with
    | nil => rfl
    | cons t m => exact absurd ((e t.1).2 ⟨t, List.mem_cons_self, Nat.le_refl _, g.head.1⟩) mem_nil
  | cons s l ih =>
    cases m with
    | nil => exact absurd ((e s.1).1 ⟨s, List.mem_cons_self, Nat.le_refl _, h.head.1⟩) mem_nil
    | cons t m =>
      have hs := h.head
      have ht := g.head
      have a1 := (e s.1).1 ⟨s, List.mem_cons_self, Nat.le_refl _, hs.1⟩
      have a2 := (e t.1).2 ⟨t, List.mem_cons_self, Nat.le_refl _, ht.1⟩
      have e1 : s.1 = t.1 := by
        rcases mem_cons.1 a1 with h1 | h1
        · rcases mem_cons.1 a2 with h2 | h2
          · omega
          · have := h.far h2; omega
        · have := g.far h1
          rcases mem_cons.1 a2 with h2 | h2
          · omega
          · have := h.far h2; omega
      have b1 : ¬ s.2 < t.2 := fun c => by
        rcases mem_cons.1 ((e (s.2 + 1)).2 (mem_cons.2 (.inl ⟨by omega, by omega⟩))) with h1 | h1
        · omega
        · have := h.far h1; omega
      have b2 : ¬ t.2 < s.2 := fun c => by
        rcases mem_cons.1 ((e (t.2 + 1)).1 (mem_cons.2 (.inl ⟨by omega, by omega⟩))) with h1 | h1
        · omega
        · have := g.far h1; omega
      have e2 : s = t := Prod.ext e1 (by omega)
      subst e2
      rw [ih h.tail g.tail fun k => ⟨fun hk => ?_, fun hk => ?_⟩]
      · have := h.far hk
        rcases mem_cons.1 ((e k).1 (mem_cons.2 (.inr hk))) with h1 | h1
        · omega
        · exact h1
      · have := g.far hk
        rcases mem_cons.1 ((e k).2 (mem_cons.2 (.inr hk))) with h1 | h1
        · omega
        · exact h1

/-- l is the set of the keys that p says. -/
structure IsSet (p : Nat → Prop) (l : List Sp) : Prop where
  nf : NF l
  iff : ∀ k, Mem k l ↔ p k
theorem IsSet.eq {p q : Nat → Prop} {l m : List Sp} (h : IsSet p l) (g : IsSet q m) (e : ∀ k, p k ↔ q k) : l = m :=
  h.nf.ext g.nf fun k => (h.iff k).trans ((e k).trans (g.iff k).symm)
theorem IsSet.of {p q : Nat → Prop} {l : List Sp} (h : IsSet p l) (e : ∀ k, p k ↔ q k) : IsSet q l := ⟨h.nf, fun k => (h.iff k).trans (e k)⟩
theorem IsSet.eq_iff {p q : Nat → Prop} {l m : List Sp} (h : IsSet p l) (g : IsSet q m) : l = m ↔ ∀ k, p k ↔ q k :=
  ⟨fun e k => by subst e; exact (h.iff k).symm.trans (g.iff k), fun e => h.eq g e⟩
theorem IsSet.nil_iff {p : Nat → Prop} {l : List Sp} (h : IsSet p l) : l = [] ↔ ∀ k, ¬ p k := by
  constructor
  · rintro rfl k hk; exact mem_nil ((h.iff k).2 hk)
  · intro hp
    cases l with
    | nil => rfl
    | cons s l => exact absurd ((h.iff s.1).1 ⟨s, List.mem_cons_self, Nat.le_refl _, h.nf.head.1⟩) (hp _)
/-- spans are below 2^32. -/
def WfS (l : List Sp) : Prop := ∀ s ∈ l, s.1 < 4294967296 ∧ s.2 < 4294967296
theorem NF.wf {l : List Sp} (h : NF l) : WfS l := fun s hs => by have := h.ok s hs; omega
theorem WfS.lt {l : List Sp} (h : WfS l) {k : Nat} (hk : Mem k l) : k < 4294967296 := by
  obtain ⟨s, hs, _, h2⟩ := hk
  have := (h s hs).2; omega
theorem WfS.append {l m : List Sp} (h : WfS l) (g : WfS m) : WfS (l ++ m) := fun s hs => (List.mem_append.1 hs).elim (h s) (g s)
theorem WfS.filter {l : List Sp} (h : WfS l) (p : Sp → Bool) : WfS (l.filter p) := fun s hs => h s (List.mem_filter.1 hs).1

/-! Make -/
/-- one more span, that begins where the ones ahead do, or behind. -/
def mstep (out : List Sp) (s : Sp) : List Sp :=
  match out.getLast? with
  | none => [s]
  | some t => if s.1 ≤ t.2 + 1 then out.dropLast ++ [(t.1, max t.2 s.2)] else out ++ [s]
def mfold (l : List Sp) : List Sp := l.foldl mstep []
theorem mfold_snoc (l : List Sp) (s : Sp) : mfold (l ++ [s]) = mstep (mfold l) s := by simp [mfold]
theorem mstep_snoc (o : List Sp) (t s : Sp) : mstep (o ++ [t]) s = if s.1 ≤ t.2 + 1 then o ++ [(t.1, max t.2 s.2)] else o ++ [t] ++ [s] := by
  unfold mstep; simp
theorem mstep_nil (s : Sp) : mstep [] s = [s] := rfl
theorem mstep_len (o : List Sp) (s : Sp) : (mstep o s).length ≤ o.length + 1 := by
  rcases List.eq_nil_or_concat o with rfl | ⟨o, t, rfl⟩
  · simp [mstep_nil]
  · rw [List.concat_eq_append, mstep_snoc]; split <;> simp
theorem mfold_len (l : List Sp) : (mfold l).length ≤ l.length := by
  refine snoc_ind (P := fun l => (mfold l).length ≤ l.length) (by simp [mfold]) (fun l x ih => ?_) l
  rw [mfold_snoc]; have := mstep_len (mfold l) x; simp; omega

theorem mfold_wf {l : List Sp} (h : WfS l) : WfS (mfold l) := by
  revert h
  refine snoc_ind (P := fun l => WfS l → WfS (mfold l)) (fun _ => by simp [mfold, WfS]) (fun l x ih h => ?_) l
  have ih := ih fun s hs => h s (List.mem_append_left _ hs)
  have hx := h x (by simp)
  rw [mfold_snoc]
  generalize mfold l = o at ih
  rcases List.eq_nil_or_concat o with rfl | ⟨o, t, rfl⟩
  · rw [mstep_nil]; intro s hs; simp at hs; subst hs; exact hx
  · rw [List.concat_eq_append] at *
    have ht := ih t (by simp)
    rw [mstep_snoc]
    split
    · intro s hs
      rcases List.mem_append.1 hs with e | e
      · exact ih s (List.mem_append_left _ e)
      · simp at e; subst e; exact ⟨ht.1, by show max t.2 x.2 < _; omega⟩
    · intro s hs
      rcases List.mem_append.1 hs with e | e
      · exact ih s e
      · simp at e; subst e; exact hx
theorem mfold_spec (l : List Sp) (hok : ∀ s ∈ l, OkS s) (hs : l.Pairwise fun s t => s.1 ≤ t.1) :
    IsSet (fun k => Mem k l) (mfold l) ∧ ∀ t ∈ mfold l, ∀ s ∈ l.getLast?, t.1 ≤ s.1 := by
  revert hok hs
  refine snoc_ind (P := fun l => (∀ s ∈ l, OkS s) → l.Pairwise (fun s t => s.1 ≤ t.1) → IsSet (fun k => Mem k l) (mfold l) ∧ ∀ t ∈ mfold l, ∀ s ∈ l.getLast?, t.1 ≤ s.1) ?_ ?_ l
  · intro _ _
    exact ⟨⟨NF.nil, fun k => Iff.rfl⟩, by simp [mfold]⟩
  · intro l x ih hok hs
    obtain ⟨hl, h1, h2⟩ := List.pairwise_append.1 hs
    have ih := ih (fun s h => hok s (List.mem_append_left _ h)) hl
    have hx := hok x (by simp)
    obtain ⟨hS, hT⟩ := ih
    have hT2 : ∀ t ∈ mfold l, t.1 ≤ x.1 := by
      intro t ht
      rcases List.eq_nil_or_concat l with rfl | ⟨l', y, rfl⟩
      · simp [mfold] at ht
      · rw [List.concat_eq_append] at hT ht h2
        exact Nat.le_trans (hT t ht y (by simp)) (h2 y (by simp) x (by simp))
    rw [mfold_snoc]
    generalize mfold l = o at hS hT2
    clear hT
    rcases List.eq_nil_or_concat o with rfl | ⟨o, t, rfl⟩
    · rw [mstep_nil]
      refine ⟨⟨⟨by simpa using hx, by simp⟩, fun k => ?_⟩, by simp⟩
      rw [mem_append, ← hS.iff k]
      exact ⟨fun h => .inr h, fun h => h.resolve_left mem_nil⟩
    · rw [List.concat_eq_append] at *
      have ht := hS.nf.ok t (by simp)
      have htx := hT2 t (by simp)
      obtain ⟨g1, g2, g3⟩ := List.pairwise_append.1 hS.nf.gap
      rw [mstep_snoc]
      split
      · next hc =>
        refine ⟨⟨⟨fun s h => ?_, List.pairwise_append.2 ⟨g1, by simp, fun s h u hu => ?_⟩⟩, fun k => ?_⟩, fun s h u hu => ?_⟩
        · rcases List.mem_append.1 h with h | h
          · exact hS.nf.ok s (List.mem_append_left _ h)
          · simp at h; subst h; show t.1 ≤ max t.2 x.2 ∧ max t.2 x.2 < 4294967296; omega
        · simp at hu; subst hu; exact g3 s h t (by simp)
        · show _ ↔ Mem k (l ++ [x])
          rw [mem_append, mem_append, ← hS.iff k, mem_append, mem_one, mem_one, mem_one]
          show _ ∨ (t.1 ≤ k ∧ k ≤ max t.2 x.2) ↔ _
          by_cases c : Mem k o
          · grind
          · grind
        · simp at hu; subst hu
          rcases List.mem_append.1 h with h | h
          · exact hT2 s (List.mem_append_left _ h)
          · simp at h; subst h; exact htx
      · next hc =>
        refine ⟨⟨⟨fun s h => ?_, List.pairwise_append.2 ⟨hS.nf.gap, by simp, fun s h u hu => ?_⟩⟩, fun k => ?_⟩, fun s h u hu => ?_⟩
        · rcases List.mem_append.1 h with h | h
          · exact hS.nf.ok s h
          · simp at h; subst h; exact hx
        · simp at hu; subst hu
          rcases List.mem_append.1 h with h | h
          · have := g3 s h t (by simp); show s.2 + 1 < u.1; omega
          · simp at h; subst h; show s.2 + 1 < u.1; omega
        · show _ ↔ Mem k (l ++ [x])
          rw [mem_append, mem_append (l := l), ← hS.iff k]
        · simp at hu; subst hu
          rcases List.mem_append.1 h with h | h
          · exact hT2 s h
          · simp at h; subst h; exact Nat.le_refl _
/-- What Make makes of spans, however the sort orders them. -/
theorem make_spec {l l' : List Sp} (hw : WfS l) (hp : l'.Perm (l.filter okSp)) (hs : l'.Pairwise fun s t => s.1 ≤ t.1) : IsSet (fun k => Mem k l) (mfold l') := by
  have hok : ∀ s ∈ l', OkS s := fun s h => by
    have := List.mem_filter.1 (hp.mem_iff.1 h)
    have h2 := this.2
    unfold okSp at h2
    exact ⟨by simpa using h2, (hw s this.1).2⟩
  exact (mfold_spec l' hok hs).1.of fun k => (mem_perm hp).trans mem_filter

/-! Not -/
def notL (next : Nat) : List Sp → List Sp
  | [] => if next ≤ 4294967295 then [(next, 4294967295)] else []
  | s :: l => (if next < s.1 then [(next, s.1 - 1)] else []) ++ notL (s.2 + 1) l
theorem notL_spec (l : List Sp) (next : Nat) (h : NF l) (hn : ∀ k, Mem k l → next ≤ k) : IsSet (fun k => next ≤ k ∧ k < 4294967296 ∧ ¬ Mem k l) (notL next l) := by
  induction l generalizing next with
  | nil =>
    unfold notL
    split
    · refine ⟨⟨by simp; omega, by simp⟩, fun k => ?_⟩
      rw [mem_one]; have := @mem_nil k; simp only []; constructor
      · intro h; exact ⟨by omega, by omega, this⟩
      · intro h; omega
    · refine ⟨NF.nil, fun k => ⟨fun h => absurd h mem_nil, fun h => by omega⟩⟩
  | cons s l ih =>
    have hs := h.head
    have h0 := hn s.1 (mem_cons.2 (.inl ⟨Nat.le_refl _, hs.1⟩))
    have ih := ih (s.2 + 1) h.tail fun k hk => by have := h.far hk; omega
    unfold notL
    have key : ∀ k, Mem k (s :: l) ↔ (s.1 ≤ k ∧ k ≤ s.2) ∨ (s.2 + 1 < k ∧ Mem k l) := fun k => by
      rw [mem_cons]
      exact ⟨fun h1 => h1.imp id fun h2 => ⟨h.far h2, h2⟩, fun h1 => h1.imp id fun h2 => h2.2⟩
    split
    · next hc =>
      refine ⟨ih.nf.cons (by show next ≤ s.1 - 1 ∧ s.1 - 1 < _; omega) fun k hk => ?_, fun k => ?_⟩
      · have := (ih.iff k).1 hk; show s.1 - 1 + 1 < k; omega
      · show Mem k ((next, s.1 - 1) :: notL (s.2 + 1) l) ↔ _
        rw [mem_cons, ih.iff k, key k]
        show (next ≤ k ∧ k ≤ s.1 - 1) ∨ _ ↔ _
        by_cases c : Mem k l
        · have := h.far c; grind
        · grind
    · next hc =>
      refine ⟨ih.nf, fun k => ?_⟩
      show Mem k (notL _ l) ↔ _
      rw [ih.iff k, key k]
      by_cases c : Mem k l
      · have := h.far c; grind
      · grind

/-! Meet -/
def meetL : List Sp → List Sp → List Sp
  | s :: a, t :: b => (if max s.1 t.1 ≤ min s.2 t.2 then [(max s.1 t.1, min s.2 t.2)] else []) ++ (if s.2 < t.2 then meetL a (t :: b) else meetL (s :: a) b)
  | _, _ => []
termination_by a b => a.length + b.length
theorem meetL_nil (b : List Sp) : meetL [] b = [] := by unfold meetL; rfl
theorem meetL_nil2 (a : List Sp) : meetL a [] = [] := by cases a <;> (unfold meetL; rfl)
theorem meetL_cons (s t : Sp) (a b : List Sp) : meetL (s :: a) (t :: b) = (if max s.1 t.1 ≤ min s.2 t.2 then [(max s.1 t.1, min s.2 t.2)] else []) ++ (if s.2 < t.2 then meetL a (t :: b) else meetL (s :: a) b) := by
  conv => lhs; unfold meetL
theorem meetL_spec (n : Nat) (a b : List Sp) (hn : a.length + b.length ≤ n) (h : NF a) (g : NF b) : IsSet (fun k => Mem k a ∧ Mem k b) (meetL a b) := by
  induction n generalizing a b with
  | zero =>
    have : a = [] := List.length_eq_zero_iff.1 (by omega)
    subst this
    rw [meetL_nil]
    exact ⟨NF.nil, fun k => ⟨fun h => absurd h mem_nil, fun h => absurd h.1 mem_nil⟩⟩
  | succ n ih =>
    cases a with
    | nil => rw [meetL_nil]; exact ⟨NF.nil, fun k => ⟨fun h => absurd h mem_nil, fun h => absurd h.1 mem_nil⟩⟩
    | cons s a =>
      cases b with
      | nil => rw [meetL_nil2]; exact ⟨NF.nil, fun k => ⟨fun h => absurd h mem_nil, fun h => absurd h.2 mem_nil⟩⟩
      | cons t b =>
        rw [meetL_cons]
        simp only [List.length_cons] at hn
        have hs := h.head
        have ht := g.head
        by_cases c : s.2 < t.2
        · rw [if_pos c]
          have ih := ih a (t :: b) (by simp only [List.length_cons]; omega) h.tail g
          have hf : ∀ k, Mem k (meetL a (t :: b)) → s.2 + 1 < k := fun k hk => h.far ((ih.iff k).1 hk).1
          have key : ∀ k, Mem k (s :: a) ∧ Mem k (t :: b) ↔ (max s.1 t.1 ≤ k ∧ k ≤ min s.2 t.2) ∨ Mem k (meetL a (t :: b)) := fun k => by
            rw [ih.iff k, mem_cons (l := a), mem_cons]
            by_cases ca : Mem k a
            · have := h.far ca
              by_cases cb : Mem k b
              · have := g.far cb; grind
              · grind
            · by_cases cb : Mem k b
              · have := g.far cb; grind
              · grind
          split
          · next hm =>
            refine ⟨ih.nf.cons ⟨hm, by show min s.2 t.2 < _; omega⟩ fun k hk => ?_, fun k => ?_⟩
            · have := hf k hk; show min s.2 t.2 + 1 < k; omega
            · rw [key k]
              show Mem k ([(max s.1 t.1, min s.2 t.2)] ++ _) ↔ _
              rw [mem_append, mem_one]
          · next hm =>
            refine ⟨ih.nf, fun k => ?_⟩
            rw [key k]
            exact ⟨.inr, fun h => h.resolve_left (by omega)⟩
        · rw [if_neg c]
          have ih := ih (s :: a) b (by simp only [List.length_cons]; omega) h g.tail
          have hf : ∀ k, Mem k (meetL (s :: a) b) → t.2 + 1 < k := fun k hk => g.far ((ih.iff k).1 hk).2
          have key : ∀ k, Mem k (s :: a) ∧ Mem k (t :: b) ↔ (max s.1 t.1 ≤ k ∧ k ≤ min s.2 t.2) ∨ Mem k (meetL (s :: a) b) := fun k => by
            rw [ih.iff k, mem_cons, mem_cons]
            by_cases ca : Mem k a
            · have := h.far ca
              by_cases cb : Mem k b
              · have := g.far cb; grind
              · grind
            · by_cases cb : Mem k b
              · have := g.far cb; grind
              · grind
          split
          · next hm =>
            refine ⟨ih.nf.cons ⟨hm, by show min s.2 t.2 < _; omega⟩ fun k hk => ?_, fun k => ?_⟩
            · have := hf k hk; show min s.2 t.2 + 1 < k; omega
            · rw [key k]
              show Mem k ([(max s.1 t.1, min s.2 t.2)] ++ _) ↔ _
              rw [mem_append, mem_one]
          · next hm =>
            refine ⟨ih.nf, fun k => ?_⟩
            rw [key k]
            exact ⟨.inr, fun h => h.resolve_left (by omega)⟩
theorem meetL_len (n : Nat) (a b : List Sp) (hn : a.length + b.length ≤ n) : (meetL a b).length ≤ n := by
  induction n generalizing a b with
  | zero =>
    have : a = [] := List.length_eq_zero_iff.1 (by omega)
    subst this
    rw [meetL_nil]; simp
  | succ n ih =>
    cases a with
    | nil => rw [meetL_nil]; simp
    | cons s a =>
      cases b with
      | nil => rw [meetL_nil2]; simp
      | cons t b =>
        rw [meetL_cons]
        simp only [List.length_cons] at hn
        have h1 := ih a (t :: b) (by simp only [List.length_cons]; omega)
        have h2 := ih (s :: a) b (by simp only [List.length_cons]; omega)
        rw [List.length_append]
        split <;> split <;> simp <;> omega

/-! How many keys -/
def sizeL (l : List Sp) : Nat := (l.map fun s => s.2 - s.1 + 1).sum
def cnt (p : Nat → Bool) : Nat → Nat
  | 0 => 0
  | n + 1 => cnt p n + if p n then 1 else 0
theorem cnt_congr {p q : Nat → Bool} {n : Nat} (h : ∀ k, k < n → p k = q k) : cnt p n = cnt q n := by
  induction n with
  | zero => rfl
  | succ n ih => simp only [cnt]; rw [ih fun k hk => h k (by omega), h n (by omega)]
theorem cnt_or_and (p q : Nat → Bool) (n : Nat) : cnt (fun k => p k || q k) n + cnt (fun k => p k && q k) n = cnt p n + cnt q n := by
  induction n with
  | zero => rfl
  | succ n ih => simp only [cnt]; rcases Bool.eq_false_or_eq_true (p n) with h1 | h1 <;> rcases Bool.eq_false_or_eq_true (q n) with h2 | h2 <;> simp only [h1, h2] <;> simp <;> omega
theorem cnt_none {p : Nat → Bool} {n : Nat} (h : ∀ k, k < n → p k = false) : cnt p n = 0 := by
  induction n with
  | zero => rfl
  | succ n ih => simp only [cnt]; rw [ih fun k hk => h k (by omega), h n (by omega)]; rfl
theorem cnt_all {p : Nat → Bool} {n : Nat} (h : ∀ k, k < n → p k = true) : cnt p n = n := by
  induction n with
  | zero => rfl
  | succ n ih => simp only [cnt]; rw [ih fun k hk => h k (by omega), h n (by omega)]; rfl
theorem cnt_span (lo hi n : Nat) (h : lo ≤ hi) (hn : hi < n) : cnt (fun k => decide (lo ≤ k) && decide (k ≤ hi)) n = hi - lo + 1 := by
  have low : ∀ m, m ≤ lo → cnt (fun k => decide (lo ≤ k) && decide (k ≤ hi)) m = 0 := fun m hm => cnt_none fun k hk => by simp; omega
  have mid : ∀ m, lo ≤ m → m ≤ hi + 1 → cnt (fun k => decide (lo ≤ k) && decide (k ≤ hi)) m = m - lo := fun m h1 h2 => by
    induction m with
    | zero => simp [cnt]
    | succ m ih =>
      by_cases c : lo ≤ m
      · simp only [cnt]; rw [ih c (by omega)]; simp [show m ≤ hi by omega, c]; omega
      · rw [low (m + 1) (by omega)]; omega
  induction n with
  | zero => omega
  | succ n ih =>
    by_cases c : hi < n
    · simp only [cnt]; rw [ih c]; simp; omega
    · rw [mid (n + 1) (by omega) (by omega)]; omega
theorem sizeL_cnt {l : List Sp} (h : NF l) (n : Nat) (hn : ∀ s ∈ l, s.2 < n) : sizeL l = cnt (fun k => memB k l) n := by
  induction l with
  | nil => exact (cnt_none fun k hk => rfl).symm
  | cons s l ih =>
    have e1 := cnt_or_and (fun k => decide (s.1 ≤ k) && decide (k ≤ s.2)) (fun k => memB k l) n
    rw [cnt_span s.1 s.2 n h.head.1 (hn s (by simp)), ← ih h.tail fun t ht => hn t (List.mem_cons_of_mem _ ht)] at e1
    have e2 : cnt (fun k => (decide (s.1 ≤ k) && decide (k ≤ s.2)) && memB k l) n = 0 := cnt_none fun k _ => by
      cases c : memB k l with
      | false => simp
      | true => have := h.far (memB_iff.1 c); simp; omega
    have e3 : cnt (fun k => (decide (s.1 ≤ k) && decide (k ≤ s.2)) || memB k l) n = cnt (fun k => memB k (s :: l)) n := cnt_congr fun k _ => by simp [memB]
    rw [e2, e3] at e1
    show (s.2 - s.1 + 1) + sizeL l = _
    omega
theorem cnt_le (p : Nat → Bool) (n : Nat) : cnt p n ≤ n := by
  induction n with
  | zero => exact Nat.le_refl _
  | succ n ih => simp only [cnt]; split <;> omega
theorem NF.size {l : List Sp} (h : NF l) : sizeL l = cnt (fun k => memB k l) 4294967296 := sizeL_cnt h _ fun s hs => (h.ok s hs).2
theorem NF.size_le {l : List Sp} (h : NF l) : sizeL l ≤ 4294967296 := by rw [h.size]; exact cnt_le _ _
theorem sizeL_snoc (l : List Sp) (s : Sp) : sizeL (l ++ [s]) = sizeL l + (s.2 - s.1 + 1) := by simp [sizeL]
theorem sizeL_take_le (l : List Sp) (k : Nat) : sizeL (l.take k) ≤ sizeL l := by
  have h : sizeL l = sizeL (l.take k) + sizeL (l.drop k) := by
    conv => lhs; rw [← List.take_append_drop k l]
    simp only [sizeL, List.map_append, List.sum_append]
  omega
end Go.Proofs.Ytipdmnfkigoanaa
