import Derived.Test.YtipdmnfkigoanaaIvP
namespace Go.Proofs.Ytipdmnfkigoanaa

/-! The reference: cuts, and what stands between them. -/
theorem NF.snoc {o : List Sp} {s : Sp} (h : NF o) (hs : OkS s) (hf : ∀ k, Mem k o → k + 1 < s.1) : NF (o ++ [s]) := by
  refine ⟨fun t ht => ?_, List.pairwise_append.2 ⟨h.gap, by simp, fun t ht u hu => ?_⟩⟩
  · rcases List.mem_append.1 ht with e | e
    · exact h.ok t e
    · simp at e; subst e; exact hs
  · simp at hu; subst hu
    exact hf t.2 ⟨t, ht, (h.ok t ht).1, Nat.le_refl _⟩
theorem NF.unsnoc {o : List Sp} {s : Sp} (h : NF (o ++ [s])) : NF o ∧ OkS s ∧ ∀ k, Mem k o → k + 1 < s.1 := by
  obtain ⟨g1, g2, g3⟩ := List.pairwise_append.1 h.gap
  refine ⟨⟨fun t ht => h.ok t (List.mem_append_left _ ht), g1⟩, h.ok s (by simp), ?_⟩
  rintro k ⟨t, ht, a, b⟩
  have : t.2 + 1 < s.1 := g3 t ht s (by simp)
  omega

def insC (n : Nat) : List Nat → List Nat
  | [] => [n]
  | x :: r => if x < n then x :: insC n r else if x = n then x :: r else n :: x :: r
theorem insC_mem {n k : Nat} {r : List Nat} : k ∈ insC n r ↔ k = n ∨ k ∈ r := by
  induction r with
  | nil => simp [insC]
  | cons x r ih =>
    unfold insC
    split
    · simp only [List.mem_cons, ih]; grind
    · split
      · next h => subst h; simp only [List.mem_cons]; grind
      · simp only [List.mem_cons]
theorem insC_sorted {n : Nat} {r : List Nat} (h : r.Pairwise (· < ·)) : (insC n r).Pairwise (· < ·) := by
  induction r with
  | nil => simp [insC]
  | cons x r ih =>
    unfold insC
    split
    · next hx =>
      refine .cons (fun y hy => ?_) (ih h.of_cons)
      rcases insC_mem.1 hy with e | e
      · omega
      · exact List.rel_of_pairwise_cons h e
    · split
      · exact h
      · next h1 h2 =>
        refine .cons (fun y hy => ?_) h
        rcases List.mem_cons.1 hy with e | e
        · omega
        · have := List.rel_of_pairwise_cons h e; omega
theorem insC_len (n : Nat) (r : List Nat) : (insC n r).length ≤ r.length + 1 := by
  induction r with
  | nil => simp [insC]
  | cons x r ih => unfold insC; split <;> (try split) <;> simp <;> omega
/-- how many lead, that are less. -/
def leadC (n : Nat) : List Nat → Nat
  | [] => 0
  | x :: r => if x < n then leadC n r + 1 else 0
theorem leadC_le (n : Nat) (r : List Nat) : leadC n r ≤ r.length := by
  induction r with
  | nil => exact Nat.le_refl _
  | cons x r ih => unfold leadC; split <;> simp <;> omega
theorem leadC_lt (n : Nat) (r : List Nat) (k : Nat) (hk : k < leadC n r) (hl : k < r.length) : r[k] < n := by
  induction r generalizing k with
  | nil => simp at hl
  | cons x r ih =>
    unfold leadC at hk
    split at hk
    · cases k with
      | zero => assumption
      | succ k => simpa using ih k (by omega) (by simpa using hl)
    · omega
theorem leadC_ge (n : Nat) (r : List Nat) (hl : leadC n r < r.length) : n ≤ r[leadC n r] := by
  induction r with
  | nil => simp at hl
  | cons x r ih =>
    unfold leadC at hl
    by_cases c : x < n
    · rw [if_pos c] at hl
      have e : leadC n (x :: r) = leadC n r + 1 := by rw [leadC, if_pos c]
      simp only [e, List.getElem_cons_succ]
      exact ih (by simpa using hl)
    · have e : leadC n (x :: r) = 0 := by rw [leadC, if_neg c]
      simp only [e, List.getElem_cons_zero]; omega
theorem insC_at (n : Nat) (r : List Nat) : insC n r = if h : leadC n r < r.length then (if r[leadC n r] = n then r else r.take (leadC n r) ++ n :: r.drop (leadC n r)) else r ++ [n] := by
  induction r with
  | nil => simp [insC, leadC]
  | cons x r ih =>
    unfold insC
    by_cases c : x < n
    · rw [if_pos c, ih]
      have e : leadC n (x :: r) = leadC n r + 1 := by rw [leadC, if_pos c]
      simp only [e, List.length_cons, Nat.add_lt_add_iff_right, List.getElem_cons_succ, List.take_succ_cons, List.drop_succ_cons]
      split <;> (try split) <;> simp
    · rw [if_neg c]
      have e : leadC n (x :: r) = 0 := by rw [leadC, if_neg c]
      simp only [e, List.length_cons, Nat.zero_lt_succ, dite_true, List.getElem_cons_zero, List.take_zero, List.drop_zero, List.nil_append]

def cutStep (out : List Nat) (s : Sp) : List Nat := if s.1 ≤ s.2 then insC (s.2 + 1) (insC s.1 out) else out
def cutsL (l : List Sp) : List Nat := l.foldl cutStep [0, 4294967296]
theorem cutsL_snoc (l : List Sp) (s : Sp) : cutsL (l ++ [s]) = cutStep (cutsL l) s := by simp [cutsL]
theorem cutsL_take (l : List Sp) (k : Nat) (h : k < l.length) : cutsL (l.take (k + 1)) = cutStep (cutsL (l.take k)) l[k] := by
  rw [List.take_succ_eq_append_getElem h, cutsL_snoc]
structure CutOk (l : List Sp) (c : List Nat) : Prop where
  srt : c.Pairwise (· < ·)
  zero : 0 ∈ c
  top : 4294967296 ∈ c
  le : ∀ k ∈ c, k ≤ 4294967296
  ends : ∀ s ∈ l, s.1 ≤ s.2 → s.1 ∈ c ∧ s.2 + 1 ∈ c
  len : c.length ≤ 2 + 2 * l.length
theorem cutsL_ok (l : List Sp) (hw : WfS l) : CutOk l (cutsL l) := by
  revert hw
  refine snoc_ind (P := fun l => WfS l → CutOk l (cutsL l)) (fun _ => ?_) (fun l s ih hw => ?_) l
  · exact ⟨by simp [cutsL], by simp [cutsL], by simp [cutsL], by simp [cutsL], by simp, by simp [cutsL]⟩
  · have ih := ih fun t ht => hw t (List.mem_append_left _ ht)
    have hs := hw s (by simp)
    rw [cutsL_snoc]
    unfold cutStep
    split
    · refine ⟨insC_sorted (insC_sorted ih.srt), insC_mem.2 (.inr (insC_mem.2 (.inr ih.zero))), insC_mem.2 (.inr (insC_mem.2 (.inr ih.top))), fun k hk => ?_, fun t ht hok => ?_, ?_⟩
      · rcases insC_mem.1 hk with e | e
        · omega
        · rcases insC_mem.1 e with e | e
          · omega
          · exact ih.le k e
      · rcases List.mem_append.1 ht with e | e
        · have := ih.ends t e hok
          exact ⟨insC_mem.2 (.inr (insC_mem.2 (.inr this.1))), insC_mem.2 (.inr (insC_mem.2 (.inr this.2)))⟩
        · simp at e; subst e
          exact ⟨insC_mem.2 (.inr (insC_mem.2 (.inl rfl))), insC_mem.2 (.inl rfl)⟩
      · have h1 := insC_len s.1 (cutsL l)
        have h2 := insC_len (s.2 + 1) (insC s.1 (cutsL l))
        have h3 := ih.len
        simp; omega
    · refine ⟨ih.srt, ih.zero, ih.top, ih.le, fun t ht hok => ?_, by have := ih.len; simp; omega⟩
      rcases List.mem_append.1 ht with e | e
      · exact ih.ends t e hok
      · simp at e; subst e; omega

/-- between two cuts nothing changes. -/
theorem CutOk.const {l : List Sp} {c : List Nat} (h : CutOk l c) {a : List Sp} (ha : ∀ s ∈ a, s ∈ l) (i : Nat) (hi : i + 1 < c.length) {k : Nat} (h1 : c[i] ≤ k) (h2 : k < c[i + 1]) : memB k a = memB c[i] a := by
  have idx : ∀ x ∈ c, x ≤ c[i] ∨ c[i + 1] ≤ x := fun x hx => by
    obtain ⟨j, hj, rfl⟩ := List.getElem_of_mem hx
    have hp := List.pairwise_iff_getElem.1 h.srt
    rcases Nat.lt_or_ge j i with c1 | c1
    · exact .inl (Nat.le_of_lt (hp j i hj (by omega) c1))
    · rcases Nat.eq_or_lt_of_le c1 with c2 | c2
      · subst c2; exact .inl (Nat.le_refl _)
      · rcases Nat.eq_or_lt_of_le (show i + 1 ≤ j from c2) with c3 | c3
        · subst c3; exact .inr (Nat.le_refl _)
        · exact .inr (Nat.le_of_lt (hp (i + 1) j hi hj c3))
  rw [Bool.eq_iff_iff, memB_iff, memB_iff]
  constructor
  · rintro ⟨s, hs, a1, a2⟩
    have := (h.ends s (ha s hs) (by omega)).1
    exact ⟨s, hs, by rcases idx _ this with e | e <;> omega, by omega⟩
  · rintro ⟨s, hs, a1, a2⟩
    have := (h.ends s (ha s hs) (by omega)).2
    exact ⟨s, hs, by omega, by rcases idx _ this with e | e <;> omega⟩

def growL (out : List Sp) (f t : Nat) : List Sp :=
  match out.getLast? with
  | none => [(f, t - 1)]
  | some l => if l.2 + 1 = f then out.dropLast ++ [(l.1, t - 1)] else out ++ [(f, t - 1)]
theorem growL_nil (f t : Nat) : growL [] f t = [(f, t - 1)] := rfl
theorem growL_snoc (o : List Sp) (l : Sp) (f t : Nat) : growL (o ++ [l]) f t = if l.2 + 1 = f then o ++ [(l.1, t - 1)] else o ++ [l] ++ [(f, t - 1)] := by
  unfold growL; simp
theorem growL_len (o : List Sp) (f t : Nat) : (growL o f t).length ≤ o.length + 1 := by
  rcases List.eq_nil_or_concat o with rfl | ⟨o, l, rfl⟩
  · simp [growL_nil]
  · rw [List.concat_eq_append, growL_snoc]; split <;> simp
def buildN (p : Nat → Bool) (c : List Nat) : Nat → List Sp
  | 0 => []
  | i + 1 => if p (c.getD i 0) then growL (buildN p c i) (c.getD i 0) (c.getD (i + 1) 0) else buildN p c i
theorem buildN_len (p : Nat → Bool) (c : List Nat) (i : Nat) : (buildN p c i).length ≤ i := by
  induction i with
  | zero => exact Nat.le_refl _
  | succ i ih => unfold buildN; split; have := growL_len (buildN p c i) (c.getD i 0) (c.getD (i + 1) 0); omega; omega
theorem buildN_ok {l : List Sp} {c : List Nat} (h : CutOk l c) (p : Nat → Bool) (hp : ∀ i (hi : i + 1 < c.length) k, c[i] ≤ k → k < c[i + 1] → p k = p c[i]) (i : Nat) (hi : i < c.length) :
    IsSet (fun k => k < c[i] ∧ p k = true) (buildN p c i) := by
  have hsrt := List.pairwise_iff_getElem.1 h.srt
  induction i with
  | zero =>
    have : c[0] = 0 := by
      obtain ⟨j, hj, e⟩ := List.getElem_of_mem h.zero
      rcases Nat.eq_zero_or_pos j with c1 | c1
      · subst c1; exact e
      · have := hsrt 0 j hi hj c1; omega
    rw [this]
    exact ⟨NF.nil, fun k => ⟨fun h => absurd h mem_nil, fun h => by omega⟩⟩
  | succ i ih =>
    have ih := ih (by omega)
    have hlt := hsrt i (i + 1) (by omega) hi (by omega)
    have hP := hp i hi
    have hle := h.le c[i + 1] (List.getElem_mem hi)
    have e1 : c.getD i 0 = c[i] := by simp [List.getD, List.getElem?_eq_getElem (show i < c.length by omega)]
    have e2 : c.getD (i + 1) 0 = c[i + 1] := by simp [List.getD, List.getElem?_eq_getElem hi]
    unfold buildN
    rw [e1, e2]
    generalize c[i] = f at *
    generalize c[i + 1] = t at *
    generalize buildN p c i = o at *
    have key : ∀ k, k < t → p k = true → k < f ∨ p f = true := fun k h1 h2 => by
      by_cases c1 : f ≤ k
      · exact .inr ((hP k c1 h1).symm.trans h2)
      · exact .inl (by omega)
    have key2 : p f = true → ∀ k, f ≤ k → k < t → p k = true := fun h1 k h2 h3 => (hP k h2 h3).trans h1
    clear hP
    split
    · next hpf =>
      have hin : ∀ k, Mem k o → k < f := fun k hk => ((ih.iff k).1 hk).1
      have goal : ∀ k, (Mem k o ∨ (f ≤ k ∧ k ≤ t - 1)) ↔ k < t ∧ p k = true := fun k => by
        rw [ih.iff k]
        constructor
        · rintro (⟨h1, h2⟩ | h1)
          · exact ⟨by omega, h2⟩
          · exact ⟨by omega, key2 hpf k h1.1 (by omega)⟩
        · rintro ⟨h1, h2⟩
          by_cases c1 : k < f
          · exact .inl ⟨c1, h2⟩
          · exact .inr (by omega)
      rcases List.eq_nil_or_concat o with rfl | ⟨o, l, rfl⟩
      · rw [growL_nil]
        refine ⟨⟨by simp; omega, by simp⟩, fun k => ?_⟩
        rw [← goal k, mem_one]
        exact ⟨.inr, fun h => h.resolve_left mem_nil⟩
      · rw [List.concat_eq_append] at *
        obtain ⟨g1, g2, g3⟩ := ih.nf.unsnoc
        have hl := hin l.2 (mem_append.2 (.inr (mem_one.2 ⟨g2.1, Nat.le_refl _⟩)))
        rw [growL_snoc]
        split
        · next hc =>
          refine ⟨g1.snoc (by show l.1 ≤ t - 1 ∧ t - 1 < 4294967296; omega) fun k hk => g3 k hk, fun k => ?_⟩
          rw [← goal k, mem_append, mem_append, mem_one, mem_one]
          show _ ∨ (l.1 ≤ k ∧ k ≤ t - 1) ↔ _
          grind
        · next hc =>
          refine ⟨ih.nf.snoc (by show f ≤ t - 1 ∧ t - 1 < 4294967296; omega) fun k hk => ?_, fun k => ?_⟩
          · show k + 1 < f
            rcases mem_append.1 hk with h1 | h1
            · have := g3 k h1; omega
            · have := mem_one.1 h1; omega
          · rw [← goal k, mem_append, mem_one (s := (f, t - 1))]
    · next hpf =>
      refine ih.of fun k => ⟨fun h1 => ⟨by omega, h1.2⟩, fun h1 => ⟨?_, h1.2⟩⟩
      rcases key k h1.1 h1.2 with h2 | h2
      · exact h2
      · exact absurd h2 hpf

/-- what is asked of two sets. -/
def pK (kind : Int) (x y : Bool) : Bool := (kind == 0 && (x || y)) || (kind == 1 && (x && y)) || (kind == 2 && (x && !y)) || (kind == 3 && !x)
def buildL (a b : List Sp) (kind : Int) : List Sp := buildN (fun k => pK kind (memB k a) (memB k b)) (cutsL (a ++ b)) ((cutsL (a ++ b)).length - 1)
theorem build_spec {a b : List Sp} (ha : WfS a) (hb : WfS b) (kind : Int) : IsSet (fun k => k < 4294967296 ∧ pK kind (memB k a) (memB k b) = true) (buildL a b kind) := by
  have h := cutsL_ok (a ++ b) (ha.append hb)
  have hpos : 0 < (cutsL (a ++ b)).length := List.length_pos_of_mem h.zero
  have hlast : (cutsL (a ++ b))[(cutsL (a ++ b)).length - 1]'(by omega) = 4294967296 := by
    obtain ⟨j, hj, e⟩ := List.getElem_of_mem h.top
    have hsrt := List.pairwise_iff_getElem.1 h.srt
    rcases Nat.lt_or_ge j ((cutsL (a ++ b)).length - 1) with c1 | c1
    · have h1 := hsrt j _ hj (by omega) c1
      have h2 := h.le _ (List.getElem_mem (show (cutsL (a ++ b)).length - 1 < (cutsL (a ++ b)).length by omega))
      omega
    · have : (cutsL (a ++ b)).length - 1 = j := by omega
      simp only [this, e]
  have := buildN_ok h (fun k => pK kind (memB k a) (memB k b)) (fun i hi k h1 h2 => by
    show pK _ _ _ = pK _ _ _
    rw [h.const (fun s hs => List.mem_append_left _ hs) i hi h1 h2, h.const (a := b) (fun s hs => List.mem_append_right _ hs) i hi h1 h2]) ((cutsL (a ++ b)).length - 1) (by omega)
  rw [hlast] at this
  exact this
end Go.Proofs.Ytipdmnfkigoanaa
