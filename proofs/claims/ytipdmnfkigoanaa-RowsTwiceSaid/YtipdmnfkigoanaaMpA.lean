import Derived.Test.YtipdmnfkigoanaaBase
import Derived.Maps.OwnSet
import Derived.Maps.RangeWalk
namespace Go.Proofs.Ytipdmnfkigoanaa
open Go.RowKit Go.Maps

/-! Maps as functions of their keys. -/
/-- Keys: how one is a value, and how it reads. -/
structure Kr (κ : Type) (k : TypeId) where
  kv : κ → Value
  kl : κ → Lit
  ok : κ → Prop
  rd : ∀ x, ok x → keyOf Try.prog k (kv x) = some (kl x)
  inv : ∀ v l, keyOf Try.prog k v = some l → ∃ x, ok x ∧ v = kv x ∧ l = kl x
  inj : ∀ x y, ok x → ok y → kl x = kl y → x = y
  keyed : Keyed Try.prog k
/-- Elements: how one is a value. -/
structure Er (S : Type) where
  val : S → Value
  R : Value → Option (DataW S × List MemPlace)
  rd : ∀ s, R (val s) = some (.held s, [])
  inv : ∀ v y, R v = some y → ∃ s, v = val s ∧ y = (.held s, [])
open Classical in
noncomputable def Er.of {S : Type} (val : S → Value) (inj : ∀ s t, val s = val t → s = t) : Er S where
  val := val
  R := fun v => if h : ∃ s, v = val s then some (.held h.choose, []) else none
  rd := fun s => by
    have h : ∃ t, val s = val t := ⟨s, rfl⟩
    rw [dif_pos h, ← inj _ _ h.choose_spec]
  inv := fun v y h => by
    by_cases h1 : ∃ s, v = val s
    · rw [dif_pos h1] at h
      exact ⟨h1.choose, h1.choose_spec, (Option.some.inj h).symm⟩
    · rw [dif_neg h1] at h; cases h
def krInt (q : IntKind) (k : TypeId) (hk : Try.prog.underlying k = some (.int q)) : Kr Int k where
  kv := .int q
  kl := .int q
  ok := fun x => (Lit.int q x).wf = true
  rd := fun _ h => keyOf_int_mk hk h
  inv := fun _ _ h => let ⟨x, h1, h2, h3⟩ := keyOf_int_inv hk h; ⟨x, h3, h1, h2⟩
  inj := fun x y _ _ h => by cases h; rfl
  keyed := int_keyed hk
section
variable {κ S : Type} {k : TypeId} {Kk : Kr κ k} {E : Er S}
theorem Kr.key (Kk : Kr κ k) {x : κ} (h : Kk.ok x) : WideAt.IsKeyLit (Kk.kl x) := Kk.keyed.key (Kk.rd x h)
theorem Kr.ne (Kk : Kr κ k) {x y : κ} (hx : Kk.ok x) (hy : Kk.ok y) (h : x ≠ y) : Kk.kl x ≠ Kk.kl y := fun e => h (Kk.inj x y hx hy e)
theorem Kr.same [DecidableEq κ] (Kk : Kr κ k) {x y : κ} (hx : Kk.ok x) (hy : Kk.ok y) : (Kk.kl x).sameKey (Kk.kl y) = decide (x = y) := by
  by_cases e : x = y
  · subst e; rw [WideAt.sameKey_self (Kk.key hx)]; simp
  · rw [sameKey_ne (Kk.ne hx hy e)]; simp [e]
def AgF (Kk : Kr κ k) (D : DataW S) (F : κ → Option S) : Prop :=
  (∀ x s, F x = some s → Kk.ok x) ∧ ∀ x, Kk.ok x → Maps.has D (Kk.kl x) = (F x).isSome ∧ ∀ s, F x = some s → ∀ z, D.atKey (Kk.kl x) z = .held s
/-- Block b is a map that holds F. -/
def MapF (Kk : Kr κ k) (E : Er S) (w : World) (b n : Nat) (F : κ → Option S) : Prop := ∃ D, w.ownsMap Try.prog k E.R b n D ∧ AgF Kk D F
/-- F is at m keys. -/
def Card (F : κ → Option S) (m : Nat) : Prop := ∃ ks : List κ, ks.Nodup ∧ (∀ x, x ∈ ks ↔ (F x).isSome = true) ∧ ks.length = m
theorem nodup_le {α : Type} : ∀ {l m : List α}, l.Nodup → (∀ x ∈ l, x ∈ m) → l.length ≤ m.length
  | [], m, _, _ => Nat.zero_le _
  | x :: l, m, h, hs => by
    obtain ⟨h1, h2⟩ := List.nodup_cons.1 h
    obtain ⟨a, b, rfl⟩ := List.append_of_mem (hs x (by simp))
    have := nodup_le h2 (m := a ++ b) fun y hy => by
      have h3 := hs y (by simp [hy])
      rcases List.mem_append.1 h3 with h4 | h4
      · exact List.mem_append_left _ h4
      · rcases List.mem_cons.1 h4 with rfl | h4
        · exact absurd hy h1
        · exact List.mem_append_right _ h4
    simp at this ⊢; omega
theorem Card.le {F G : κ → Option S} {m m' : Nat} (h : Card F m) (h' : Card G m') (hs : ∀ x, (F x).isSome = true → (G x).isSome = true) : m ≤ m' := by
  obtain ⟨l, h1, h2, rfl⟩ := h
  obtain ⟨l', g1, g2, rfl⟩ := h'
  exact nodup_le h1 fun x hx => (g2 x).2 (hs x ((h2 x).1 hx))
theorem Card.uniq {F G : κ → Option S} {m m' : Nat} (h : Card F m) (h' : Card G m') (hs : ∀ x, (F x).isSome = (G x).isSome) : m = m' :=
  Nat.le_antisymm (h.le h' fun x hx => by rw [← hs]; exact hx) (h'.le h fun x hx => by rw [hs]; exact hx)
def upd [DecidableEq κ] (F : κ → Option S) (x : κ) (s : S) : κ → Option S := fun y => if y = x then some s else F y
def era [DecidableEq κ] (F : κ → Option S) (x : κ) : κ → Option S := fun y => if y = x then none else F y
theorem Card.upd [DecidableEq κ] {F : κ → Option S} {m : Nat} (h : Card F m) (x : κ) (s : S) : Card (upd F x s) (if (F x).isSome then m else m + 1) := by
  obtain ⟨l, h1, h2, rfl⟩ := h
  by_cases hx : (F x).isSome = true
  · rw [if_pos hx]
    refine ⟨l, h1, fun y => ?_, rfl⟩
    unfold Go.Proofs.Ytipdmnfkigoanaa.upd
    by_cases e : y = x
    · subst e; rw [if_pos rfl]; simp [h2, hx]
    · rw [if_neg e]; exact h2 y
  · rw [if_neg hx]
    refine ⟨x :: l, List.nodup_cons.2 ⟨fun hm => hx ((h2 x).1 hm), h1⟩, fun y => ?_, rfl⟩
    unfold Go.Proofs.Ytipdmnfkigoanaa.upd
    by_cases e : y = x
    · subst e; rw [if_pos rfl]; simp
    · rw [if_neg e, List.mem_cons, h2 y]; simp [e]
theorem Card.era [DecidableEq κ] {F : κ → Option S} {m : Nat} (h : Card F m) (x : κ) : Card (era F x) (if (F x).isSome then m - 1 else m) := by
  obtain ⟨l, h1, h2, rfl⟩ := h
  refine ⟨l.filter fun y => decide (y ≠ x), h1.filter _, fun y => ?_, ?_⟩
  · unfold Go.Proofs.Ytipdmnfkigoanaa.era
    by_cases e : y = x
    · subst e; rw [if_pos rfl]; simp
    · rw [if_neg e, List.mem_filter, h2 y]; simp [e]
  · have h3 := List.length_eq_countP_add_countP (fun y => decide (y ≠ x)) (l := l)
    have h4 : l.countP (fun y => decide ¬ decide (y ≠ x) = true) = if (F x).isSome = true then 1 else 0 := by
      have h5 : l.countP (fun y => decide ¬ decide (y ≠ x) = true) = l.count x := by
        rw [List.count_eq_countP]
        exact List.countP_congr fun y _ => by simp
      rw [h5, h1.count]
      by_cases hx : (F x).isSome = true
      · rw [if_pos ((h2 x).2 hx), if_pos hx]
      · rw [if_neg fun h => hx ((h2 x).1 h), if_neg hx]
    rw [← List.countP_eq_length_filter]
    split at h4 <;> rename_i hx
    · rw [if_pos hx]; omega
    · rw [if_neg hx]; omega
theorem AgF.put [DecidableEq κ] {D : DataW S} {F : κ → Option S} (h : AgF Kk D F) (hD : IsMap D) {x : κ} (hx : Kk.ok x) (s : S) : AgF Kk (D.put (Kk.kl x) (.held s)) (upd F x s) := by
  refine ⟨fun y t e => ?_, fun y hy => ?_⟩
  · unfold Go.Proofs.Ytipdmnfkigoanaa.upd at e
    by_cases e1 : y = x
    · rw [e1]; exact hx
    · rw [if_neg e1] at e; exact h.1 y t e
  · unfold Go.Proofs.Ytipdmnfkigoanaa.upd
    by_cases e1 : y = x
    · subst e1
      rw [if_pos rfl]
      exact ⟨has_put_same hD (Kk.key hx) _, fun t e z => by rw [atKey_put_same hD (Kk.key hx)]; rw [Option.some.inj e]⟩
    · rw [if_neg e1]
      have hne := Kk.ne hy hx e1
      exact ⟨by rw [has_put_other hne]; exact (h.2 y hy).1, fun t e z => by rw [atKey_put_other hne]; exact (h.2 y hy).2 t e z⟩
theorem AgF.del [DecidableEq κ] {D : DataW S} {F : κ → Option S} (h : AgF Kk D F) {x : κ} (hx : Kk.ok x) : AgF Kk (D.del (Kk.kl x)) (era F x) := by
  refine ⟨fun y t e => ?_, fun y hy => ?_⟩
  · unfold Go.Proofs.Ytipdmnfkigoanaa.era at e
    by_cases e1 : y = x
    · rw [if_pos e1] at e; cases e
    · rw [if_neg e1] at e; exact h.1 y t e
  · unfold Go.Proofs.Ytipdmnfkigoanaa.era
    by_cases e1 : y = x
    · subst e1
      rw [if_pos rfl]
      exact ⟨has_del_same, fun t e => by cases e⟩
    · rw [if_neg e1]
      have hne := Kk.ne hy hx e1
      exact ⟨by rw [has_del_other hne]; exact (h.2 y hy).1, fun t e z => by rw [atKey_del_other hne]; exact (h.2 y hy).2 t e z⟩
theorem AgF.card {w : World} {b n : Nat} {D : DataW S} {F : κ → Option S} (h : AgF Kk D F) (hown : w.ownsMap Try.prog k E.R b n D) : Card F (Maps.size D) := by
  obtain ⟨es, clock, hb, Ft, hs, hD⟩ := id hown
  obtain ⟨L, hL, hap⟩ := hown.tidy Kk.keyed
  have hkeys : ∀ p ∈ L, ∃ x, Kk.ok x ∧ p.1 = Kk.kl x := fun p hp => by
    rw [hD] at hL
    cases hL
    obtain ⟨v, hv⟩ := fit_keys Ft p (mem_sorted.1 hp)
    obtain ⟨x, h1, -, h3⟩ := Kk.inv v _ hv
    exact ⟨x, h1, h3⟩
  have hch : ∀ p : Lit × DataW S, ∃ x : Option κ, p ∈ L → ∃ y, x = some y ∧ Kk.ok y ∧ p.1 = Kk.kl y := fun p => by
    by_cases hp : p ∈ L
    · obtain ⟨x, h1, h2⟩ := hkeys p hp
      exact ⟨some x, fun _ => ⟨x, rfl, h1, h2⟩⟩
    · exact ⟨none, fun h => absurd h hp⟩
  obtain ⟨f, hf⟩ := Classical.axiomOfChoice hch
  have hlen : (L.filterMap f).length = L.length := by
    have : ∀ l : List (Lit × DataW S), (∀ p ∈ l, p ∈ L) → (l.filterMap f).length = l.length := by
      intro l
      induction l with
      | nil => intro _; rfl
      | cons p l ih =>
        intro hl
        obtain ⟨y, e, -⟩ := hf p (hl p (by simp))
        rw [List.filterMap_cons_some e, List.length_cons, List.length_cons, ih fun q hq => hl q (by simp [hq])]
    exact this L fun _ h => h
  refine ⟨L.filterMap f, ?_, fun x => ?_, by rw [hlen, hL]; rfl⟩
  · rw [List.nodup_iff_pairwise_ne, List.pairwise_filterMap]
    refine hap.imp_of_mem fun {p q} hp hq hne y hy z hz e => ?_
    obtain ⟨y', e1, -, e3⟩ := hf p hp
    obtain ⟨z', f1, -, f3⟩ := hf q hq
    rw [hy] at e1; rw [hz] at f1
    cases e1; cases f1
    exact hne (by rw [e3, f3, e])
  · rw [List.mem_filterMap]
    constructor
    · rintro ⟨p, hp, e⟩
      obtain ⟨y, e1, e2, e3⟩ := hf p hp
      rw [e] at e1; cases e1
      rw [← (h.2 x e2).1, hL, has_eq, List.any_eq_true]
      exact ⟨p, hp, by rw [e3]; exact WideAt.sameKey_self (Kk.key e2)⟩
    · intro hx
      obtain ⟨s, hs2⟩ := Option.isSome_iff_exists.1 hx
      have hok := h.1 x s hs2
      have h3 := (h.2 x hok).1
      rw [hx, hL, has_eq, List.any_eq_true] at h3
      obtain ⟨p, hp, hsk⟩ := h3
      obtain ⟨y, e1, e2, e3⟩ := hf p hp
      have := WideAt.sameKey_eq hsk
      have : y = x := Kk.inj y x e2 hok (e3.symm.trans this)
      exact ⟨p, hp, by rw [e1, this]⟩
variable {w : World} {b n : Nat} {F : κ → Option S}
theorem MapF.made (w : World) : MapF Kk E (w.alloc (.map #[] 0)) w.heap.size 0 (fun _ => none) :=
  ⟨_, World.ownsMap_made _ _ _ _, fun x s e => by simp at e, fun x _ => ⟨rfl, fun s e => by simp at e⟩⟩
theorem MapF.mono (h : MapF Kk E w b n F) {n' : Nat} (hn : n ≤ n') : MapF Kk E w b n' F := let ⟨D, h1, h2⟩ := h; ⟨D, h1.mono hn, h2⟩
theorem MapF.lt (h : MapF Kk E w b n F) : b < w.heap.size := let ⟨_, h1, _⟩ := h; h1.lt
theorem MapF.kept {w' : World} {row : Option Nat} (h : MapF Kk E w b n F) (hg : w.grownBy w' row) (hne : some b ≠ row) : MapF Kk E w' b n F := let ⟨D, h1, h2⟩ := h; ⟨D, h1.kept hg hne, h2⟩
theorem MapF.below {w' : World} (h : MapF Kk E w b n F) (hb : w'.heap[b]? = w.heap[b]?) : MapF Kk E w' b n F := by
  obtain ⟨D, ⟨es, clock, h1, h2⟩, h3⟩ := h
  exact ⟨D, ⟨es, clock, hb.trans h1, h2⟩, h3⟩
theorem MapF.ok (h : MapF Kk E w b n F) {x : κ} {s : S} (e : F x = some s) : Kk.ok x := let ⟨_, _, h2⟩ := h; h2.1 x s e
theorem MapF.congr (h : MapF Kk E w b n F) {G : κ → Option S} (e : ∀ x, F x = G x) : MapF Kk E w b n G := by rw [show G = F from funext fun x => (e x).symm]; exact h
theorem MapF.len (h : MapF Kk E w b n F) {t e : TypeId} (ht : Try.prog.underlying t = some (.map k e)) : ∃ m, Card F m ∧ m ≤ n ∧ ∀ ty, (Builtin.len_ #[t] ty #[.map (some b)]).run Try.prog w = .ok (.int .i64 m) w := by
  obtain ⟨D, h1, h2⟩ := h
  exact ⟨_, h2.card h1, h1.size_le, fun ty => h1.len ht ty⟩
/-! At the operations. -/
section
variable {ops : Array Oper} {rest : List Oper} {o : Oper} {a : Act} {Q : Exit → Act → World → Prop} {t e : TypeId}
theorem MapF.look (h : MapF Kk E w b n F) (ht : Try.prog.underlying t = some (.map k e)) (z : S) (hz : (zeroValue e).run Try.prog w = .ok (E.val z) w) {x : κ} (hx : Kk.ok x) :
    (Instr.lookup t (.map (some b)) (Kk.kv x) true).run Try.prog w = .ok (.tuple #[E.val ((F x).getD z), .bool (F x).isSome]) w := by
  obtain ⟨D, h1, h2⟩ := h
  obtain ⟨v, ps, hrun, hv⟩ := h1.look_ok Kk.keyed ht hz (E.rd z) (Kk.rd x hx)
  obtain ⟨s, rfl, e2⟩ := E.inv _ _ hv
  rw [hrun, (h2.2 x hx).1]
  cases hF : F x with
  | none =>
    have h3 := (h2.2 x hx).1
    rw [hF] at h3
    rw [atKey_of_not_has (by simpa using h3)] at e2
    have : z = s := by cases e2; rfl
    rw [this]; rfl
  | some s' =>
    rw [(h2.2 x hx).2 s' hF] at e2
    have : s' = s := by cases e2; rfl
    rw [this]; rfl
theorem wpList_look (hg : o.guard = none) (m x : Operand) (hop : o.op = Op.lookup t m x true) (ht : Try.prog.underlying t = some (.map k e)) (z : S) (hz : (zeroValue e).run Try.prog w = .ok (E.val z) w)
    (hm : a.eval m = .map (some b)) (h : MapF Kk E w b n F) (y : κ) (hx : a.eval x = Kk.kv y) (hy : Kk.ok y)
    (hK : wpList Try.prog ops Q rest (a.put o.dst (.tuple #[E.val ((F y).getD z), .bool (F y).isSome])) w) : wpList Try.prog ops Q (o :: rest) a w := by
  refine wpList_plain hg fun K' hK' => ?_
  unfold Oper.wp
  simp [execOp, hop, hm, hx, h.look ht z hz hy, Result.andThen]
  exact hK' _ _ hK
theorem wpList_lookV (hg : o.guard = none) (m x : Operand) (hop : o.op = Op.lookup t m x true) (ht : Try.prog.underlying t = some (.map k e)) (z : S) (hz : (zeroValue e).run Try.prog w = .ok (E.val z) w)
    (hm : a.eval m = .map (some b)) (h : MapF Kk E w b n F) (y : κ) (hx : a.eval x = Kk.kv y) (hy : Kk.ok y) (v : Value) (q : Bool) (hv : E.val ((F y).getD z) = v) (hq : (F y).isSome = q)
    (hK : wpList Try.prog ops Q rest (a.put o.dst (.tuple #[v, .bool q])) w) : wpList Try.prog ops Q (o :: rest) a w :=
  wpList_look hg m x hop ht z hz hm h y hx hy (by rw [hv, hq]; exact hK)
theorem MapF.look1 (h : MapF Kk E w b n F) (ht : Try.prog.underlying t = some (.map k e)) (z : S) (hz : (zeroValue e).run Try.prog w = .ok (E.val z) w) {x : κ} (hx : Kk.ok x) :
    (Instr.lookup t (.map (some b)) (Kk.kv x) false).run Try.prog w = .ok (E.val ((F x).getD z)) w := by
  obtain ⟨D, h1, h2⟩ := h
  obtain ⟨v, ps, hrun, hv⟩ := h1.lookup Kk.keyed ht hz (E.rd z) (Kk.rd x hx)
  obtain ⟨s, rfl, e2⟩ := E.inv _ _ hv
  rw [hrun]
  cases hF : F x with
  | none =>
    have h3 := (h2.2 x hx).1
    rw [hF] at h3
    rw [atKey_of_not_has (by simpa using h3)] at e2
    have : z = s := by cases e2; rfl
    rw [this]; rfl
  | some s' =>
    rw [(h2.2 x hx).2 s' hF] at e2
    have : s' = s := by cases e2; rfl
    rw [this]; rfl
theorem wpList_look1 (hg : o.guard = none) (m x : Operand) (hop : o.op = Op.lookup t m x false) (ht : Try.prog.underlying t = some (.map k e)) (z : S) (hz : (zeroValue e).run Try.prog w = .ok (E.val z) w)
    (hm : a.eval m = .map (some b)) (h : MapF Kk E w b n F) (y : κ) (hx : a.eval x = Kk.kv y) (hy : Kk.ok y) (v : Value) (hv : E.val ((F y).getD z) = v)
    (hK : wpList Try.prog ops Q rest (a.put o.dst v) w) : wpList Try.prog ops Q (o :: rest) a w := by
  refine wpList_plain hg fun K' hK' => ?_
  unfold Oper.wp
  simp [execOp, hop, hm, hx, h.look1 ht z hz hy, hv, Result.andThen]
  exact hK' _ _ hK
theorem MapF.put_run [DecidableEq κ] (h : MapF Kk E w b n F) (ht : Try.prog.underlying t = some (.map k e)) (hn : n < maxLen) {x : κ} (hx : Kk.ok x) (s : S) :
    ∃ w', (Instr.mapUpdate t (.map (some b)) (Kk.kv x) (E.val s)).run Try.prog w = .ok () w' ∧ MapF Kk E w' b (n + 1) (upd F x s) ∧ w.grownBy w' (some b) := by
  obtain ⟨D, h1, h2⟩ := h
  obtain ⟨w', hrun, r1, r2⟩ := h1.update Kk.keyed ht hn (Kk.rd x hx) (E.rd s)
  exact ⟨w', hrun, ⟨_, r1, h2.put h1.isMap hx s⟩, r2⟩
theorem wpList_put [DecidableEq κ] (hg : o.guard = none) (m x v : Operand) (hop : o.op = Op.mapUpdate t m x v) (ht : Try.prog.underlying t = some (.map k e))
    (hm : a.eval m = .map (some b)) (h : MapF Kk E w b n F) (hn : n < maxLen) (y : κ) (s : S) (hx : a.eval x = Kk.kv y) (hv : a.eval v = E.val s) (hy : Kk.ok y)
    (hK : ∀ w', MapF Kk E w' b (n + 1) (upd F y s) → w.grownBy w' (some b) → wpList Try.prog ops Q rest (a.put o.dst undef) w') : wpList Try.prog ops Q (o :: rest) a w := by
  refine wpList_plain hg fun K' hK' => ?_
  obtain ⟨w', hrun, r1, r2⟩ := h.put_run ht hn hy s
  unfold Oper.wp
  simp [execOp, hop, hm, hx, hv, hrun, Result.andThen]
  exact hK' _ _ (hK w' r1 r2)
theorem wpList_del [DecidableEq κ] (hg : o.guard = none) (m x : Operand) (hop : o.op = Op.call { callee := Callee.builtin Builtin.delete, args := #[m, x], argTypes := #[t, k] }) (ht : Try.prog.underlying t = some (.map k e))
    (hm : a.eval m = .map (some b)) (h : MapF Kk E w b n F) (y : κ) (hx : a.eval x = Kk.kv y) (hy : Kk.ok y)
    (hK : ∀ w', MapF Kk E w' b n (era F y) → w.grownBy w' (some b) → wpList Try.prog ops Q rest (a.put o.dst (.tuple #[])) w') : wpList Try.prog ops Q (o :: rest) a w := by
  obtain ⟨D, h1, h2⟩ := h
  exact wpList_delete_own w hg m x t k hop e Kk.keyed ht E.R b n D hm h1 _ _ hx (Kk.rd y hy) fun w' r1 r2 => hK w' ⟨_, r1, h2.del hy⟩ r2.grown
theorem wpList_len (hg : o.guard = none) (m : Operand) (hop : o.op = Op.call { callee := Callee.builtin Builtin.len, args := #[m], argTypes := #[t] }) (ht : Try.prog.underlying t = some (.map k e))
    (hm : a.eval m = .map (some b)) (h : MapF Kk E w b n F) (hK : ∀ c, Card F c → c ≤ n → wpList Try.prog ops Q rest (a.put o.dst (.int .i64 c)) w) : wpList Try.prog ops Q (o :: rest) a w := by
  obtain ⟨D, h1, h2⟩ := h
  exact wpList_len_own w hg m t hop k e ht E.R b n D hm h1 (hK _ (h2.card h1) h1.size_le)
theorem step_put [DecidableEq κ] {K : Act → World → Prop} {E' : Prop} (hg : o.guard = none) (m x v : Operand) (hop : o.op = Op.mapUpdate t m x v) (ht : Try.prog.underlying t = some (.map k e))
    (hm : a.eval m = .map (some b)) (h : MapF Kk E w b n F) (hn : n < maxLen) (y : κ) (s : S) (hx : a.eval x = Kk.kv y) (hv : a.eval v = E.val s) (hy : Kk.ok y)
    (hK : ∀ w', MapF Kk E w' b (n + 1) (upd F y s) → w.grownBy w' (some b) → K (a.put o.dst undef) w') :
    if Region.wanted o (yielded ops a.tmps) = true then Oper.wp Try.prog o a w K Q else E' := by
  have hw : Region.wanted o (yielded ops a.tmps) = true := by simp [Region.wanted, hg]
  rw [if_pos hw]
  obtain ⟨w', hrun, r1, r2⟩ := h.put_run ht hn hy s
  unfold Oper.wp
  simp [execOp, hop, hm, hx, hv, hrun, Result.andThen]
  exact hK w' r1 r2
theorem step_len {K : Act → World → Prop} {E' : Prop} (hg : o.guard = none) (m : Operand) (hop : o.op = Op.call { callee := Callee.builtin Builtin.len, args := #[m], argTypes := #[t] })
    (hm : a.eval m = .map (some b)) (c : Nat) (hc : ∀ ty, (Builtin.len_ #[t] ty #[.map (some b)]).run Try.prog w = .ok (.int .i64 c) w) (hK : K (a.put o.dst (.int .i64 c)) w) :
    if Region.wanted o (yielded ops a.tmps) = true then Oper.wp Try.prog o a w K Q else E' := by
  have hw : Region.wanted o (yielded ops a.tmps) = true := by simp [Region.wanted, hg]
  rw [if_pos hw]
  unfold Oper.wp
  simp [execOp, hop, resolve, invoke, builtin, hm, hc o.type, Result.andThen]
  exact hK
/-! A range over it. -/
def RangeF (Kk : Kr κ k) (E : Er S) (w : World) (b r n : Nat) (F : κ → Option S) (left : κ → Bool) (cnt : Nat) : Prop :=
  ∃ D lf, w.ranges Try.prog k E.R b r n D lf cnt ∧ AgF Kk D F ∧ ∀ x, Kk.ok x → lf (Kk.kl x) = left x
variable {r cnt : Nat} {left : κ → Bool}
theorem RangeF.owns (h : RangeF Kk E w b r n F left cnt) : MapF Kk E w b n F := let ⟨D, _, h1, h2, _⟩ := h; ⟨D, h1.owns, h2⟩
theorem RangeF.left_eq (h : RangeF Kk E w b r n F left cnt) : w.rangeLeft b r = cnt := let ⟨_, _, h1, _⟩ := h; h1.left_eq
theorem RangeF.ne (h : RangeF Kk E w b r n F left cnt) : r ≠ b := let ⟨_, _, h1, _⟩ := h; h1.ne
theorem RangeF.lt (h : RangeF Kk E w b r n F left cnt) : r < w.heap.size := let ⟨_, _, h1, _⟩ := h; h1.lt
theorem RangeF.kept {w' : World} {row : Option Nat} (h : RangeF Kk E w b r n F left cnt) (hg : w.grownBy w' row) (hb' : some b ≠ row) (hr' : some r ≠ row) : RangeF Kk E w' b r n F left cnt :=
  let ⟨D, lf, h1, h2⟩ := h; ⟨D, lf, h1.kept hg hb' hr', h2⟩
theorem RangeF.congr (h : RangeF Kk E w b r n F left cnt) {G : κ → Option S} {l' : κ → Bool} (e : ∀ x, F x = G x) (e2 : ∀ x, left x = l' x) : RangeF Kk E w b r n G l' cnt := by
  rw [show G = F from funext fun x => (e x).symm, show l' = left from funext fun x => (e2 x).symm]; exact h
theorem wpList_rangeF (hg : o.guard = none) (m : Operand) (hop : o.op = Op.range t m) (ht : Try.prog.underlying t = some (.map k e)) (hm : a.eval m = .map (some b)) (h : MapF Kk E w b n F)
    (hK : ∀ w' c, RangeF Kk E w' b w.heap.size n F (fun x => (F x).isSome) c → w.grownBy w' none → w'.heap.size = w.heap.size + 1 → wpList Try.prog ops Q rest (a.put o.dst (.pointer (some ⟨w.heap.size, 0, none⟩))) w') :
    wpList Try.prog ops Q (o :: rest) a w := by
  obtain ⟨D, h1, h2⟩ := h
  exact wpList_range_own w hg m t hop k e Kk.keyed ht E.R b n D hm h1 fun w' r1 r2 r3 => hK w' _ ⟨D, _, r1, h2, fun x hx => (h2.2 x hx).1⟩ r2 r3
theorem wpList_nextF [DecidableEq κ] (hg : o.guard = none) (it : Operand) (hop : o.op = Op.next it false) (hit : a.eval it = .pointer (some ⟨r, 0, none⟩)) (h : RangeF Kk E w b r n F left cnt)
    (hDone : (∀ x, Kk.ok x → left x = false) → wpList Try.prog ops Q rest (a.put o.dst (.tuple #[.bool false])) w)
    (hMore : ∀ (x : κ) (s : S) (w' : World) (cnt' : Nat), Kk.ok x → left x = true → F x = some s → RangeF Kk E w' b r n F (fun y => left y && !decide (y = x)) cnt' → cnt' < cnt →
      w.grownBy w' (some r) → w'.heap.size = w.heap.size → (Instr.entry (.pointer (some ⟨r, 0, none⟩))).run Try.prog w' = .ok (.tuple #[Kk.kv x, E.val s]) w' → wpList Try.prog ops Q rest (a.put o.dst (.tuple #[.bool true, Kk.kv x, E.val s])) w') :
    wpList Try.prog ops Q (o :: rest) a w := by
  obtain ⟨D, lf, h1, h2, h3⟩ := h
  refine wpList_next_ranges w hg it hop k Kk.keyed E.R Kk.kv E.val (fun key kl hk => let ⟨x, _, e, _⟩ := Kk.inv _ _ hk; ⟨x, e⟩) (fun v y hv => let ⟨s, e, _⟩ := E.inv _ _ hv; ⟨s, e⟩) b r n D lf cnt hit h1
    (fun _ hl => hDone fun x hx => by rw [← h3 x hx]; exact hl _) fun x c kl y w' cnt' hkey hlx hv hat hrg hlt hgr hsz hen => ?_
  obtain ⟨x', hx', e1, rfl⟩ := Kk.inv _ _ hkey
  obtain ⟨s, e2, rfl⟩ := E.inv _ _ hv
  rw [e1, e2] at hen ⊢
  have hs : (F x').isSome = true := by
    rw [← (h2.2 x' hx').1]
    exact has_true_of_atKey hat
  obtain ⟨s', hs'⟩ := Option.isSome_iff_exists.1 hs
  have he := (h2.2 x' hx').2 s' hs' (.held s)
  rw [hat (.held s)] at he
  have : s = s' := by cases he; rfl
  subst this
  exact hMore x' s w' cnt' hx' (by rw [← h3 x' hx']; exact hlx) hs' ⟨D, _, hrg, h2, fun y hy => by rw [h3 y hy, Kk.same hy hx']⟩ hlt hgr hsz hen
theorem wpList_delF [DecidableEq κ] (hg : o.guard = none) (m x : Operand) (hop : o.op = Op.call { callee := Callee.builtin Builtin.delete, args := #[m, x], argTypes := #[t, k] }) (ht : Try.prog.underlying t = some (.map k e))
    (hm : a.eval m = .map (some b)) (h : RangeF Kk E w b r n F left cnt) (y : κ) (hx : a.eval x = Kk.kv y) (hy : Kk.ok y)
    (hK : ∀ w' cnt', RangeF Kk E w' b r n (era F y) (fun z => left z && !decide (z = y)) cnt' → cnt' ≤ cnt → w.grownBy w' (some b) → wpList Try.prog ops Q rest (a.put o.dst (.tuple #[])) w') :
    wpList Try.prog ops Q (o :: rest) a w := by
  obtain ⟨D, lf, h1, h2, h3⟩ := h
  exact wpList_delete_ranges w hg m x t k hop e Kk.keyed ht E.R b r n D lf cnt hm h1 _ _ hx (Kk.rd y hy) fun w' cnt' r1 r2 r3 => hK w' cnt' ⟨_, _, r1, h2.del hy, fun z hz => by rw [h3 z hz, Kk.same hz hy]⟩ r2 r3.grown
end
end
end Go.Proofs.Ytipdmnfkigoanaa
