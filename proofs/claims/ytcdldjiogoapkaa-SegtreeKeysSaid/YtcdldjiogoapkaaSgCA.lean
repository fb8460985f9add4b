import Derived.Test.YtcdldjiogoapkaaSgAK
import Derived.Test.YtcdldjiogoapkaaMpB
namespace Go.Proofs.Ytcdldjiogoapkaa
open Go.RowKit Go.Maps

/-! Keys: a map beside the tree. -/
def krK : Kr Int 32 := krInt .u32 _ Try.underlying32
noncomputable def erK : Er Int := Er.of (fun x => .int .i64 x) fun s t e => by cases e; rfl
theorem erK_val (x : Int) : erK.val x = .int .i64 x := rfl
theorem zeroK (w : World) : (zeroValue 2).run Try.prog w = .ok (erK.val 0) w := by show _ = Result.ok (Value.int .i64 0) w; kernel_rfl
/-- The map tells what the row has. -/
def RowF (row : List (Nat × Int)) (F : Int → Option Int) : Prop := ∀ x v, F x = some v ↔ ∃ k : Nat, x = k ∧ (k, v) ∈ row
theorem RowF.nil : RowF [] fun _ => none := fun x v => by simp
theorem mem_putL {k : Nat} {v : Int} {row : List (Nat × Int)} {p : Nat × Int} : p ∈ putL k v row ↔ p = (k, v) ∨ (p.1 ≠ k ∧ p ∈ row) := by
  unfold putL
  rw [List.mem_append, List.mem_cons, List.mem_filter, List.mem_filter]
  simp only [decide_eq_true_eq]
  constructor
  · rintro (⟨h1, h2⟩ | rfl | ⟨h1, h2⟩)
    · exact .inr ⟨by omega, h1⟩
    · exact .inl rfl
    · exact .inr ⟨by omega, h1⟩
  · rintro (rfl | ⟨h1, h2⟩)
    · exact .inr (.inl rfl)
    · rcases Nat.lt_or_gt_of_ne h1 with h | h
      · exact .inl ⟨h2, h⟩
      · exact .inr (.inr ⟨h2, h⟩)
theorem RowF.put {row : List (Nat × Int)} {F : Int → Option Int} (h : RowF row F) (k : Nat) (v : Int) : RowF (putL k v row) (upd F k v) := fun x u => by
  unfold upd
  by_cases e : x = k
  · rw [if_pos e]
    constructor
    · intro hu; cases hu; exact ⟨k, e, mem_putL.2 (.inl rfl)⟩
    · rintro ⟨k', e', hm⟩
      rcases mem_putL.1 hm with h1 | ⟨h1, -⟩
      · cases h1; rfl
      · exact absurd (show k' = k by omega) h1
  · rw [if_neg e, h x u]
    constructor
    · rintro ⟨k', e', hm⟩; exact ⟨k', e', mem_putL.2 (.inr ⟨fun e2 => e (by have : k' = k := e2; omega), hm⟩)⟩
    · rintro ⟨k', e', hm⟩
      rcases mem_putL.1 hm with h1 | ⟨-, h1⟩
      · cases h1; exact absurd e' e
      · exact ⟨k', e', h1⟩
theorem RowF.card {row : List (Nat × Int)} {F : Int → Option Int} (h : RowF row F) (hs : Srt row) : Card F row.length := by
  refine ⟨row.map fun p => (p.1 : Int), ?_, fun x => ?_, by simp⟩
  · rw [List.nodup_iff_pairwise_ne, List.pairwise_map]
    exact hs.imp fun hlt e => by omega
  · rw [List.mem_map]
    constructor
    · rintro ⟨p, hp, rfl⟩
      rw [(h p.1 p.2).2 ⟨p.1, rfl, hp⟩]; rfl
    · intro hx
      obtain ⟨v, hv⟩ := Option.isSome_iff_exists.1 hx
      obtain ⟨k, e, hm⟩ := (h x v).1 hv
      exact ⟨_, hm, e.symm⟩
theorem srt_one {row : List (Nat × Int)} (hs : Srt row) {k : Nat} {v : Int} (hm : (k, v) ∈ row) : row.filter (inS k k) = [(k, v)] := by
  induction row with
  | nil => cases hm
  | cons x row ih =>
    have hx : ∀ y ∈ row, x.1 < y.1 := fun y hy => List.rel_of_pairwise_cons hs hy
    rcases List.mem_cons.1 hm with rfl | hm
    · rw [List.filter_cons, if_pos (by rw [inS_iff]; exact ⟨Nat.le_refl _, Nat.le_refl _⟩), List.filter_eq_nil_iff.2]
      intro y hy
      have := hx y hy
      rw [inS_iff]; simp only at this ⊢; omega
    · have := hx _ hm
      rw [List.filter_cons, if_neg (by rw [inS_iff]; simp only at this; omega)]
      exact ih hs.of_cons hm
theorem RowF.at {row : List (Nat × Int)} {F : Int → Option Int} (h : RowF row F) (hs : Srt row) {k : Nat} {v : Int} (hv : F k = some v) (hw : wrap64 v = v) : agV (vals (row.filter (inS k k))) = ⟨1, v, v, v⟩ := by
  obtain ⟨k', e, hm⟩ := (h k v).1 hv
  have : k' = k := by omega
  subst this
  rw [srt_one hs hm]
  simp [agV, sumV, minV, maxV, hw, vals]
theorem RowF.has {row : List (Nat × Int)} {F : Int → Option Int} (h : RowF row F) (hs : Srt row) (k : Nat) : ((agV (vals (row.filter (inS k k)))).c == 1) = (F k).isSome := by
  rw [agV_len, List.length_map]
  cases hF : F k with
  | some v =>
    obtain ⟨k', e, hm⟩ := (h k v).1 hF
    have : k' = k := by omega
    subst this
    rw [srt_one hs hm]; rfl
  | none =>
    have : row.filter (inS k k) = [] := by
      rw [List.filter_eq_nil_iff]
      intro y hy hc
      rw [inS_iff] at hc
      have e : y.1 = k := by omega
      have := (h k y.2).2 ⟨y.1, by rw [e], hy⟩
      rw [hF] at this; cases this
    rw [this]; rfl
/-- The map's block beside the tree. -/
structure Mw (χ : Col) (W : World) (mb n : Nat) (F : Int → Option Int) : Prop where
  col : 3 < χ mb ∧ χ mb < 15
  map : MapF krK erK W mb n F
theorem wf_u32 {k : Nat} (h : k < 4294967296) : (Lit.int .u32 k).wf = true := by
  simp [Lit.wf, IntKind.min, IntKind.max, IntKind.signed, IntKind.bits]; omega
theorem grown_below0 {w w' : World} (h : w.grownBy w' none) : Below w.heap.size w w' := ⟨h.os, h.tape, h.output, h.size, fun k hk => h.block k hk (by simp)⟩
variable {χ χ' : Col} {W W' : World} {mb n : Nat} {F : Int → Option Int}
theorem Mw.call (d : Mw χ W mb n F) (ag : ∀ b, b < W.heap.size → χ' b = χ b) (hc : Chg χ tree1 W W') : Mw χ' W' mb n F := by
  have hb := d.map.lt
  exact ⟨by rw [ag mb hb]; exact d.col, d.map.below (hc.blk mb hb (by have := d.col; unfold tree1; omega))⟩
theorem Mw.below (d : Mw χ W mb n F) (hb : Below W.heap.size W W') (c : Nat) : Mw (paint χ W.heap.size c) W' mb n F := by
  have hl := d.map.lt
  exact ⟨by rw [paint_low hl]; exact d.col, d.map.below (hb.block mb hl)⟩
theorem grown_chg (h : W.grownBy W' (some mb)) (hc : 3 < χ mb) : Chg χ (fun x => x = χ mb) W W' :=
  ⟨h.os, h.tape, h.output, h.size, fun b hb hn => h.block b hb fun e => hn (by cases e; rfl)⟩
theorem Lw.grown {w : World} {pt nn : Nat} {lim : Int} {row : List (Nat × Int)} {ever : List Nat} (h : Lw w χ W pt lim row ever nn) (hg : W.grownBy W' (some mb)) (hc : 3 < χ mb) : Lw w (paint χ W.heap.size 10) W' pt lim row ever nn :=
  h.other (c := χ mb) hc (fun b hb => paint_low hb) (grown_chg hg hc)
theorem Dat.grown {b : Nat} {o : Obj} (d : Dat χ W b o) (hg : W.grownBy W' (some mb)) (hne : b ≠ mb) : Dat (paint χ W.heap.size 10) W' b o := by
  have hl := (Array.getElem?_eq_some_iff.1 d.at_).1
  exact ⟨by rw [paint_low hl]; exact d.col, (hg.block b hl fun e => hne (by cases e; rfl)).trans d.at_⟩
theorem wpList_nextK {w : World} {b n r cnt : Nat} {F : Int → Option Int} {left : Int → Bool} {ops : Array Oper} {rest : List Oper} {o : Oper} {a : Act} {Q : Exit → Act → World → Prop} (hg : o.guard = none) (it : Operand) (hop : o.op = Op.next it false) (hit : a.eval it = .pointer (some ⟨r, 0, none⟩)) (h : RangeF krK erK w b r n F left cnt)
    (hDone : (∀ x, krK.ok x → left x = false) → wpList Try.prog ops Q rest (a.put o.dst (.tuple #[.bool false])) w)
    (hMore : ∀ (k : Nat) (s : Int) (w' : World) (cnt' : Nat), k < 4294967296 → left k = true → F k = some s → RangeF krK erK w' b r n F (fun y => left y && !decide (y = k)) cnt' → cnt' < cnt →
      w.grownBy w' (some r) → w'.heap.size = w.heap.size → (Instr.entry (.pointer (some ⟨r, 0, none⟩))).run Try.prog w' = .ok (.tuple #[.int .u32 k, .int .i64 s]) w' → wpList Try.prog ops Q rest (a.put o.dst (.tuple #[.bool true, .int .u32 k, .int .i64 s])) w') :
    wpList Try.prog ops Q (o :: rest) a w :=
  wpList_nextF hg it hop hit h hDone fun x s w' cnt' h1 h2 h3 h4 h5 h6 h7 h8 => by
    obtain ⟨k, rfl, hk⟩ := u32_nat h1
    exact hMore k s w' cnt' hk h2 h3 h4 h5 h6 h7 h8
/-- The range's record beside the tree. -/
structure Rw (χ : Col) (W : World) (mb r n : Nat) (F : Int → Option Int) (left : Int → Bool) (cnt : Nat) : Prop where
  col : 3 < χ mb ∧ χ mb < 15
  col2 : 3 < χ r
  rg : RangeF krK erK W mb r n F left cnt
theorem Rw.call {r cnt : Nat} {left : Int → Bool} (d : Rw χ W mb r n F left cnt) (ag : ∀ b, b < W.heap.size → χ' b = χ b) (hc : Chg χ tree1 W W') : Rw χ' W' mb r n F left cnt := by
  have hb := d.rg.owns.lt
  have hr := d.rg.lt
  exact ⟨by rw [ag mb hb]; exact d.col, by rw [ag r hr]; exact d.col2, d.rg.of_blocks (hc.blk mb hb (by have := d.col; unfold tree1; omega)) (hc.blk r hr (by have := d.col2; unfold tree1; omega))⟩
theorem Rw.left {r cnt : Nat} {left : Int → Bool} (d : Rw χ W mb r n F left cnt) : W.rangeLeft mb r = cnt := d.rg.left_eq
theorem Rw.mw {r cnt : Nat} {left : Int → Bool} (d : Rw χ W mb r n F left cnt) : Mw χ W mb n F := ⟨d.col, d.rg.owns⟩
end Go.Proofs.Ytcdldjiogoapkaa
