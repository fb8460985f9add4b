import Derived.Test.YtcdldjiogoapkaaSgAT
import Derived.Test.YtcdldjiogoapkaaSgAR
import Derived.Test.YtcdldjiogoapkaaSgOpn
namespace Go.Proofs.Ytcdldjiogoapkaa
open Go.RowKit
attribute [local go_sem] World.cell?_alloc_some frozen_alloc_some field_na field_ac field_as

/-! Within SegtreePlays: the tree, and the document's. -/
structure Pl (w : World) (χ : Col) (W : World) (pt X : Nat) (lim : Int) (row : List (Nat × Int)) (ks : List Nat) (rowx : List (Nat × Int)) (ksx : List Nat) (rv ev : Value) : Prop where
  lw : Lw w χ W pt lim row ks.reverse (nodesI ks ks.length)
  xc : χ X = 50
  xw : w.heap.size ≤ X
  c3 : C3 W X rv ev (.int .i64 lim)
  rr : RdP 40 χ W rv rowx
  ru : IsU 40 χ W ev ksx

variable {w : World} {χ : Col} {W W' : World} {pt X : Nat} {lim : Int} {row row' rowx rowx' : List (Nat × Int)} {ks ksx ksx' : List Nat} {rv ev rv' ev' : Value}
theorem C3.lt {w : World} {b : Nat} {v0 v1 v2 : Value} (h : C3 w b v0 v1 v2) : b < w.heap.size := by have := World.block_lt_of_cell? w _ h.c0; simpa using this
theorem Pl.below (h : Pl w χ W pt X lim row ks rowx ksx rv ev) (hb : Below W.heap.size W W') (c : Nat) : Pl w (paint χ W.heap.size c) W' pt X lim row ks rowx ksx rv ev :=
  ⟨h.lw.below hb c, (paint_low h.c3.lt).trans h.xc, h.xw, h.c3.block (hb.block _ h.c3.lt), h.rr.keep (Same.below c hb), h.ru.keep (Same.below c hb)⟩
theorem Pl.alloc (h : Pl w χ W pt X lim row ks rowx ksx rv ev) (o : Obj) : Pl w (paint χ W.heap.size 10) (W.alloc o) pt X lim row ks rowx ksx rv ev := h.below ((Below.refl _ W).alloc (Nat.le_refl _) o) 10
theorem Pl.chg {χ' : Col} (h : Pl w χ W pt X lim row ks rowx ksx rv ev) (ag : ∀ b, b < W.heap.size → χ' b = χ b) (ch : Chg χ tree1 W W') {ks' : List Nat} (hl : Lw w χ' W' pt lim row' ks'.reverse (nodesI ks' ks'.length)) : Pl w χ' W' pt X lim row' ks' rowx ksx rv ev :=
  ⟨hl, (ag X h.c3.lt).trans h.xc, h.xw, h.c3.block (ch.blk X h.c3.lt (by rw [h.xc]; unfold tree1; omega)), h.rr.keep (Same.chg' ch ag fun x e => by subst e; unfold tree1; omega), h.ru.keep (Same.chg' ch ag fun x e => by subst e; unfold tree1; omega)⟩
theorem Pl.call (h : Pl w χ W pt X lim row ks rowx ksx rv ev) (hs : STo 1 χ W W' pt lim row' (fun k => k ∈ ks.reverse) (nodesI ks ks.length)) : ∃ χ', (∀ b, b < W.heap.size → χ' b = χ b) ∧ Chg χ tree1 W W' ∧ Pl w χ' W' pt X lim row' ks rowx ksx rv ev := by
  obtain ⟨χ', h1, h2, h3⟩ := h.lw.call hs
  exact ⟨χ', h1, h2, h.chg h1 h2 h3⟩
theorem Pl.put {key m : Nat} (h : Pl w χ W pt X lim row ks rowx ksx rv ev) (hm : m = nodesI ks ks.length + lackL ks key) (hs : STo 1 χ W W' pt lim row' (fun k => k = key ∨ k ∈ ks.reverse) m) : ∃ χ', (∀ b, b < W.heap.size → χ' b = χ b) ∧ Chg χ tree1 W W' ∧ Pl w χ' W' pt X lim row' (ks ++ [key]) rowx ksx rv ev := by
  obtain ⟨χ', h1, h2, h3⟩ := h.lw.put hs
  refine ⟨χ', h1, h2, h.chg h1 h2 ?_⟩
  rw [nodesI_snoc, ← hm]
  simpa using h3
theorem Pl.setx (h : Pl w χ W pt X lim row ks rowx ksx rv ev) (hr : RdP 40 χ W rv' rowx') (hu : IsU 40 χ W ev' ksx') :
    Pl w χ (((W.setCell ⟨X, 0, none⟩ rv').setCell ⟨X, 1, none⟩ ev').setCell ⟨X, 2, none⟩ (.int .i64 lim)) pt X lim row ks rowx' ksx' rv' ev' ∧ Chg χ (· = 50) W (((W.setCell ⟨X, 0, none⟩ rv').setCell ⟨X, 1, none⟩ ev').setCell ⟨X, 2, none⟩ (.int .i64 lim)) := by
  have c1 : Chg χ (· = 50) W (((W.setCell ⟨X, 0, none⟩ rv').setCell ⟨X, 1, none⟩ ev').setCell ⟨X, 2, none⟩ (.int .i64 lim)) :=
    ((Chg.setCell W ⟨X, 0, none⟩ rv' h.xc).step (Chg.setCell _ ⟨X, 1, none⟩ ev' h.xc)).step (Chg.setCell _ ⟨X, 2, none⟩ _ h.xc)
  exact ⟨⟨h.lw.other (by omega) (fun _ _ => rfl) c1, h.xc, h.xw, h.c3.set0.set1.set2, hr.keep (Same.chg' c1 (fun _ _ => rfl) fun x e => by omega), hu.keep (Same.chg' c1 (fun _ _ => rfl) fun x e => by omega)⟩, c1⟩
theorem Pl.drew (h : Pl w χ W pt X lim row ks rowx ksx rv ev) (d : Nat) : Pl w χ (W.drewN d) pt X lim row ks rowx ksx rv ev :=
  ⟨⟨h.lw.tr.keep (Same.below' (below_drewN _ _ _)), h.lw.bel.trans (below_drewN _ _ _), h.lw.low⟩, h.xc, h.xw, h.c3.drew, h.rr.keep (Same.below' (below_drewN _ _ _)), h.ru.keep (Same.below' (below_drewN _ _ _))⟩
theorem Pl.bel (h : Pl w χ W pt X lim row ks rowx ksx rv ev) : Below w.heap.size w W := h.lw.bel
theorem isL_nil {α : Type} {sz c : Nat} {R : Rp α} {χ : Col} {w : World} : IsL sz R c χ w (.slice none 0 0) [] :=
  ⟨none, 0, rfl, by simp, by simp, ⟨by simp, fun _ => rfl⟩, fun i hi => by simp at hi⟩
theorem IsL.getO {c : Nat} {χ : Col} {w : World} {A : Option Addr} {cap n : Nat} {xs : List OpT} (h : IsL 4 rOp c χ w (.slice A n cap) xs) (i : Nat) (hi : i < xs.length) :
    ∃ b o, A = some ⟨b, o, none⟩ ∧ w.cell? ⟨b, o + i * 4, none⟩ = some (.int .i64 xs[i].kind) ∧ w.cell? ⟨b, o + i * 4 + 1, none⟩ = some (.int .u32 xs[i].key) ∧ w.cell? ⟨b, o + i * 4 + 2, none⟩ = some (.int .u32 xs[i].hi) ∧ w.cell? ⟨b, o + i * 4 + 3, none⟩ = some (.int .i64 xs[i].value) ∧
      xs[i].key < 4294967296 ∧ xs[i].hi < 4294967296 ∧ wrap64 xs[i].value = xs[i].value := by
  obtain ⟨A', c', e, h1, h2, h3, h4⟩ := h
  cases e
  obtain ⟨b, o, cs, e, hb, hl, ⟨rfl, hr⟩, hc⟩ := h4 i hi
  exact ⟨b, o, e, by simpa using hc 0 (by simp), by simpa using hc 1 (by simp), by simpa using hc 2 (by simp), by simpa using hc 3 (by simp), hr⟩
abbrev BoxO (o : OpT) : Obj := .cells #[.int .i64 o.kind, .int .u32 o.key, .int .u32 o.hi, .int .i64 o.value] 34
theorem i64_and7 (n : Int) : bits .and .i64 n 7 = n % 8 := by
  have h127 : (BitVec.ofInt 64 7).toNat = 2 ^ 3 - 1 := by decide
  have key : (BitVec.ofInt 64 n &&& BitVec.ofInt 64 7).toNat = (n % ((2 ^ 64 : Nat) : Int)).toNat % 2 ^ 3 := by
    rw [BitVec.toNat_and, BitVec.toNat_ofInt, h127, Nat.and_two_pow_sub_one_eq_mod]
  show IntKind.i64.wrap ((BitVec.ofInt 64 n &&& BitVec.ofInt 64 7).toNat : Nat) = n % 8
  rw [key, IntKind.wrap_i64]
  omega

set_option maxRecDepth 100000 in
set_option maxHeartbeats 4000000 in
theorem plays_bad (w : World) (v : Value) (limit most : Int) (ops : List OpT) (hs : IsL 4 rOp 0 (fun _ => 0) w v ops) (h : limit < 1 ∨ 4194304 < limit) :
    Calls Try.prog 3 #[.int .i64 limit, v, .int .i64 most] w fun e w' => e = .returned (.bool true) ∧ Below w.heap.size w w' := by
  obtain ⟨A, c, rfl, a1, a2, a3, -⟩ := id hs
  unfold maxLen at a2
  clear hs
  go_enter Try.func3, Try.ntmps3
  go_wp2_with fail
  refine (alive_calls _).mono ?_
  rintro e w1 ⟨rfl, hb⟩
  by_cases hl : 40 < ops.length
  · have k1 : (40 : Int) < ops.length := by omega
    go_wp2
    go_ret
    exact ⟨rfl, hb⟩
  · have k1 : ¬ (40 : Int) < ops.length := by omega
    go_wp2_with fail
    refine (tnew_bad w1 limit h).mono ?_
    rintro e w2 ⟨rfl, rfl⟩
    rcases h with h | h
    · go_wp2
      go_ret
      exact ⟨rfl, hb⟩
    · have : ¬ limit < 1 := by omega
      go_wp2
      go_ret
      exact ⟨rfl, hb⟩
end Go.Proofs.Ytcdldjiogoapkaa
