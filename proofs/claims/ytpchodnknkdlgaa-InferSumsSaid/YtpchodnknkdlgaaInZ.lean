import Derived.Test.YtpchodnknkdlgaaInY
namespace Go.Proofs.Ytpchodnknkdlgaa
open Go.RowKit
attribute [local go_sem] World.cell?_alloc_some

/-! Rows of rows of one's own. -/
theorem add0 (b k : Nat) : (⟨b, 0, none⟩ : Addr).add k = ⟨b, k, none⟩ := by unfold Addr.add; split <;> simp_all
structure MatAt (base : Nat) (W : World) (v : Value) (vs : List Value) (M : List (List Int)) : Prop where
  out : W.ownsRow base 46 1 v M.length vs
  row : ∀ i (hi : i < M.length), ∃ g cap, vs[i]? = some (.slice (some ⟨g, 0, none⟩) M[i].length cap) ∧ W.ownsRow base 2 1 (.slice (some ⟨g, 0, none⟩) M[i].length cap) M[i].length (M[i].map vI)
  ne : ∀ (i j : Nat) (s t : Value), vs[i]? = some s → vs[j]? = some t → i ≠ j → ∀ b, s.ownBlock = some b → t.ownBlock ≠ some b
  no : ∀ (i : Nat) (s : Value), vs[i]? = some s → ∀ b, s.ownBlock = some b → v.ownBlock ≠ some b
theorem MatAt.len {base : Nat} {W : World} {v : Value} {vs : List Value} {M : List (List Int)} (h : MatAt base W v vs M) : vs.length = M.length := by have := h.out.1; omega
theorem MatAt.drewN {base : Nat} {W : World} {v : Value} {vs : List Value} {M : List (List Int)} (h : MatAt base W v vs M) (d : Nat) : MatAt base (W.drewN d) v vs M :=
  ⟨owns_same h.out fun _ _ => rfl, fun i hi => let ⟨g, cap, h1, h2⟩ := h.row i hi; ⟨g, cap, h1, owns_same h2 fun _ _ => rfl⟩, h.ne, h.no⟩
/-- the outer row's cell. -/
theorem MatAt.cell {base : Nat} {W : World} {v : Value} {vs : List Value} {M : List (List Int)} (h : MatAt base W v vs M) (i : Nat) (hi : i < M.length) :
    ∃ ob oc g cap, v = .slice (some ⟨ob, 0, none⟩) M.length oc ∧ vs[i]? = some (.slice (some ⟨g, 0, none⟩) M[i].length cap) ∧ W.cell? ⟨ob, i, none⟩ = some (.slice (some ⟨g, 0, none⟩) M[i].length cap) ∧ W.frozen? ⟨ob, i, none⟩ = false ∧
      (∀ k (hk : k < M[i].length), W.cell? ⟨g, k, none⟩ = some (.int .i64 M[i][k])) ∧ (∀ k, W.frozen? ⟨g, k, none⟩ = false) ∧ W.ownsRow base 2 1 (.slice (some ⟨g, 0, none⟩) M[i].length cap) M[i].length (M[i].map vI) := by
  obtain ⟨g, cap, h1, h2⟩ := h.row i hi
  obtain ⟨_, (⟨_, h0⟩ | ⟨ob, oc, cur, hv, _⟩)⟩ := id h.out
  · omega
  · have ho := h.out
    rw [hv] at ho
    refine ⟨ob, oc, g, cap, hv, h1, ?_, owns_frozen ho i, fun k hk => ?_, fun k => owns_frozen h2 k, h2⟩
    · have := ho.cells (g := ob) rfl i _ h1
      rwa [add0] at this
    · have := h2.cells (g := g) rfl k (.int .i64 M[i][k]) (by simp [hk, vI])
      rwa [add0] at this
/-- one row is written over. -/
theorem MatAt.put {base : Nat} {W W' : World} {v : Value} {vs : List Value} {M : List (List Int)} (h : MatAt base W v vs M) {i g cap : Nat} (hi : i < M.length) (hv : vs[i]? = some (.slice (some ⟨g, 0, none⟩) M[i].length cap)) {ys : List Int} (hl : ys.length = M[i].length)
    (ho : W'.ownsRow base 2 1 (.slice (some ⟨g, 0, none⟩) M[i].length cap) M[i].length (ys.map vI)) (hg : W.grownBy W' (some g)) : MatAt base W' v vs (M.set i ys) ∧ Below base W W' := by
  have hbg : base ≤ g := by
    obtain ⟨_, (⟨e, _⟩ | ⟨g', cap', cur, e, hg, _⟩)⟩ := ho
    · cases e
    · cases e; exact hg
  have hgl : base ≤ W.heap.size := by
    obtain ⟨g2, c2, -, h2⟩ := h.row i hi
    have := h2.lt g2 rfl
    omega
  refine ⟨⟨?_, fun j hj => ?_, h.ne, h.no⟩, ⟨hg.os, hg.tape, hg.output, hg.size, fun b hb => hg.block b (by omega) (fun e => by have := Option.some.inj e; omega)⟩⟩
  · rw [List.length_set]
    exact owns_same h.out fun b e => hg.block b (h.out.lt b e).2 fun e2 => h.no i _ hv g rfl (by rw [e, e2])
  · have hj2 : j < M.length := by simpa using hj
    obtain ⟨gj, cj, h1, h2⟩ := h.row j hj2
    by_cases hij : i = j
    · subst hij
      rw [hv] at h1
      cases h1
      refine ⟨g, cap, ?_, ?_⟩
      · rw [hv]; simp [hl]
      · simp only [List.getElem_set_self, hl]; exact ho
    · simp only [List.getElem_set_ne hij]
      refine ⟨gj, cj, h1, owns_same h2 fun b e => hg.block b (h2.lt b e).2 fun e2 => ?_⟩
      exact h.ne i j _ _ hv h1 hij g rfl (by rw [e, e2])

/-- the place of a row's only number that isn't 0. -/
def loneL (xs : List Int) : Int := match (List.range xs.length).filter fun i => xs.getD i 0 ≠ 0 with | [i] => i | _ => -1
def nz (xs : List Int) (k : Nat) : List Nat := (List.range k).filter fun i => xs.getD i 0 ≠ 0
theorem nz_succ (xs : List Int) (k : Nat) (hk : k < xs.length) : nz xs (k + 1) = nz xs k ++ if xs[k] ≠ 0 then [k] else [] := by
  unfold nz
  rw [List.range_succ, List.filter_append]
  congr 1
  by_cases h : xs[k] = 0 <;> simp [hk, h]
theorem nz_pre (xs : List Int) {k n : Nat} (h : k ≤ n) : nz xs k <+: nz xs n := by
  unfold nz
  obtain ⟨m, rfl⟩ : ∃ m, n = k + m := ⟨n - k, by omega⟩
  rw [List.range_add, List.filter_append]
  exact List.prefix_append _ _
theorem loneL_many {xs : List Int} {k : Nat} (hk : k ≤ xs.length) (h : 2 ≤ (nz xs k).length) : loneL xs = -1 := by
  obtain ⟨r, hr⟩ := nz_pre xs hk
  have h2 : 2 ≤ (nz xs xs.length).length := by rw [← hr, List.length_append]; omega
  show (match nz xs xs.length with | [i] => (i : Int) | _ => -1) = -1
  generalize nz xs xs.length = l at h2
  match l, h2 with
  | a :: b :: l, _ => rfl
set_option maxRecDepth 100000 in
set_option maxHeartbeats 4000000 in
theorem lone_calls (W : World) (g n cap : Nat) (xs : List Int) (hc : ∀ k (hk : k < xs.length), W.cell? ⟨g, k, none⟩ = some (.int .i64 xs[k])) (hn : n = xs.length) (hl : n ≤ 1000) :
    Calls Try.prog 22 #[.slice (some ⟨g, 0, none⟩) n cap] W fun e W' => e = .returned (.int .i64 (loneL xs)) ∧ W' = W := by
  subst hn
  have HC := Lib.hid hc
  clear hc
  go_enter Try.func22, Try.ntmps22
  go_wp2
  go_loopw [3, 8] (fun o i wr => ∃ (k : Nat) (q : Int), k ≤ xs.length ∧ i = .int .i64 k ∧ o = .int .i64 q ∧ Hid ((q = -1 ∧ nz xs k = []) ∨ (0 ≤ q ∧ nz xs k = [q.toNat])) ∧ -1 ≤ q ∧ wr = W) (fun _ i _ => xs.length - (intOf i).toNat)
  case atStart => exact ⟨0, -1, by omega, rfl, rfl, .inl ⟨rfl, rfl⟩, by omega, rfl⟩
  case round =>
    obtain ⟨k, q, hk, rfl, rfl, HQ, hq1, rfl⟩ := hrel
    by_cases hlt : k < xs.length
    · have hc := HC.out k hlt
      have HN := Lib.hid (nz_succ xs k hlt)
      obtain ⟨x, hx⟩ : ∃ x, x = xs[k] := ⟨_, rfl⟩
      rw [← hx] at hc HN
      clear hx
      by_cases h0 : x = 0
      · have HQ2 : Hid ((q = -1 ∧ nz xs (k + 1) = []) ∨ (0 ≤ q ∧ nz xs (k + 1) = [q.toNat])) := by
          show _ ∨ _
          rw [HN.out, if_neg (by simpa using h0), List.append_nil]; exact HQ.out
        obtain rfl := h0
        clear HN HQ
        go_wp2
        exact ⟨⟨k + 1, q, hlt, by go_num, rfl, HQ2, hq1, trivial⟩, by simp [intOf]; omega⟩
      · by_cases hq : 0 ≤ q
        · have hfin : Hid (loneL xs = -1) := loneL_many (k := k + 1) hlt (by
            rw [HN.out, if_pos h0]
            rcases HQ.out with ⟨h1, -⟩ | ⟨-, h1⟩
            · omega
            · rw [h1]; simp)
          have hne : (x != 0) = true := by simpa using h0
          go_wp2
          go_ret
          exact ⟨ret_int (by rw [hfin.out]), rfl⟩
        · have HQ2 : Hid (((k : Int) = -1 ∧ nz xs (k + 1) = []) ∨ (0 ≤ (k : Int) ∧ nz xs (k + 1) = [(k : Int).toNat])) := by
            refine .inr ⟨by omega, ?_⟩
            rw [HN.out, if_pos h0]
            rcases HQ.out with ⟨-, h1⟩ | ⟨h1, -⟩
            · rw [h1]; simp
            · omega
          have hne : (x != 0) = true := by simpa using h0
          clear HN HQ
          go_wp2
          exact ⟨⟨k + 1, k, hlt, by go_num, rfl, HQ2, by omega, trivial⟩, by simp [intOf]; omega⟩
    · have hke : k = xs.length := by omega
      subst hke
      have hfin : Hid (loneL xs = q) := by
        show (match nz xs xs.length with | [i] => (i : Int) | _ => -1) = q
        rcases HQ.out with ⟨h1, h2⟩ | ⟨h1, h2⟩
        · rw [h2, h1]
        · rw [h2]; simp; omega
      go_wp2
      go_ret
      exact ⟨ret_int (by rw [hfin.out]), rfl⟩
end Go.Proofs.Ytpchodnknkdlgaa
