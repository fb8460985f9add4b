import Derived.Test.YtpchodnknkdlgaaInD
import Derived.Test.YtpchodnknkdlgaaRF
namespace Go.Proofs.Ytpchodnknkdlgaa
open Go.RowKit
attribute [local go_sem] Oper.semAt_some

theorem all_calls (w : World) (pb : Nat) :
    Calls Try.prog 38 #[.pointer (some ⟨pb, 3, none⟩)] w fun e w' =>
      e = .returned (.func (.func 45) #[] #[.pointer (some ⟨w.heap.size, 0, none⟩)]) ∧ w' = w.alloc (.cells #[.pointer (some ⟨pb, 3, none⟩)] 65) := by
  go_enter Try.func38, Try.ntmps38
  go_wp2
  go_ret
  exact ⟨rfl, rfl⟩

/-- What comes with a set: a clone of it, of the call's own. -/
def YSet (_ : List (List Int)) (x : List Int) (vs : Array Value) (U W : World) : Prop :=
  ∃ A cap, vs = #[.slice A x.length cap] ∧ W.ownsRow U.heap.size 3 1 (.slice A x.length cap) x.length (x.map (Value.int .i64))

set_option maxHeartbeats 1000000 in
theorem all1_iter (w0 W : World) (pb bx : Nat) {c : Nat} {χ : Col} {sets : List (List Int)} (hR : RecAt c χ w0 pb sets) (hn : sets.length ≤ 1000000) (hs : ∀ x ∈ sets, x.length ≤ 1000000)
    (hb : Below w0.heap.size w0 W) (hbox : W.cell? ⟨bx, 0, none⟩ = some (.pointer (some ⟨pb, 3, none⟩))) :
    Iter Try.prog 45 #[.pointer (some ⟨bx, 0, none⟩)] YSet w0.heap.size sets W := by
  intro n l J Jx hJ hJx hY h0
  obtain ⟨rv, hc0, hII0⟩ := hR.isII hn
  have hc : W.cell? ⟨pb, 3, none⟩ = some rv := (World.cell?_of_block (hb.block pb (by have := World.block_lt_of_cell? w0 _ hc0; simpa using this))).trans hc0
  have hsz := hb.size
  obtain ⟨A, cap, rfl, h1, h2, h3, -⟩ := id hII0
  unfold maxLen at h2
  have HJ := Lib.hid hJ; clear hJ
  have HY := Lib.hid hY; clear hY
  clear hJx
  refine callsIn_of_wp Try.func45 rfl trivial ?_ rfl
  simp only [Try.ntmps45, List.size_toArray, List.length_cons, List.length_nil, Nat.reduceAdd, Nat.reduceSub, Array.replicate_succ, Array.replicate_zero, List.push_toArray, List.append_toArray, List.nil_append, List.cons_append]
  gi_wp2
  gi_loopw [10] (fun i wr => ∃ k : Nat, k ≤ sets.length ∧ i = .int .i64 k ∧ J (sets.take k) wr ∧ Below w0.heap.size w0 wr) (fun i _ => sets.length - (intOf i).toNat)
  case atStart => exact ⟨0, by omega, rfl, h0, hb⟩
  case round =>
    obtain ⟨k, hk, rfl, hJk, hbr⟩ := hrel
    by_cases hlt : k < sets.length
    · have hII : IsII c (c + 1) χ wr (.slice A sets.length cap) sets := hII0.keep (Same.below' hbr)
      obtain ⟨b, o, s, rfl, hcell, hs1⟩ := hII.getS k hlt
      have hl1 : sets[k].length ≤ 1000000 := hs _ (List.getElem_mem hlt)
      gi_wp2_with (refine ⟨trivial, wide_n, ?_⟩; gi_at_call 37; refine (callsIn_wide.2 (cloneI_calls _ _ _ hs1 hl1)).mono ?_; rintro e w1 ⟨A', cap', rfl, hown1, hb1⟩)
      obtain ⟨fn, tmps, assign, body, hy, hR⟩ := HY.out (sets.take k) sets[k] (sets.drop (k + 1)) #[.slice A' sets[k].length cap'] wr w1 (split_at _ _ hlt) hJk hb1 ⟨_, _, rfl, hown1⟩
      have HH := Lib.hid HY; clear HY
      have HR := Lib.hid hR; clear hR
      rw [hy]
      gi_wp2
      refine ⟨wide_n, HR.out.mono ?_⟩
      have hbw : Below w0.heap.size w0 w1 := hbr.trans (hb1.mono hbr.size)
      rintro e W3 (⟨rfl, hJ3, hk3⟩ | ⟨rfl, hJx3⟩)
      · gi_wp2
        go_roundw
        case rel => exact ⟨k + 1, hlt, by go_num, by rw [List.take_succ_eq_append_getElem hlt]; exact hJ3, hbw.trans hk3⟩
        case measure => simp [intOf]; omega
      · gi_wp2
        refine bodyPost_ret (results_none rfl _ _ _) rfl ?_
        exact ⟨⟨_, rfl⟩, .inr ⟨sets.take (k + 1), List.take_prefix _ _, by rw [List.take_succ_eq_append_getElem hlt]; exact hJx3⟩⟩
    · have hkk : sets.take k = sets := List.take_of_length_le (by omega)
      rw [hkk] at hJk
      clear hkk
      gi_wp2
      go_end0
      exact ⟨⟨_, rfl⟩, .inl hJk⟩
end Go.Proofs.Ytpchodnknkdlgaa
