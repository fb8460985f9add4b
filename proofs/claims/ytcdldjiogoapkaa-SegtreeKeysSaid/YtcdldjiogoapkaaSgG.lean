import Derived.Test.YtcdldjiogoapkaaSgF
namespace Go.Proofs.Ytcdldjiogoapkaa
open Go.RowKit
attribute [local go_sem] World.cell?_alloc_some frozen_alloc_some field_na field_ac field_as

/-- How many nodes a key's way lacks, below node i of height h. -/
def missN (ns : List Nd) (key : Nat) : Nat → Int → Int
  | 0, i => if i = 0 then 1 else 0
  | h + 1, i => if i = 0 then (h : Int) + 2 else missN ns key h ((getN ns i).kid key h)

theorem OkN.kid {ns : List Nd} (h : OkN ns) (i : Int) (key k : Nat) : 0 ≤ (getN ns i).kid key k ∧ (getN ns i).kid key k ≤ ns.length := by
  obtain ⟨h1, h2, h3, h4⟩ := h.get i
  unfold Nd.kid
  split
  · exact ⟨h3, h4⟩
  · exact ⟨h1, h2⟩

set_option maxHeartbeats 1000000 in
theorem missing_calls (w : World) (pt key : Nat) {c : Nat} {χ : Col} {ns : List Nd} {root lim : Int} (h : TrAt c χ w pt ns root lim) (hok : OkN ns) (i0 : 0 ≤ root) (i1 : root ≤ ns.length) (k2 : key < 4294967296) :
    Calls Try.prog 30 #[.pointer (some ⟨pt, 0, none⟩), .int .u32 key] w fun e w' => e = .returned (.int .i64 (missN ns key 32 root)) ∧ Below w.heap.size w w' := by
  obtain ⟨qa, -, -, -, h3, -, -⟩ := id h
  obtain ⟨r, hr⟩ : ∃ r, r = missN ns key 32 root := ⟨_, rfl⟩
  rw [← hr]
  have HR := Lib.hid hr.symm
  clear hr
  have HK := Lib.hid hok
  clear hok
  go_enter Try.func30, Try.ntmps30
  go_wp2
  go_loopw [5, 6] (fun i hv wr => ∃ (h : Nat) (x : Int), h ≤ 32 ∧ hv = .int .i64 h ∧ i = .int .i32 x ∧ 0 ≤ x ∧ x ≤ ns.length ∧ Hid (missN ns key h x = r) ∧ Below w.heap.size w wr) (fun _ hv _ => (intOf hv).toNat)
  case atStart => exact ⟨32, root, by omega, rfl, rfl, i0, i1, HR, Below.refl _ _⟩
  case round =>
    obtain ⟨hh, x, hh32, rfl, rfl, x0, x1, HX, hb⟩ := hrel
    cases hh with
    | zero =>
      by_cases hx : x = 0
      · subst hx
        have e : r = 1 := by have := HX.out; simpa [missN] using this.symm
        go_wp2
        go_ret
        exact ⟨ret_int e.symm, hb⟩
      · have e : r = 0 := by have := HX.out; simp [missN, hx] at this; exact this.symm
        go_wp2
        go_ret
        exact ⟨ret_int e.symm, hb⟩
    | succ hh =>
      by_cases hx : x = 0
      · subst hx
        have e : r = (hh : Int) + 2 := by have := HX.out; simpa [missN] using this.symm
        go_wp2
        go_ret
        exact ⟨ret_int (by omega), hb⟩
      · have e : missN ns key hh ((getN ns x).kid key hh) = r := by have := HX.out; simpa [missN, hx] using this
        have E := Lib.hid e
        clear e HX
        go_wp2_with fail
        refine (at_calls _ _ _ (h.keep (Same.below' hb)) x0 x1).mono ?_
        rintro e w1 ⟨rfl, hb1⟩
        go_wp2_with fail
        refine (child_calls _ (getN ns x) key hh (by omega) k2).mono ?_
        rintro e w2 ⟨rfl, hb2⟩
        go_wp2
        go_roundw
        case rel => exact ⟨hh, (getN ns x).kid key hh, by omega, by go_num, rfl, (HK.out.kid x key hh).1, (HK.out.kid x key hh).2, E, (hb.trans (hb1.mono hb.size)).trans (hb2.mono (by have := hb.size; have := hb1.size; omega))⟩
        case measure => simp [intOf]
end Go.Proofs.Ytcdldjiogoapkaa
