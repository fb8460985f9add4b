import Derived.Test.YtcdldjiogoapkaaSgAD
namespace Go.Proofs.Ytcdldjiogoapkaa
open Go.RowKit

/-- A tree lies at pt: its keys with their values, what was ever put, how many nodes. -/
def STr (c : Nat) (χ : Col) (w : World) (pt : Nat) (lim : Int) (row : List (Nat × Int)) (ever : Nat → Prop) (n : Nat) : Prop :=
  ∃ ns root, TrAt c χ w pt ns root lim ∧ TI ns root row ever ∧ ns.length = n
def STo (c : Nat) (χ : Col) (w w' : World) (pt : Nat) (lim : Int) (row : List (Nat × Int)) (ever : Nat → Prop) (n : Nat) : Prop :=
  ∃ χ', (∀ b, b < w.heap.size → χ' b = χ b) ∧ STr c χ' w' pt lim row ever n ∧ Chg χ (fun x => c ≤ x ∧ x ≤ c + 2) w w'
theorem STr.keep {c : Nat} {χ χ' : Col} {w w' : World} {pt : Nat} {lim : Int} {row : List (Nat × Int)} {ever : Nat → Prop} {n : Nat} (h : STr c χ w pt lim row ever n) (hs : Same (fun x => c ≤ x ∧ x ≤ c + 2) χ χ' w w') : STr c χ' w' pt lim row ever n := by
  obtain ⟨ns, root, h1, h2, h3⟩ := h
  exact ⟨ns, root, h1.keep hs, h2, h3⟩
theorem STo.of {c : Nat} {χ : Col} {w w' : World} {pt : Nat} {lim root : Int} {ns : List Nd} {row : List (Nat × Int)} {ever : Nat → Prop} {n : Nat} (h : TrTo c χ w w' pt ns root lim) (ht : TI ns root row ever) (hn : ns.length = n) : STo c χ w w' pt lim row ever n := by
  obtain ⟨χ', h1, h2, h3⟩ := h
  exact ⟨χ', h1, ⟨ns, root, h2, ht, hn⟩, h3⟩
theorem STr.len {c : Nat} {χ : Col} {w : World} {pt : Nat} {lim : Int} {row : List (Nat × Int)} {ever : Nat → Prop} {n : Nat} (h : STr c χ w pt lim row ever n) : row.Pairwise (fun x y => x.1 < y.1) ∧ ∀ x ∈ row, x.1 < 4294967296 := by
  obtain ⟨ns, root, h1, h2, h3⟩ := h
  exact h2.len.2

variable {c pt n : Nat} {χ : Col} {lim : Int} {row : List (Nat × Int)} {ever : Nat → Prop}
theorem s_fold (w : World) (slo shi : Nat) (h : STr c χ w pt lim row ever n) :
    Calls Try.prog 18 #[.pointer (some ⟨pt, 0, none⟩), spn slo shi] w fun e w' => e = .returned (agV (vals (row.filter (inS slo shi)))).val ∧ STo c χ w w' pt lim row ever n := by
  obtain ⟨ns, root, h1, h2, h3⟩ := h
  obtain ⟨k1, k2, k3⟩ := h2.root
  obtain ⟨f1, f2, f3⟩ := h2.fold slo shi
  refine (tfold_calls w pt slo shi h1 k1 k2 k3).mono ?_
  rintro e w' ⟨rfl, hT⟩
  exact ⟨by rw [f1], .of hT f2 (f3.trans h3)⟩
theorem s_kill (w : World) (slo shi : Nat) (h : STr c χ w pt lim row ever n) :
    Calls Try.prog 17 #[.pointer (some ⟨pt, 0, none⟩), spn slo shi] w fun e w' => e = .returned (.int .i64 (agV (vals (row.filter (inS slo shi)))).c) ∧ STo c χ w w' pt lim (row.filter (fun x => !inS slo shi x)) ever n := by
  obtain ⟨ns, root, h1, h2, h3⟩ := h
  obtain ⟨k1, k2, k3⟩ := h2.root
  obtain ⟨f1, f2, f3⟩ := h2.fold slo shi
  obtain ⟨g2, g3⟩ := f2.cut slo shi
  refine (tkill_calls w pt slo shi h1 k1 k2 k3).mono ?_
  rintro e w' ⟨rfl, hT⟩
  exact ⟨by rw [f1], .of hT g2 (g3.trans (f3.trans h3))⟩
theorem s_drop (w : World) (key : Nat) (h : STr c χ w pt lim row ever n) :
    Calls Try.prog 15 #[.pointer (some ⟨pt, 0, none⟩), .int .u32 key] w fun e w' => e = .returned (.bool ((agV (vals (row.filter (inS key key)))).c == 1)) ∧ STo c χ w w' pt lim (row.filter (fun x => !inS key key x)) ever n := by
  obtain ⟨ns, root, h1, h2, h3⟩ := h
  obtain ⟨k1, k2, k3⟩ := h2.root
  obtain ⟨f1, f2, f3⟩ := h2.fold key key
  obtain ⟨g2, g3⟩ := f2.cut key key
  refine (tdrop_calls w pt key h1 k1 k2 k3).mono ?_
  rintro e w' ⟨rfl, hT⟩
  exact ⟨by rw [f1], .of hT g2 (g3.trans (f3.trans h3))⟩
theorem s_get (w : World) (key : Nat) (h : STr c χ w pt lim row ever n) :
    Calls Try.prog 19 #[.pointer (some ⟨pt, 0, none⟩), .int .u32 key] w fun e w' =>
      e = .returned (.tuple #[.int .i64 (agV (vals (row.filter (inS key key)))).s, .bool ((agV (vals (row.filter (inS key key)))).c == 1)]) ∧ STo c χ w w' pt lim row ever n := by
  obtain ⟨ns, root, h1, h2, h3⟩ := h
  obtain ⟨k1, k2, k3⟩ := h2.root
  obtain ⟨f1, f2, f3⟩ := h2.fold key key
  refine (tget_calls w pt key h1 k1 k2 k3).mono ?_
  rintro e w' ⟨rfl, hT⟩
  exact ⟨by rw [f1], .of hT f2 (f3.trans h3)⟩
theorem s_put_full (w : World) (key m : Nat) (v : Int) (h : STr c χ w pt lim row ever n) (hk : key < 4294967296) (hl : 0 ≤ lim) (hm : Lacks ever key m) (hf : lim < (n : Int) + m) :
    Calls Try.prog 13 #[.pointer (some ⟨pt, 0, none⟩), .int .u32 key, .int .i64 v] w fun e w' => e = .returned (.int .i64 6) ∧ STo c χ w w' pt lim row ever n := by
  obtain ⟨ns, root, h1, h2, h3⟩ := h
  obtain ⟨k1, k2, k3⟩ := h2.root
  refine (put_full w pt key v h1 k1 k2 k3 hk hl (Lib.hid (by rw [h2.miss hk hm]; omega))).mono ?_
  rintro e w' ⟨rfl, hb⟩
  exact ⟨rfl, χ, fun _ _ => rfl, ⟨ns, root, h1.below hb, h2, h3⟩, Chg.of_below hb⟩
theorem s_put_ok (w : World) (key m : Nat) (v : Int) (h : STr c χ w pt lim row ever n) (hk : key < 4294967296) (hv : wrap64 v = v) (hl : 0 ≤ lim) (hm : Lacks ever key m) (hf : (n : Int) + m ≤ lim) :
    Calls Try.prog 13 #[.pointer (some ⟨pt, 0, none⟩), .int .u32 key, .int .i64 v] w fun e w' => e = .returned (.int .i64 0) ∧ STo c χ w w' pt lim (putL key v row) (fun k => k = key ∨ ever k) (n + m) := by
  obtain ⟨ns, root, h1, h2, h3⟩ := h
  obtain ⟨k1, k2, k3⟩ := h2.root
  obtain ⟨g1, g2, g3⟩ := h2.set hk hv hm (lim := lim) (by omega)
  refine (put_ok w pt key v h1 k1 k2 k3 hk hl (Lib.hid (by rw [h2.miss hk hm]; omega)) (Lib.hid g1)).mono ?_
  rintro e w' ⟨rfl, hT⟩
  exact ⟨rfl, .of hT g2 (by omega)⟩
theorem s_nodes (w : World) (h : STr c χ w pt lim row ever n) :
    Calls Try.prog 20 #[.pointer (some ⟨pt, 0, none⟩)] w fun e w' => e = .returned (.int .i64 n) ∧ w' = w := by
  obtain ⟨ns, root, h1, h2, h3⟩ := h
  refine (tnodes_calls w pt h1).mono ?_
  rintro e w' ⟨rfl, rfl⟩
  exact ⟨by rw [h3], rfl⟩
theorem s_new (w : World) (l c : Nat) (χ : Col) (h1 : 1 ≤ l) (h2 : l ≤ 4194304) :
    Calls Try.prog 10 #[.int .i64 l] w fun e w' => ∃ pt χ', e = .returned (.tuple #[.pointer (some ⟨pt, 0, none⟩), .int .i64 0]) ∧ w.heap.size ≤ pt ∧ (∀ b, b < w.heap.size → χ' b = χ b) ∧ STr c χ' w' pt l [] (fun _ => False) 0 ∧ Below w.heap.size w w' := by
  refine (tnew_calls w l c χ h1 h2).mono ?_
  rintro e w' ⟨pt, χ', rfl, h1, h2, h3, h4⟩
  exact ⟨pt, χ', rfl, h1, h2, ⟨[], 0, h3, TI.new, rfl⟩, h4⟩
/-- What pairs gives. -/
def SPairs (c cO : Nat) (χ : Col) (w : World) (pt : Nat) (lim : Int) (row : List (Nat × Int)) (ever : Nat → Prop) (n : Nat) (m : Int) (e : Ending) (w' : World) : Prop :=
  ∃ A cap χ', e = .returned (.slice A (row.take m.toNat).length cap) ∧ (∀ b, b < w.heap.size → χ' b = χ b) ∧ Chg χ (fun x => c ≤ x ∧ x ≤ c + 2) w w' ∧ IsP cO χ' w' (.slice A (row.take m.toNat).length cap) (row.take m.toNat) ∧ ((row.length : Int) < m → STr c χ' w' pt lim row ever n)
theorem s_pairs (w : World) (m : Int) {cO cR : Nat} (h : STr c χ w pt lim row ever n) (hO : cO < c ∨ c + 3 < cO) (hR : cR < c ∨ c + 3 < cR) (hRO : cR ≠ cO)
    (hwO : ∀ b, b < w.heap.size → χ b ≠ cO) (hwR : ∀ b, b < w.heap.size → χ b ≠ cR) (hlen : row.length ≤ 1000000) :
    Calls Try.prog 23 #[.pointer (some ⟨pt, 0, none⟩), .int .i64 m] w (SPairs c cO χ w pt lim row ever n m) := by
  obtain ⟨ns, root, h1, h2, h3⟩ := h
  obtain ⟨k1, k2, k3⟩ := h2.root
  obtain ⟨f1, f2, f3⟩ := h2.walk
  refine (pairs_calls w pt m h1 k1 k2 k3 hO hR hRO hwO hwR (by rw [f1]; exact hlen)).mono ?_
  rintro e w' ⟨v, χ', rfl, q1, q2, q3, q4⟩
  rw [f1] at q3 q4
  obtain ⟨A, cap, rfl⟩ := owns_form q3.1
  exact ⟨A, cap, χ', rfl, q1, q2, q3, fun hm => ⟨_, root, q4 hm, f2, f3.trans h3⟩⟩
end Go.Proofs.Ytcdldjiogoapkaa
