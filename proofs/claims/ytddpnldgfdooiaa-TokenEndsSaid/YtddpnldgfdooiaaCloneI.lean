import Derived.Test.YtddpnldgfdooiaaBase
namespace Go.Proofs.Ytddpnldgfdooiaa
open Go.RowKit
theorem infoI : (Try.prog.info? 3).map (fun i => (i.zero, i.size, i.bytes)) = some (some (.int .i64 0), 1, 8) := by kernel_rfl

theorem isI_owns {c base e : Nat} {χ : Col} {w : World} {v : Value} {xs : List Int}
    (h : w.ownsRow base e 1 v xs.length (xs.map (Value.int .i64))) (hl : xs.length ≤ 9223372036854775807) (hc : ∀ b, v.ownBlock = some b → χ b = c) : IsI c χ w v xs :=
  IsL.of_owns (by omega) h hl hc fun i hi => by
    show _ = _
    rw [show i * 1 = i by omega, ← List.map_drop, ← List.map_take, List.drop_eq_getElem_cons hi]; rfl

theorem cellsI {c : Nat} {χ : Col} {w : World} {b o n cap : Nat} {xs : List Int} (h : IsI c χ w (.slice (some ⟨b, o, none⟩) n cap) xs) :
    (xs.map (Value.int .i64)).length = n * 1 ∧ (∀ j u, (xs.map (Value.int .i64))[j]? = some u → w.cell? ((⟨b, o, none⟩ : Addr).add j) = some u) ∧ ∀ u ∈ xs.map (Value.int .i64), u.oneCell' = true := by
  obtain ⟨A, cap', e, h1, h2, h3, h4⟩ := id h
  have hn : n = xs.length := by cases e; rfl
  refine ⟨by simp [hn], fun j u hj => ?_, fun u hu => ?_⟩
  · simp only [List.getElem?_map, Option.map_eq_some_iff] at hj
    obtain ⟨x, hx, rfl⟩ := hj
    obtain ⟨hlt, rfl⟩ := List.getElem?_eq_some_iff.1 hx
    obtain ⟨b', o', e, hc⟩ := h.getI j hlt
    cases e
    have : (⟨b, o, none⟩ : Addr).add j = ⟨b, o + j, none⟩ := by simp only [Addr.add]; split <;> simp_all
    rw [this]; exact hc
  · obtain ⟨x, _, rfl⟩ := List.mem_map.1 hu; rfl

end Go.Proofs.Ytddpnldgfdooiaa
