import Derived.Test.YtjlkkbjolfhobaaDoorLawAlgebraA
import Derived.Test.YtjlkkbjolfhobaaDoorCards
import Derived.Test.YtjlkkbjolfhobaaDoorTie
import Derived.SevenTiedAt
namespace Go.Proofs.YtjlkkbjolfhobaaDoor
open Go
set_option maxRecDepth 100000 in
theorem areaAlgebraCard_holds : Rows.AreaAlgebraCardSaid :=
  Claim7.holds_tied_plain_at .later [] [.data] true Rows.areaAlgebraCard.stood.harness false
    areaAlgebra_holds (fun _ h => by cases h) (by kernel_rfl) (fun _ h => by cases h) areaAlgebra_row_tie rfl ⟨rfl, rfl⟩ (by kernel_rfl) (by kernel_rfl)
    (fun f fn hf hfn => by
      obtain rfl : f = 4 := Option.some.inj ((show Tryd.prog.funcNamed "clerestory/clerestorylaw07.AreaAlgebra" = some 4 by kernel_rfl).symm.trans hf) |>.symm
      obtain rfl : fn = Tryd.f4 := (Option.some.inj (Tryd.func4.symm.trans hfn)).symm
      exact ⟨by kernel_rfl, fun j t ht => by
        rw [Tryd.params4] at ht
        have h3 : t = 22 ∨ t = 25 := by
          rcases j with _ | _ | _ | j
          · exact .inl (by simpa using ht.symm)
          · exact .inl (by simpa using ht.symm)
          · exact .inr (by simpa using ht.symm)
          · simp at ht
        rcases h3 with rfl | rfl
        · exact (show Tryd.prog.wantsStandIn 22 = false by kernel_rfl)
        · exact (show Tryd.prog.wantsStandIn 25 = false by kernel_rfl)⟩)
    (by kernel_rfl)
#print axioms areaAlgebraCard_holds
end Go.Proofs.YtjlkkbjolfhobaaDoor
