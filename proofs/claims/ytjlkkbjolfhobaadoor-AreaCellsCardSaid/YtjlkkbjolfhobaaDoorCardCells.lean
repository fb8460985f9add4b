import Derived.Test.YtjlkkbjolfhobaaDoorLawCellsA
import Derived.Test.YtjlkkbjolfhobaaDoorCards
import Derived.Test.YtjlkkbjolfhobaaDoorTie
import Derived.SevenTiedAt
namespace Go.Proofs.YtjlkkbjolfhobaaDoor
open Go
set_option maxRecDepth 100000 in
theorem areaCellsCard_holds : Rows.AreaCellsCardSaid :=
  Claim7.holds_tied_plain_at .later [] [.data] true Rows.areaCellsCard.stood.harness false
    areaCells_holds (fun _ h => by cases h) (by kernel_rfl) (fun _ h => by cases h) areaCells_row_tie rfl ⟨rfl, rfl⟩ (by kernel_rfl) (by kernel_rfl)
    (fun f fn hf hfn => by
      obtain rfl : f = 7 := Option.some.inj ((show Tryd.prog.funcNamed "clerestory/clerestorylaw07.AreaCells" = some 7 by kernel_rfl).symm.trans hf) |>.symm
      obtain rfl : fn = Tryd.f7 := (Option.some.inj (Tryd.func7.symm.trans hfn)).symm
      exact ⟨by kernel_rfl, fun j t ht => by
        rw [Tryd.params7] at ht
        have h3 : t = 22 := by
          rcases j with _ | j
          · simpa using ht.symm
          · simp at ht
        subst h3
        exact (show Tryd.prog.wantsStandIn 22 = false by kernel_rfl)⟩)
    (by kernel_rfl)
#print axioms areaCellsCard_holds
end Go.Proofs.YtjlkkbjolfhobaaDoor
