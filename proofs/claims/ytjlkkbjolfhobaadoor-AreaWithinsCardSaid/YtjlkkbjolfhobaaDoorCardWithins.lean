import Derived.Test.YtjlkkbjolfhobaaDoorLawWithins
import Derived.Test.YtjlkkbjolfhobaaDoorCards
import Derived.Test.YtjlkkbjolfhobaaDoorTie
import Derived.SevenTiedAt
namespace Go.Proofs.YtjlkkbjolfhobaaDoor
open Go
set_option maxRecDepth 100000 in
theorem areaWithinsCard_holds : Rows.AreaWithinsCardSaid :=
  Claim7.holds_tied_plain_at .later [] [.data] true Rows.areaWithinsCard.stood.harness false
    areaWithins_holds (fun _ h => by cases h) (by kernel_rfl) (fun _ h => by cases h) areaWithins_row_tie rfl ⟨rfl, rfl⟩ (by kernel_rfl) (by kernel_rfl)
    (fun f fn hf hfn => by
      obtain rfl : f = 6 := Option.some.inj ((show Tryd.prog.funcNamed "clerestory/clerestorylaw07.AreaWithins" = some 6 by kernel_rfl).symm.trans hf) |>.symm
      obtain rfl : fn = Tryd.f6 := (Option.some.inj (Tryd.func6.symm.trans hfn)).symm
      exact ⟨by kernel_rfl, fun j t ht => by
        rw [Tryd.params6] at ht
        have h3 : t = 22 := by
          rcases j with _ | _ | _ | j
          · simpa using ht.symm
          · simpa using ht.symm
          · simpa using ht.symm
          · simp at ht
        subst h3
        exact (show Tryd.prog.wantsStandIn 22 = false by kernel_rfl)⟩)
    (by kernel_rfl)
#print axioms areaWithinsCard_holds
end Go.Proofs.YtjlkkbjolfhobaaDoor
