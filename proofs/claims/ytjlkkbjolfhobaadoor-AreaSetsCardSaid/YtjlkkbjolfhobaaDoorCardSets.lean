import Derived.Test.YtjlkkbjolfhobaaDoorLawSetsA
import Derived.Test.YtjlkkbjolfhobaaDoorCards
import Derived.Test.YtjlkkbjolfhobaaDoorTie
import Derived.SevenTiedAt
namespace Go.Proofs.YtjlkkbjolfhobaaDoor
open Go
set_option maxRecDepth 100000 in
theorem areaSetsCard_holds : Rows.AreaSetsCardSaid :=
  Claim7.holds_tied_plain_at .later [] [.data] true Rows.areaSetsCard.stood.harness false
    areaSets_holds (fun _ h => by cases h) (by kernel_rfl) (fun _ h => by cases h) areaSets_row_tie rfl ⟨rfl, rfl⟩ (by kernel_rfl) (by kernel_rfl)
    (fun f fn hf hfn => by
      obtain rfl : f = 3 := Option.some.inj ((show Tryd.prog.funcNamed "clerestory/clerestorylaw07.AreaSets" = some 3 by kernel_rfl).symm.trans hf) |>.symm
      obtain rfl : fn = Tryd.f3 := (Option.some.inj (Tryd.func3.symm.trans hfn)).symm
      exact ⟨by kernel_rfl, fun j t ht => by
        rw [Tryd.params3] at ht
        have h3 : t = 3 ∨ t = 23 ∨ t = 22 ∨ t = 25 := by
          rcases j with _ | _ | _ | _ | _ | _ | j
          · exact .inr (.inr (.inl (by simpa using ht.symm)))
          · exact .inr (.inr (.inl (by simpa using ht.symm)))
          · exact .inl (by simpa using ht.symm)
          · exact .inr (.inl (by simpa using ht.symm))
          · exact .inr (.inr (.inr (by simpa using ht.symm)))
          · exact .inl (by simpa using ht.symm)
          · simp at ht
        rcases h3 with rfl | rfl | rfl | rfl
        · exact (show Tryd.prog.wantsStandIn 3 = false by kernel_rfl)
        · exact (show Tryd.prog.wantsStandIn 23 = false by kernel_rfl)
        · exact (show Tryd.prog.wantsStandIn 22 = false by kernel_rfl)
        · exact (show Tryd.prog.wantsStandIn 25 = false by kernel_rfl)⟩)
    (by kernel_rfl)
#print axioms areaSetsCard_holds
end Go.Proofs.YtjlkkbjolfhobaaDoor
