import Derived.Test.YtfapeemdlphjbaaDoorLawDutyTenants
import Derived.Test.YtfapeemdlphjbaaDoorCards
import Derived.Test.YtfapeemdlphjbaaDoorTie
import Derived.SevenTiedAt
namespace Go.Proofs.YtfapeemdlphjbaaDoor
open Go
set_option maxRecDepth 100000 in
theorem dutyTenantsCard_holds : Rows.DutyTenantsCardSaid :=
  Claim7.holds_tied_plain_at .later [] [.data] true Rows.dutyTenantsCard.stood.harness false
    dutyTenants_holds (fun _ h => by cases h) (by kernel_rfl) (fun _ h => by cases h) dutyTenants_row_tie rfl ⟨rfl, rfl⟩ (by kernel_rfl) (by kernel_rfl)
    (fun f fn hf hfn => by
      obtain rfl : f = 5 := Option.some.inj ((show Tryd.prog.funcNamed "clerestory/clerestorylaw15.DutyTenants" = some 5 by kernel_rfl).symm.trans hf) |>.symm
      obtain rfl : fn = Tryd.f5 := (Option.some.inj (Tryd.func5.symm.trans hfn)).symm
      exact ⟨by kernel_rfl, fun j t ht => by
        rw [Tryd.params5] at ht
        have h3 : t = 22 ∨ t = 25 := by
          rcases j with _ | _ | j
          · exact .inl (by simpa using ht.symm)
          · exact .inr (by simpa using ht.symm)
          · simp at ht
        rcases h3 with rfl | rfl
        · exact (show Tryd.prog.wantsStandIn 22 = false by kernel_rfl)
        · exact (show Tryd.prog.wantsStandIn 25 = false by kernel_rfl)⟩)
    (by kernel_rfl)
#print axioms dutyTenantsCard_holds
end Go.Proofs.YtfapeemdlphjbaaDoor
