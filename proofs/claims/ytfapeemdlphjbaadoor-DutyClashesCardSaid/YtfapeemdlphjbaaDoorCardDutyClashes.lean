import Derived.Test.YtfapeemdlphjbaaDoorLawDutyClashes
import Derived.Test.YtfapeemdlphjbaaDoorCards
import Derived.Test.YtfapeemdlphjbaaDoorTie
import Derived.SevenTiedAt
namespace Go.Proofs.YtfapeemdlphjbaaDoor
open Go
set_option maxRecDepth 100000 in
theorem dutyClashesCard_holds : Rows.DutyClashesCardSaid :=
  Claim7.holds_tied_plain_at .later [] [.data] true Rows.dutyClashesCard.stood.harness false
    dutyClashes_holds (fun _ h => by cases h) (by kernel_rfl) (fun _ h => by cases h) dutyClashes_row_tie rfl ⟨rfl, rfl⟩ (by kernel_rfl) (by kernel_rfl)
    (fun f fn hf hfn => by
      obtain rfl : f = 3 := Option.some.inj ((show Tryd.prog.funcNamed "clerestory/clerestorylaw15.DutyClashes" = some 3 by kernel_rfl).symm.trans hf) |>.symm
      obtain rfl : fn = Tryd.f3 := (Option.some.inj (Tryd.func3.symm.trans hfn)).symm
      exact ⟨by kernel_rfl, fun j t ht => by
        rw [Tryd.params3] at ht
        have h3 : t = 22 ∨ t = 3 := by
          rcases j with _ | _ | j
          · exact .inl (by simpa using ht.symm)
          · exact .inr (by simpa using ht.symm)
          · simp at ht
        rcases h3 with rfl | rfl
        · exact (show Tryd.prog.wantsStandIn 22 = false by kernel_rfl)
        · exact (show Tryd.prog.wantsStandIn 3 = false by kernel_rfl)⟩)
    (by kernel_rfl)
#print axioms dutyClashesCard_holds
end Go.Proofs.YtfapeemdlphjbaaDoor
