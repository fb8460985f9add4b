import Derived.Test.YtfapeemdlphjbaaDoorLawDutyMore
import Derived.Test.YtfapeemdlphjbaaDoorCards
import Derived.Test.YtfapeemdlphjbaaDoorTie
import Derived.SevenTiedAt
namespace Go.Proofs.YtfapeemdlphjbaaDoor
open Go
set_option maxRecDepth 100000 in
theorem dutyMoreCard_holds : Rows.DutyMoreCardSaid :=
  Claim7.holds_tied_plain_at .later [] [.data] true Rows.dutyMoreCard.stood.harness false
    dutyMore_holds (fun _ h => by cases h) (by kernel_rfl) (fun _ h => by cases h) dutyMore_row_tie rfl ⟨rfl, rfl⟩ (by kernel_rfl) (by kernel_rfl)
    (fun f fn hf hfn => by
      obtain rfl : f = 4 := Option.some.inj ((show Tryd.prog.funcNamed "clerestory/clerestorylaw15.DutyMore" = some 4 by kernel_rfl).symm.trans hf) |>.symm
      obtain rfl : fn = Tryd.f4 := (Option.some.inj (Tryd.func4.symm.trans hfn)).symm
      exact ⟨by kernel_rfl, fun j t ht => by
        rw [Tryd.params4] at ht
        have h3 : t = 22 ∨ t = 31 ∨ t = 3 := by
          rcases j with _ | _ | _ | j
          · exact .inl (by simpa using ht.symm)
          · exact .inr (.inl (by simpa using ht.symm))
          · exact .inr (.inr (by simpa using ht.symm))
          · simp at ht
        rcases h3 with rfl | rfl | rfl
        · exact (show Tryd.prog.wantsStandIn 22 = false by kernel_rfl)
        · exact (show Tryd.prog.wantsStandIn 31 = false by kernel_rfl)
        · exact (show Tryd.prog.wantsStandIn 3 = false by kernel_rfl)⟩)
    (by kernel_rfl)
#print axioms dutyMoreCard_holds
end Go.Proofs.YtfapeemdlphjbaaDoor
