import Derived.Test.YtipdmnfkigoanaaSpR
import Derived.Test.YtipdmnfkigoanaaIvP
import Derived.Shelf.SlSortCmp.NoneTotal
namespace Go.Proofs.Ytipdmnfkigoanaa
open Go.RowKit Go.Shelf



def cmpSp (x y : Sp) : Int := if x.1 < y.1 then -1 else if y.1 < x.1 then 1 else 0
theorem ltSp (x y : Sp) : ltOf cmpSp x y = decide (x.1 < y.1) := by
  unfold ltOf cmpSp
  by_cases h1 : x.1 < y.1
  · simp [h1]
  · by_cases h2 : y.1 < x.1 <;> simp [h1, h2]
theorem swoSp : Go.Sort.SWO (ltOf cmpSp) where
  irrefl x := by rw [ltSp]; simp
  trans x y z h1 h2 := by rw [ltSp] at *; simp at *; omega
  ntrans x y z h1 h2 := by rw [ltSp] at *; simp at *; omega

theorem flatK_sp (d : List Sp) : (Go.Sort.flatK spc 2 d.toArray) = (d.flatMap spc).toArray := by
  refine Go.Sort.ext_get! (by simp [flat_len spc 2 (fun _ => rfl)]) fun t ht => ?_
  have ht' : t < d.length * 2 := by simpa using ht
  rw [Go.Sort.get_flatK _ _ _ _ (by simpa using ht')]
  have hd : t / 2 < d.length := by omega
  have hc := flat_chunk spc 2 (fun _ => rfl) d (t / 2) hd
  have hl := flat_len spc 2 (fun _ => rfl) d
  rw [getElem!_pos d.toArray _ (by simpa using hd), getElem!_pos (d.flatMap spc).toArray t (by simp [hl]; omega)]
  simp only [List.getElem_toArray]
  rw [← hc, getElem!_pos _ (t % 2) (by simp [hl]; omega), List.getElem_take, List.getElem_drop]
  congr 1; omega

theorem isAggSp : ∀ w, (isAgg 63).run Try.prog w = .ok true w := Try.isAgg63
theorem sizeSp : ∀ w, (Go.sizeOf 63).run Try.prog w = .ok 2 w := Try.sizeOf63

end Go.Proofs.Ytipdmnfkigoanaa
