/- plan.forms: the five forms, in a fresh row. Conditions: none. -/
import Derived.Test.YtpaioaljopjpkaaGreatDoorPlanG
import Derived.Test.YtpaioaljopjpkaaGreatDoorSpecC
set_option linter.unusedVariables false
set_option linter.unusedSimpArgs false
namespace Go.Proofs.YtpaioaljopjpkaaGreatDoor
open Go.RowKit

def formCells : Array Value := #[.string (ba (formTexts.getD 0 [])), .func (.func 115) #[] #[], .string (ba (formTexts.getD 1 [])), .func (.func 116) #[] #[], .string (ba (formTexts.getD 2 [])), .func (.func 117) #[] #[], .string (ba (formTexts.getD 3 [])), .func (.func 118) #[] #[], .string (ba (formTexts.getD 4 [])), .func (.func 119) #[] #[]]

set_option maxRecDepth 100000 in
theorem forms_calls (w : World) : Calls Tryz.prog 90 #[] w fun e w' => e = .returned (.slice (some ⟨w.heap.size, 0, none⟩) 5 5) ∧ w' = w.alloc (.cells formCells 180) := by
  go_enter Tryz.func90, Tryz.ntmps90
  go_wp2
  go_ret
  exact ⟨rfl, rfl⟩
end Go.Proofs.YtpaioaljopjpkaaGreatDoor
