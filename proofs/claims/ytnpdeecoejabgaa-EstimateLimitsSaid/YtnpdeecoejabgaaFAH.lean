/- Typed data out of a reading of the arguments. Printed by a program of mine (gs.py). -/
import Derived.Test.YtnpdeecoejabgaaFAT
import Derived.Test.YtnpdeecoejabgaaProg
set_option maxRecDepth 100000
set_option linter.unusedVariables false
set_option linter.unusedSimpArgs false
namespace Go.Proofs.Ytnpdeecoejabgaa
open Go Go.RowKit

theorem has_string9 {n : Nat} {cs : List C} (h : HasT Try.prog (n + 1) 9 cs) : ∃ x, cs = [.str x] ∧ x.size ≤ 9223372036854775807 := hasT_str (P := Try.prog) (t := 9) (by kernel_rfl) h
theorem has_string9' {n : Nat} {cs : List C} (h : HasT Try.prog (n + 1) 9 cs) : ∃ x, cs = eStr x ∧ x.size ≤ 9223372036854775807 := has_string9 h

end Go.Proofs.Ytnpdeecoejabgaa
