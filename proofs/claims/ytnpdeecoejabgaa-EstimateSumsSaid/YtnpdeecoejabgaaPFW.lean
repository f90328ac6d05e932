/- PLAIN LAWS, a weighting that can be read is well formed. -/
import Derived.Test.YtnpdeecoejabgaaPBW
import Derived.Test.YtnpdeecoejabgaaPFS
set_option maxRecDepth 100000
set_option linter.unusedSimpArgs false
set_option linter.unusedVariables false
namespace Go.Proofs.Ytnpdeecoejabgaa
open Go Go.RowKit

theorem TA28.ok_wf {a : TA28} (h : a.ok) : a.wf := by
  unfold TA28.ok at h
  exact ⟨h.1, h.2.1, h.2.2⟩

end Go.Proofs.Ytnpdeecoejabgaa
