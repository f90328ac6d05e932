/- PLAIN LAWS: a story that can be read is well formed. -/
import Derived.Test.YtnpdeecoejabgaaPB
import Derived.Test.YtnpdeecoejabgaaPF
set_option maxRecDepth 100000
set_option linter.unusedSimpArgs false
set_option linter.unusedVariables false
namespace Go.Proofs.Ytnpdeecoejabgaa
open Go Go.RowKit

theorem TCall.ok_wf {c : TCall} (h : c.ok) : c.wf := by
  unfold TCall.ok at h
  exact ⟨h.1, h.2.1, h.2.2.1, h.2.2.2.1, h.2.2.2.2.1, h.2.2.2.2.2.1, h.2.2.2.2.2.2.1, h.2.2.2.2.2.2.2.1, h.2.2.2.2.2.2.2.2.1, h.2.2.2.2.2.2.2.2.2⟩
theorem TTree.ok_wf {t : TTree} (h : t.ok) : t.wf := by
  unfold TTree.ok at h
  exact ⟨h.1, h.2.1, fun c hc => TCall.ok_wf (h.2.2.2 c hc)⟩
theorem TStory.ok_wf {s : TStory} (h : s.ok) : s.wf := by
  unfold TStory.ok at h
  obtain ⟨h1, h2, h3, h4⟩ := h
  unfold TA24.ok at h2
  exact ⟨fun t ht => TTree.ok_wf (h1.2 t ht), h1.1, h2.1, h2.2.1, h2.2.2.1, h2.2.2.2, h4⟩

end Go.Proofs.Ytnpdeecoejabgaa
