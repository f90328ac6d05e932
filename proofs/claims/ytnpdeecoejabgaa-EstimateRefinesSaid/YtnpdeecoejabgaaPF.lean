/- PLAIN LAWS, 6: from a law's row to its function's contract. -/
import Derived.Test.YtnpdeecoejabgaaPB
import Derived.Test.YtnpdeecoejabgaaFAH
set_option maxRecDepth 100000
set_option linter.unusedVariables false
namespace Go.Proofs.Ytnpdeecoejabgaa
open Go Go.RowKit

theorem TCall.ok_wf {c : TCall} (h : c.ok) : c.wf := by
  unfold TCall.ok at h
  exact ⟨h.1, h.2.1, h.2.2.1, h.2.2.2.1, h.2.2.2.2.1, h.2.2.2.2.2.1, h.2.2.2.2.2.2.1, h.2.2.2.2.2.2.2.1, h.2.2.2.2.2.2.2.2.1, h.2.2.2.2.2.2.2.2.2⟩
theorem TTree.ok_wf {t : TTree} (h : t.ok) : t.wf := by
  unfold TTree.ok at h
  exact ⟨h.1, h.2.1, fun c hc => TCall.ok_wf (h.2.2.2 c hc)⟩
theorem TStory.ok_wf {s : TStory} (h : s.ok) : s.wf := by
  unfold TStory.ok at h
  obtain ⟨h1, h2, h3, h4⟩ := h
  unfold TA24.ok at h2
  exact ⟨fun t ht => TTree.ok_wf (h1.2 t ht), h1.1, h2.1, h2.2.1, h2.2.2.1, h2.2.2.2, h4⟩
theorem TA28.ok_wf {a : TA28} (h : a.ok) : a.wf := by
  unfold TA28.ok at h
  exact ⟨h.1, h.2.1, h.2.2⟩

/-- What a law asks of its function: for all arguments that can be read it returns true. -/
def SLaw (ts : List TypeId) : FSpec := fun args K => ∃ xs, ArgsT Try.prog ts xs ∧ args = packs Try.prog ts xs ∧ K (.one (.d (.bool true))) []

theorem COK.imp {P : Program} {f : Nat} {S S' : FSpec} (h : COK P f S) (hs : ∀ args K, S' args K → S args K) : COK P f S' :=
  fun w X ob args vs K h1 h2 h3 h4 h5 => h w X ob args vs K h1 h2 h3 h4 (hs _ _ h5)

end Go.Proofs.Ytnpdeecoejabgaa
