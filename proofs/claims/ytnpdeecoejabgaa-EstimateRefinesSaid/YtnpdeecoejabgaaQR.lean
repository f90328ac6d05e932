/- EstimateRefines (layer 25) is proved, without conditions: for every story and any three weights the statement's function returns true and leaves its input as it was. -/
import Derived.Test.YtnpdeecoejabgaaPG
import Derived.Test.YtnpdeecoejabgaaPF
import Derived.Test.YtnpdeecoejabgaaRows
import Derived.JoinedOf
set_option maxRecDepth 100000
set_option linter.unusedVariables false
namespace Go.Proofs.Ytnpdeecoejabgaa
open Go Go.RowKit Go.ChangeShapes Go.WideShapes

theorem refines_cok : COK Try.prog 3 (SLaw [27, 28]) := by
  refine ok3.imp fun args K => ?_
  rintro ⟨xs, hx, rfl, hK⟩
  match xs, hx with
  | [x1, x2], ⟨h1, h2, _⟩ =>
    obtain ⟨s, rfl, hs⟩ := has_TStory (n := 2) h1
    obtain ⟨a, rfl, ha⟩ := has_TA28 (n := 6) h2
    exact ⟨s, a, fun r => r = true, by kernel_rfl, W3_of (TStory.ok_wf hs) (TA28.ok_wf ha) rfl, fun r hr => by rw [hr]; exact hK⟩

theorem refines_own : ownKnob Try.prog.godebug = none := by kernel_rfl
def zeroOf (P : Program) (t : Nat) : Value := ((P.info? t).bind (·.zero)).getD undef
theorem refines_lifted (os : Os) (started : os.Started) (H : Type) (enc : TypeId × Value → H) :
    ReturnsInHanded {} Try.checked os 3 .any (Rows.estimateRefinesSpec.pre6 enc Try.prog Try.f3 Rows.estimateRefinesRow.domain false) (Rows.estimateRefinesSpec.post enc Try.prog Try.f3 false true false false) := by
  refine returnsInHanded_of_change_sized (C := Try.checked) refines_own started (by kernel_rfl) Try.func3
    (ChangeSpec.witness6 (enc := enc) (C := Try.checked) false ⟨#[], #[zeroOf Try.prog 27, zeroOf Try.prog 28], []⟩ 8 (by kernel_rfl) (by kernel_rfl) (by kernel_rfl) (by kernel_rfl)) ?_
  refine law_contract refines_cok rfl (fun H ds hl => ?_) (fun xs K h hk => ⟨xs, h, rfl, hk⟩) (by kernel_rfl) (by kernel_rfl) (by kernel_rfl) ⟨4, by kernel_rfl, by kernel_rfl⟩ enc
  have h2 : ds.length = 2 := hl
  match ds, h2 with
  | [d1, d2], _ => rfl

theorem refines_holds : Rows.EstimateRefinesSaid :=
  OpenClaim.holds_of_wide 3 Try.f3 rfl rfl rfl rfl rfl rfl rfl ⟨rfl, rfl, rfl, rfl, rfl⟩ rfl rfl rfl rfl rfl (by kernel_rfl) Try.func3 (by kernel_rfl)
    (of_decide_eq_true (by kernel_rfl)) (by unfold Func.isWrapper; first | (rw [if_pos (by decide +kernel)]; kernel_rfl) | (rw [if_neg (by decide +kernel)]; exact ⟨rfl, rfl⟩))
    (fun os started H enc _ => refines_lifted os started H enc)

end Go.Proofs.Ytnpdeecoejabgaa
#print axioms Go.Proofs.Ytnpdeecoejabgaa.refines_holds
