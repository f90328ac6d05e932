/- EstimateChecks (layer 25) is proved, without conditions: for every traces and story the statement function returns true and leaves its input as it was. -/
import Derived.Test.YtnpdeecoejabgaaRK
import Derived.Test.YtnpdeecoejabgaaPF
import Derived.Test.YtnpdeecoejabgaaRows
import Derived.JoinedOf
set_option maxRecDepth 100000
set_option linter.unusedVariables false
namespace Go.Proofs.Ytnpdeecoejabgaa
open Go Go.RowKit Go.ChangeShapes Go.WideShapes

theorem checks_cok : COK Try.prog 9 (SLaw [30, 27]) := by
  refine ok9.imp fun args K => ?_
  rintro ⟨xs, hx, rfl, hK⟩
  obtain ⟨x1, x2, rfl, h1, h2⟩ := argsT2 hx
  obtain ⟨l, rfl, _⟩ := has_sl30 (n := 0) h1
  obtain ⟨s, rfl, hs⟩ := has_TStory (n := 2) h2
  exact ⟨l, s, fun r => r = true, by kernel_rfl, W9_of (TStory.ok_wf hs) rfl, fun r hr => by rw [hr]; exact hK⟩

theorem checks_own : ownKnob Try.prog.godebug = none := by kernel_rfl
def zeroOf (P : Program) (t : Nat) : Value := ((P.info? t).bind (·.zero)).getD undef
theorem checks_lifted (os : Os) (started : os.Started) (H : Type) (enc : TypeId × Value → H) :
    ReturnsInHanded {} Try.checked os 9 .any (Rows.estimateChecksSpec.pre6 enc Try.prog Try.f9 Rows.estimateChecksRow.domain false) (Rows.estimateChecksSpec.post enc Try.prog Try.f9 false true false false) := by
  refine returnsInHanded_of_change_sized (C := Try.checked) checks_own started (by kernel_rfl) Try.func9
    (ChangeSpec.witness6 (enc := enc) (C := Try.checked) false ⟨#[], #[zeroOf Try.prog 30, zeroOf Try.prog 27], []⟩ 8 (by kernel_rfl) (by kernel_rfl) (by kernel_rfl) (by kernel_rfl)) ?_
  refine law_contract checks_cok rfl (fun H ds hl => ?_) (fun xs K h hk => ⟨xs, h, rfl, hk⟩) (by kernel_rfl) (by kernel_rfl) (by kernel_rfl) ⟨4, by kernel_rfl, by kernel_rfl⟩ enc
  have h2 : ds.length = 2 := hl
  match ds, h2 with
  | [d1, d2], _ => rfl

theorem checks_holds : Rows.EstimateChecksSaid :=
  OpenClaim.holds_of_wide 9 Try.f9 rfl rfl rfl rfl rfl rfl rfl ⟨rfl, rfl, rfl, rfl, rfl⟩ rfl rfl rfl rfl rfl (by kernel_rfl) Try.func9 (by kernel_rfl)
    (of_decide_eq_true (by kernel_rfl)) (by unfold Func.isWrapper; first | (rw [if_pos (by decide +kernel)]; kernel_rfl) | (rw [if_neg (by decide +kernel)]; exact ⟨rfl, rfl⟩))
    (fun os started H enc _ => checks_lifted os started H enc)

end Go.Proofs.Ytnpdeecoejabgaa
#print axioms Go.Proofs.Ytnpdeecoejabgaa.checks_holds
