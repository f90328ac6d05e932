/- EstimateSums (layer 25) is proved, without conditions: for every story, any three weights and any count the statement function returns true and leaves its input as it was. -/
import Derived.Test.YtnpdeecoejabgaaRS
import Derived.Test.YtnpdeecoejabgaaPF
import Derived.Test.YtnpdeecoejabgaaRows
import Derived.JoinedOf
set_option maxRecDepth 100000
set_option linter.unusedVariables false
namespace Go.Proofs.Ytnpdeecoejabgaa
open Go Go.RowKit Go.ChangeShapes Go.WideShapes

theorem sums_cok : COK Try.prog 11 (SLaw [27, 28, 3]) := by
  refine ok11.imp fun args K => ?_
  rintro ⟨xs, hx, rfl, hK⟩
  obtain ⟨x1, x2, x3, rfl, h1, h2, h3⟩ := argsT3 hx
  obtain ⟨s, rfl, hs⟩ := has_TStory (n := 2) h1
  obtain ⟨a, rfl, ha⟩ := has_TA28 (n := 6) h2
  obtain ⟨b, rfl, hb⟩ := has_i643 (n := 7) h3
  exact ⟨s, a, b, fun r => r = true, by kernel_rfl, W11_of (TStory.ok_wf hs) (TA28.ok_wf ha) rfl, fun r hr => by rw [hr]; exact hK⟩

theorem sums_own : ownKnob Try.prog.godebug = none := by kernel_rfl
def zeroOf (P : Program) (t : Nat) : Value := ((P.info? t).bind (·.zero)).getD undef
theorem sums_lifted (os : Os) (started : os.Started) (H : Type) (enc : TypeId × Value → H) :
    ReturnsInHanded {} Try.checked os 11 .any (Rows.estimateSumsSpec.pre6 enc Try.prog Try.f11 Rows.estimateSumsRow.domain false) (Rows.estimateSumsSpec.post enc Try.prog Try.f11 false true false false) := by
  refine returnsInHanded_of_change_sized (C := Try.checked) sums_own started (by kernel_rfl) Try.func11
    (ChangeSpec.witness6 (enc := enc) (C := Try.checked) false ⟨#[], #[zeroOf Try.prog 27, zeroOf Try.prog 28, zeroOf Try.prog 3], []⟩ 8 (by kernel_rfl) (by kernel_rfl) (by kernel_rfl) (by kernel_rfl)) ?_
  refine law_contract sums_cok rfl (fun H ds hl => ?_) (fun xs K h hk => ⟨xs, h, rfl, hk⟩) (by kernel_rfl) (by kernel_rfl) (by kernel_rfl) ⟨4, by kernel_rfl, by kernel_rfl⟩ enc
  have h2 : ds.length = 3 := hl
  match ds, h2 with
  | [d1, d2, d3], _ => rfl

theorem sums_holds : Rows.EstimateSumsSaid :=
  OpenClaim.holds_of_wide 11 Try.f11 rfl rfl rfl rfl rfl rfl rfl ⟨rfl, rfl, rfl, rfl, rfl⟩ rfl rfl rfl rfl rfl (by kernel_rfl) Try.func11 (by kernel_rfl)
    (of_decide_eq_true (by kernel_rfl)) (by unfold Func.isWrapper; first | (rw [if_pos (by decide +kernel)]; kernel_rfl) | (rw [if_neg (by decide +kernel)]; exact ⟨rfl, rfl⟩))
    (fun os started H enc _ => sums_lifted os started H enc)

end Go.Proofs.Ytnpdeecoejabgaa
#print axioms Go.Proofs.Ytnpdeecoejabgaa.sums_holds
