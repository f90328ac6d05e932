/- EstimateContains (layer 25) is proved, without conditions: for every story and any two numbers the statement's function returns true and leaves its input as it was. -/
import Derived.Test.YtnpdeecoejabgaaPE
import Derived.Test.YtnpdeecoejabgaaPF
import Derived.Test.YtnpdeecoejabgaaRows
import Derived.JoinedOf
set_option maxRecDepth 100000
set_option linter.unusedVariables false
namespace Go.Proofs.Ytnpdeecoejabgaa
open Go Go.RowKit Go.ChangeShapes Go.WideShapes

theorem contains_cok : COK Try.prog 4 (SLaw [27, 5, 5]) := by
  refine ok4.imp fun args K => ?_
  rintro ⟨xs, hx, rfl, hK⟩
  match xs, hx with
  | [x1, x2, x3], ⟨h1, h2, h3, _⟩ =>
    obtain ⟨s, rfl, hs⟩ := has_TStory (n := 2) h1
    obtain ⟨a, rfl, ha⟩ := has_u85 (n := 7) h2
    obtain ⟨b, rfl, hb⟩ := has_u85 (n := 7) h3
    exact ⟨s, a, b, fun r => r = true, by kernel_rfl, W4_of (TStory.ok_wf hs) hb.1 hb.2 rfl, fun r hr => by rw [hr]; exact hK⟩

theorem contains_own : ownKnob Try.prog.godebug = none := by kernel_rfl
def zeroOf (P : Program) (t : Nat) : Value := ((P.info? t).bind (·.zero)).getD undef
theorem contains_lifted (os : Os) (started : os.Started) (H : Type) (enc : TypeId × Value → H) :
    ReturnsInHanded {} Try.checked os 4 .any (Rows.estimateContainsSpec.pre6 enc Try.prog Try.f4 Rows.estimateContainsRow.domain false) (Rows.estimateContainsSpec.post enc Try.prog Try.f4 false true false false) := by
  refine returnsInHanded_of_change_sized (C := Try.checked) contains_own started (by kernel_rfl) Try.func4
    (ChangeSpec.witness6 (enc := enc) (C := Try.checked) false ⟨#[], #[zeroOf Try.prog 27, zeroOf Try.prog 5, zeroOf Try.prog 5], []⟩ 8 (by kernel_rfl) (by kernel_rfl) (by kernel_rfl) (by kernel_rfl)) ?_
  refine law_contract contains_cok rfl (fun H ds hl => ?_) (fun xs K h hk => ⟨xs, h, rfl, hk⟩) (by kernel_rfl) (by kernel_rfl) (by kernel_rfl) ⟨4, by kernel_rfl, by kernel_rfl⟩ enc
  have h2 : ds.length = 3 := hl
  match ds, h2 with
  | [d1, d2, d3], _ => rfl

theorem contains_holds : Rows.EstimateContainsSaid :=
  OpenClaim.holds_of_wide 4 Try.f4 rfl rfl rfl rfl rfl rfl rfl ⟨rfl, rfl, rfl, rfl, rfl⟩ rfl rfl rfl rfl rfl (by kernel_rfl) Try.func4 (by kernel_rfl)
    (of_decide_eq_true (by kernel_rfl)) (by unfold Func.isWrapper; first | (rw [if_pos (by decide +kernel)]; kernel_rfl) | (rw [if_neg (by decide +kernel)]; exact ⟨rfl, rfl⟩))
    (fun os started H enc _ => contains_lifted os started H enc)

end Go.Proofs.Ytnpdeecoejabgaa
#print axioms Go.Proofs.Ytnpdeecoejabgaa.contains_holds
