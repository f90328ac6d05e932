/- EstimateLimits (layer 25) is proved, without conditions: for any three strings the statement function returns true and leaves its input as it was. -/
import Derived.Test.YtnpdeecoejabgaaRL
import Derived.Test.YtnpdeecoejabgaaPF
import Derived.Test.YtnpdeecoejabgaaRows
import Derived.JoinedOf
set_option maxRecDepth 100000
set_option linter.unusedVariables false
namespace Go.Proofs.Ytnpdeecoejabgaa
open Go Go.RowKit Go.ChangeShapes Go.WideShapes

theorem limits_cok : COK Try.prog 10 (SLaw [9, 9, 9]) := by
  refine ok10.imp fun args K => ?_
  rintro ⟨xs, hx, rfl, hK⟩
  obtain ⟨x1, x2, x3, rfl, h1, h2, h3⟩ := argsT3 hx
  obtain ⟨a, rfl, ha⟩ := has_string9 (n := 7) h1
  obtain ⟨b, rfl, hb⟩ := has_string9 (n := 7) h2
  obtain ⟨c, rfl, hc⟩ := has_string9 (n := 7) h3
  exact ⟨a, b, c, fun r => r = true, by kernel_rfl, W10_of rfl, fun r hr => by rw [hr]; exact hK⟩

theorem limits_own : ownKnob Try.prog.godebug = none := by kernel_rfl
def zeroOf (P : Program) (t : Nat) : Value := ((P.info? t).bind (·.zero)).getD undef
theorem limits_lifted (os : Os) (started : os.Started) (H : Type) (enc : TypeId × Value → H) :
    ReturnsInHanded {} Try.checked os 10 .any (Rows.estimateLimitsSpec.pre6 enc Try.prog Try.f10 Rows.estimateLimitsRow.domain false) (Rows.estimateLimitsSpec.post enc Try.prog Try.f10 false true false false) := by
  refine returnsInHanded_of_change_sized (C := Try.checked) limits_own started (by kernel_rfl) Try.func10
    (ChangeSpec.witness6 (enc := enc) (C := Try.checked) false ⟨#[], #[zeroOf Try.prog 9, zeroOf Try.prog 9, zeroOf Try.prog 9], []⟩ 8 (by kernel_rfl) (by kernel_rfl) (by kernel_rfl) (by kernel_rfl)) ?_
  refine law_contract limits_cok rfl (fun H ds hl => ?_) (fun xs K h hk => ⟨xs, h, rfl, hk⟩) (by kernel_rfl) (by kernel_rfl) (by kernel_rfl) ⟨4, by kernel_rfl, by kernel_rfl⟩ enc
  have h2 : ds.length = 3 := hl
  match ds, h2 with
  | [d1, d2, d3], _ => rfl

theorem limits_holds : Rows.EstimateLimitsSaid :=
  OpenClaim.holds_of_wide 10 Try.f10 rfl rfl rfl rfl rfl rfl rfl ⟨rfl, rfl, rfl, rfl, rfl⟩ rfl rfl rfl rfl rfl (by kernel_rfl) Try.func10 (by kernel_rfl)
    (of_decide_eq_true (by kernel_rfl)) (by unfold Func.isWrapper; first | (rw [if_pos (by decide +kernel)]; kernel_rfl) | (rw [if_neg (by decide +kernel)]; exact ⟨rfl, rfl⟩))
    (fun os started H enc _ => limits_lifted os started H enc)

end Go.Proofs.Ytnpdeecoejabgaa
#print axioms Go.Proofs.Ytnpdeecoejabgaa.limits_holds
