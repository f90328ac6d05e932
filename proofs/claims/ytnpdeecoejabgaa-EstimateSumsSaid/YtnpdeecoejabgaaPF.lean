/- PLAIN LAWS: from a law's row to its function's contract. -/
import Derived.Test.YtnpdeecoejabgaaPA
import Derived.Test.YtnpdeecoejabgaaFAH
set_option maxRecDepth 100000
set_option linter.unusedSimpArgs false
set_option linter.unusedVariables false
namespace Go.Proofs.Ytnpdeecoejabgaa
open Go Go.RowKit

/-- What a law asks of its function: for all arguments that can be read it returns true. -/
def SLaw (ts : List TypeId) : FSpec := fun args K => ∃ xs, ArgsT Try.prog ts xs ∧ args = packs Try.prog ts xs ∧ K (.one (.d (.bool true))) []

theorem argsT1 {P : Program} {a : Nat} {xs : List (List C)} (h : ArgsT P [a] xs) : ∃ x1, xs = [x1] ∧ HasT P 8 a x1 := by
  match xs, h with
  | [x1], ⟨h1, _⟩ => exact ⟨x1, rfl, h1⟩
theorem argsT2 {P : Program} {a b : Nat} {xs : List (List C)} (h : ArgsT P [a, b] xs) : ∃ x1 x2, xs = [x1, x2] ∧ HasT P 8 a x1 ∧ HasT P 8 b x2 := by
  match xs, h with
  | [x1, x2], ⟨h1, h2, _⟩ => exact ⟨x1, x2, rfl, h1, h2⟩
theorem argsT3 {P : Program} {a b c : Nat} {xs : List (List C)} (h : ArgsT P [a, b, c] xs) : ∃ x1 x2 x3, xs = [x1, x2, x3] ∧ HasT P 8 a x1 ∧ HasT P 8 b x2 ∧ HasT P 8 c x3 := by
  match xs, h with
  | [x1, x2, x3], ⟨h1, h2, h3, _⟩ => exact ⟨x1, x2, x3, rfl, h1, h2, h3⟩
theorem argsT4 {P : Program} {a b c d : Nat} {xs : List (List C)} (h : ArgsT P [a, b, c, d] xs) : ∃ x1 x2 x3 x4, xs = [x1, x2, x3, x4] ∧ HasT P 8 a x1 ∧ HasT P 8 b x2 ∧ HasT P 8 c x3 ∧ HasT P 8 d x4 := by
  match xs, h with
  | [x1, x2, x3, x4], ⟨h1, h2, h3, h4, _⟩ => exact ⟨x1, x2, x3, x4, rfl, h1, h2, h3, h4⟩

theorem COK.imp {P : Program} {f : Nat} {S S' : FSpec} (h : COK P f S) (hs : ∀ args K, S' args K → S args K) : COK P f S' :=
  fun w X ob args vs K h1 h2 h3 h4 h5 => h w X ob args vs K h1 h2 h3 h4 (hs _ _ h5)

end Go.Proofs.Ytnpdeecoejabgaa
