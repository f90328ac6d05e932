/- PLAIN LAWS, 2b: traces with weights. -/
import Derived.Test.YtnpdeecoejabgaaPB
set_option maxRecDepth 100000
set_option linter.unusedSimpArgs false
set_option linter.unusedVariables false
namespace Go.Proofs.Ytnpdeecoejabgaa
open Go Go.RowKit

/-! ### Weights -/
structure TA28.wf (a : TA28) : Prop where
  e0 : 0 ≤ a.e0 ∧ a.e0 ≤ 255
  e1 : 0 ≤ a.e1 ∧ a.e1 ≤ 255
  e2 : 0 ≤ a.e2 ∧ a.e2 ≤ 255

theorem W13_of {s : TStory} (hw : s.wf) {a : TA28} (ha : a.wf) {K : List TTrace → Prop} (h : ∀ l, GoodL l → K l) : W13 s a K := by
  unfold W13
  refine W16_of hw fun r hr => cond_not (fun _ => h [] ⟨by simp, by simp⟩) fun hrt => W17_of hw (hr hrt) fun l0 hl0 => ?_
  have hl3 := hl0.len
  refine loop_idx l0.length (fun i (v : List TTrace × Int) => v.2 = (i : Int) ∧ v.1.length = l0.length ∧ GoodL v.1) ⟨rfl, rfl, hl0.good⟩ ?_
  rintro i ⟨l, v⟩ N hi ⟨rfl, g1, g2⟩ hN
  dsimp only at g1 g2 ⊢
  unfold L13_1
  refine cond_dec (fun hlt => ?_) (fun _ => h l g2)
  have m := tmod_in (n := (i : Int)) (by omega) (show (0:Int) < 3 by omega)
  refine idx_of m.1 (by simp; omega) fun x hx => idx_nat (by omega) fun t ht => ?_
  have hx : 0 ≤ x ∧ x ≤ 255 := by
    have := mem_of_get hx
    simp only [List.mem_cons, List.not_mem_nil, or_false] at this
    rcases this with rfl | rfl | rfl
    · exact ha.e0
    · exact ha.e1
    · exact ha.e2
  have m2 := tmod_in hx.1 (show (0:Int) < 16 by omega)
  rw [w64_in (n := x.tmod 16) (by omega) (by omega), w64_in (n := 1 + _) (by omega) (by omega), w64_in (n := (i : Int) + 1) (by omega) (by omega)]
  refine hN _ (by omega) ⟨by simp, by simp [g1], ⟨by simp; omega, fun y hy => ?_⟩⟩
  dsimp only at hy
  rcases List.mem_or_eq_of_mem_set hy with hy | rfl
  · exact g2.all y hy
  · have := g2.all t (mem_of_get ht)
    exact ⟨this.len, by dsimp only; omega, by dsimp only; omega, this.spans⟩

end Go.Proofs.Ytnpdeecoejabgaa
