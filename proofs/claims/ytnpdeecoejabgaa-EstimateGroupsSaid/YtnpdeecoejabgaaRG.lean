/- EstimateGroups: its function returns true. -/
import Derived.Test.YtnpdeecoejabgaaPI
set_option maxRecDepth 100000
set_option linter.unusedSimpArgs false
set_option linter.unusedVariables false
namespace Go.Proofs.Ytnpdeecoejabgaa
open Go Go.RowKit

theorem W5_of {s : TStory} (hw : s.wf) {a : TA28} (ha : a.wf) {level : Int} {K : Bool → Prop} (h : K true) : W5 s a level K := by
  unfold W5
  refine W12_of (cond_not (fun h => by cases h) fun _ => W13_of hw ha fun l hl => ?_)
  have hl3 := hl.len
  have bad : (level < 1 ∨ 3 < level) → J5_1 l level K true := fun hb => by
    unfold J5_1
    refine ⟨fun _ => W14_bad hb (W20_bad hb ?_), fun h => (by cases h)⟩
    refine cond_dec (fun _ => cond_dec (fun _ => cond_dec (fun _ => ?_) fun hn => absurd rfl hn) fun hn => absurd rfl hn) fun hn => absurd rfl hn
    unfold J5_2
    exact h
  refine cond_dec (fun h1 => bad (.inl h1)) fun h1 => ?_
  by_cases h3 : level > 3
  · rw [decide_eq_true h3]; exact bad (.inr h3)
  · rw [decide_eq_false h3]
    have g1 : 1 ≤ level := by omega
    have g3 : level ≤ 3 := by omega
    unfold J5_1
    refine ⟨fun h => (by cases h), fun _ => ?_⟩
    refine loop_idx l.length (fun i (v : Int) => v = (i : Int)) rfl ?_
    rintro i v N hi rfl hN
    unfold L5_3
    refine cond_dec (fun hlt => ?_) fun _ => ?_
    · have hil : i < l.length := by omega
      have hti := List.getElem?_eq_getElem hil
      have h8 := (hl.all _ (List.getElem_mem hil)).len
      refine loop_idx (l[i]).spans.length (fun k (v : Int) => v = (k : Int)) rfl ?_
      rintro k v N' hk rfl hN'
      unfold L5_4
      refine idx_nat hil fun t ht => ?_
      rw [hti] at ht; cases ht
      refine cond_dec (fun hlt2 => ?_) fun _ => ?_
      · refine idx_nat (by omega) fun x hx => W20_of g1 g3 (cond_dec (fun hn => absurd rfl hn) fun _ => W21_of g1 g3 ?_)
        rw [eqG]
        unfold J5_5
        refine cond_not (fun hne => absurd rfl (of_decide_eq_false hne)) fun _ => ?_
        rw [w64_in (by omega) (by omega)]
        exact hN' _ (by omega) (by simp)
      · rw [w64_in (by omega) (by omega)]
        exact hN _ (by omega) (by simp)
    · refine W14_by hl g1 g3 fun r1 hr1 => cond_dec (fun _ => W23_of hl g1 g3 fun r2 hr2 => ?_) fun hn => absurd rfl hn
      have := hr1.eq hr2
      subst this
      refine W22_of (by have := isby_len hr1 (fun g hg => hasG_good hl hg); dsimp only; omega) fun r hr => ?_
      unfold J5_6
      rw [hr.2 rfl]; exact h

end Go.Proofs.Ytnpdeecoejabgaa
