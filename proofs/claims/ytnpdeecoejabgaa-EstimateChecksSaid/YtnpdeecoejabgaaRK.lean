/- EstimateChecks: its function returns true. -/
import Derived.Test.YtnpdeecoejabgaaPFS
import Derived.Test.YtnpdeecoejabgaaPK
set_option maxRecDepth 100000
set_option linter.unusedSimpArgs false
set_option linter.unusedVariables false
namespace Go.Proofs.Ytnpdeecoejabgaa
open Go Go.RowKit

theorem W31_eq (l : List TTrace) : W31 l = W30 l := rfl

theorem W29_of {x : TSpan} {K : Bool → Prop} (h : ∀ r, (r = true → SpanFits x) → K r) : W29 x K := by
  unfold W29 W52
  have bad : J52_1 K x true := by
    unfold J52_1
    exact ⟨fun _ => h _ (by simp), fun h => by cases h⟩
  refine cond_dec (fun _ => bad) fun h1 => cond_dec (fun _ => bad) fun h2 => cond_dec (fun _ => bad) fun h3 => cond_dec (fun _ => bad) fun h4 => ?_
  by_cases h5 : (x.operation.size : Int) > 100
  · rw [decide_eq_true h5]; exact bad
  · rw [decide_eq_false h5]
    unfold J52_1
    refine ⟨fun h => (by cases h), fun _ => ?_⟩
    refine loop_idx x.attrs.length (fun i v => v = (i : Int) ∧ ∀ (j : Nat) a, j < i → x.attrs[j]? = some a → lenOk a.key ∧ lenOk a.value.text) ⟨rfl, fun j a h => by omega⟩ ?_
    rintro i v N hi ⟨rfl, hI⟩ hN
    unfold L52_2
    refine cond_dec (fun hlt => idx_nat (by omega) fun a ha => ?_) fun hge => ?_
    · have no : J52_3 K N (i : Int) true := by
        unfold J52_3
        exact ⟨fun _ => h _ (by simp), fun h => by cases h⟩
      refine cond_dec (fun _ => no) fun h6 => ?_
      by_cases h7 : (a.value.text.size : Int) > 100
      · rw [decide_eq_true h7]; exact no
      · rw [decide_eq_false h7]
        unfold J52_3
        refine ⟨fun h => (by cases h), fun _ => ?_⟩
        rw [w64_in (by omega) (by omega)]
        refine hN _ (by omega) ⟨by simp, fun j b hj hb => ?_⟩
        by_cases e : j = i
        · subst e; rw [ha] at hb; cases hb
          unfold lenOk; omega
        · exact hI j b (by omega) hb
    · refine h _ fun _ => ⟨by unfold lenOk; omega, by unfold lenOk; omega, by unfold lenOk; omega, by omega, by omega, fun a ha => ?_⟩
      obtain ⟨j, hj⟩ := List.getElem?_of_mem ha
      have := (List.getElem?_eq_some_iff.1 hj).1
      exact hI j a (by omega) hj

theorem W9_of {l : List TTrace} {s : TStory} (hw : s.wf) {K : Bool → Prop} (h : K true) : W9 l s K := by
  unfold W9
  have yes : J9_1 K l s true := by
    unfold J9_1
    exact ⟨fun _ => W12_of h, fun h => by cases h⟩
  refine W12_of (cond_not (fun h => by cases h) fun _ => cond_dec (fun _ => yes) fun h3 => W16_of hw fun r hr => ?_)
  cases r with
  | false => exact yes
  | true =>
    have hs := hr rfl
    unfold J9_1
    refine ⟨fun h => (by cases h), fun _ => ?_⟩
    refine loop_idx l.length (fun i v => v = (i : Int) ∧ ∀ (j : Nat) t, j < i → l[j]? = some t → t.spans.length ≤ 4 ∧ ∀ x ∈ t.spans, SpanFits x) ⟨rfl, fun j t h => by omega⟩ ?_
    rintro i v N hi ⟨rfl, hI⟩ hN
    unfold L9_2
    refine cond_dec (fun hlt => idx_nat (by omega) fun t ht => cond_dec (fun _ => h) fun h4 => ?_) fun hge => ?_
    · refine loop_idx t.spans.length (fun k v => v = (k : Int) ∧ ∀ (j : Nat) x, j < k → t.spans[j]? = some x → SpanFits x) ⟨rfl, fun j x h => by omega⟩ ?_
      rintro k v N' hk ⟨rfl, hJ⟩ hN'
      unfold L9_3
      refine cond_dec (fun hlt2 => idx_nat (by omega) fun x hx => W29_of fun r hr => cond_not (fun _ => h) fun hrt => ?_) fun hge2 => ?_
      · rw [w64_in (by omega) (by omega)]
        refine hN' _ (by omega) ⟨by simp, fun j y hj hy => ?_⟩
        by_cases e : j = k
        · subst e; rw [hx] at hy; cases hy; exact hr hrt
        · exact hJ j y (by omega) hy
      · rw [w64_in (by omega) (by omega)]
        refine hN _ (by omega) ⟨by simp, fun j u hj hu => ?_⟩
        by_cases e : j = i
        · subst e; rw [ht] at hu; cases hu
          refine ⟨by omega, fun x hx => ?_⟩
          obtain ⟨j, hj⟩ := List.getElem?_of_mem hx
          have := (List.getElem?_eq_some_iff.1 hj).1
          exact hJ j x (by omega) hj
        · exact hI j u (by omega) hu
    · have all : ∀ t ∈ l, t.spans.length ≤ 4 ∧ ∀ x ∈ t.spans, SpanFits x := fun t ht => by
        obtain ⟨j, hj⟩ := List.getElem?_of_mem ht
        have := (List.getElem?_eq_some_iff.1 hj).1
        exact hI j t (by omega) hj
      obtain ⟨r, hr⟩ := W30_det l (by omega) (fun t ht => by have := (all t ht).1; omega) (fun t ht => (all t ht).2)
      refine hr _ ?_
      rw [W31_eq]
      refine hr _ (cond_dec (fun _ => ?_) fun hn => absurd rfl hn)
      refine W17_of hw hs fun l0 hl0 => W30_story hw hs hl0 ?_
      unfold J9_4
      exact h

end Go.Proofs.Ytnpdeecoejabgaa
