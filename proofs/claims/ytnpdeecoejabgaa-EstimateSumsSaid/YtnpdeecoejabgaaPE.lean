/- PLAIN LAWS, 5: the examples of the document hold. -/
import Derived.Test.YtnpdeecoejabgaaPD
set_option maxRecDepth 100000
set_option linter.unusedSimpArgs false
set_option linter.unusedVariables false
namespace Go.Proofs.Ytnpdeecoejabgaa
open Go Go.RowKit

/-! ### The examples -/
def exL : List TTrace := [(TTrace.mk 5 4 [(TSpan.mk 5 1 0 0 1 3 (⟨#[97, 112, 105]⟩ : ByteArray) (⟨#[118, 49]⟩ : ByteArray) (⟨#[103, 101, 116]⟩ : ByteArray) 0 10 false [] []), (TSpan.mk 5 2 0 0 1 3 (⟨#[97, 112, 105]⟩ : ByteArray) (⟨#[118, 50]⟩ : ByteArray) (⟨#[103, 101, 116]⟩ : ByteArray) 3 8 true [] [])])]
theorem exL_good : GoodL exL := by
  refine ⟨by decide, fun t ht => ?_⟩
  simp only [exL, List.mem_cons, List.not_mem_nil, or_false] at ht
  subst ht
  refine ⟨by decide, by decide, by decide, fun x hx => ?_⟩
  simp only [List.mem_cons, List.not_mem_nil, or_false] at hx
  rcases hx with rfl | rfl
  · exact ⟨by simp [svcs], by simp [vers], by simp [opss], by decide, by decide, by decide⟩
  · exact ⟨by simp [svcs], by simp [vers], by simp [opss], by decide, by decide, by decide⟩

def exA : TLine := ⟨⟨⟨#[97, 112, 105]⟩, eB, eB⟩, ⟨8, 4, 60, 4⟩⟩
def exB1 : TLine := ⟨⟨⟨#[97, 112, 105]⟩, ⟨#[118, 49]⟩, eB⟩, ⟨4, 0, 40, 4⟩⟩
def exB2 : TLine := ⟨⟨⟨#[97, 112, 105]⟩, ⟨#[118, 50]⟩, eB⟩, ⟨4, 4, 20, 4⟩⟩
theorem ex_by1 : (byMap 1 exL).map mkLine = [exA] := by decide
theorem ex_by2 : (byMap 2 exL).map mkLine = [exB1, exB2] := by decide

theorem perm_two {α : Type} {l : List α} {a b : α} (h : l.Perm [a, b]) : l = [a, b] ∨ l = [b, a] := by
  match l, h.length_eq with
  | [x, y], _ =>
    have hx : x ∈ [a, b] := h.subset (by simp)
    simp only [List.mem_cons, List.not_mem_nil, or_false] at hx
    rcases hx with rfl | rfl
    · have := List.perm_singleton.1 (List.Perm.cons_inv h)
      exact .inl (by simp at this; rw [this])
    · have := List.perm_singleton.1 (List.Perm.cons_inv (h.trans (List.Perm.swap _ _ _)))
      exact .inr (by simp at this; rw [this])

theorem sl_data (x y : ByteArray) : sl x y = Op.bytesLess x.data.toList y.data.toList := by unfold sl; rw [ByteArray.toList_eq, ByteArray.toList_eq]
theorem ex_less : gl exB1.group exB2.group := by
  rw [gl_iff]
  refine .inr ⟨rfl, .inl ?_⟩
  rw [sl_data]
  decide

theorem W12_of {K : Bool → Prop} (h : K true) : W12 K := by
  unfold W12 W36
  refine W14_of exL_good (by decide) (by decide) fun r1 p1 _ _ => ?_
  refine W14_of exL_good (by decide) (by decide) fun r2 p2 s2 _ => ?_
  rw [ex_by1] at p1
  rw [ex_by2] at p2
  have e1 := List.perm_singleton.1 p1
  have e2 : r2 = [exB1, exB2] := by
    rcases perm_two p2 with e | e
    · exact e
    · exfalso
      rw [e] at s2
      have := (List.pairwise_cons.1 s2).1 exB1 (by simp)
      exact this ex_less
  subst e1; subst e2
  have four : ∀ (i : Nat), i < 4 → ∃ x, ([(⟨#[115]⟩ : ByteArray), (⟨#[115]⟩ : ByteArray), (⟨#[116]⟩ : ByteArray), (⟨#[115]⟩ : ByteArray)])[i]? = some x := fun i hi => ⟨_, List.getElem?_eq_getElem (by simpa using hi)⟩
  refine loop_idx 4 (fun i (v : List TSpan × Int) => v.2 = (i : Int) + 1 ∧ v.1.map (fun x => x.service) = ([(⟨#[115]⟩ : ByteArray), (⟨#[115]⟩ : ByteArray), (⟨#[116]⟩ : ByteArray), (⟨#[115]⟩ : ByteArray)]).take i) ⟨rfl, rfl⟩ ?_
  rintro i ⟨l, v⟩ N hi ⟨rfl, g1⟩ hN
  dsimp only at g1 ⊢
  have hlen := congrArg List.length g1
  simp only [List.length_map, List.length_take, List.length_cons, List.length_nil] at hlen
  unfold L12_1
  refine cond_dec (fun hlt => ?_) fun hge => ?_
  · have e1 : w64 ((i : Int) + 1 - 1) = (i : Int) := by rw [w64_in (by omega) (by omega)]; omega
    have e2 : w64 ((i : Int) + 1 + 1) = (i : Int) + 1 + 1 := w64_in (by omega) (by omega)
    rw [e1, e2]
    refine idx_nat (by simp; omega) fun x hx => fits_of (by simp; omega) (hN _ (by omega) ⟨by simp, ?_⟩)
    dsimp only
    rw [take_snoc hx, List.map_append, g1]; rfl
  · have : i = 4 := by omega
    subst this
    refine W19_of ⟨by simp, ?_, by simp, ?_, by simp, ?_⟩ fun b lt hb hlt => ?_
    · intro t ht
      simp only [List.mem_cons, List.not_mem_nil, or_false] at ht
      subst ht; dsimp only; omega
    · intro x hx
      simp only [List.mem_cons, List.not_mem_nil, or_false] at hx
      subst hx; decide
    · intro x hx
      simp only [List.mem_cons, List.not_mem_nil, or_false] at hx
      subst hx; decide
    · have h3 : ∀ (l : List TSpan), sumI (spHit 0 (⟨#[115]⟩ : ByteArray) 3) l = sumI (fun s => if s = (⟨#[115]⟩ : ByteArray) then 1 else 0) (l.map fun x => x.service) := by
        intro l
        induction l with
        | nil => rfl
        | cons x l ih =>
          simp only [List.map_cons, sumI, ih]
          congr 1
          unfold spHit
          have : part 3 = 0 := by decide
          simp [this]
      have hb2 : b = 13 := by
        rw [hb]
        have : trHit 0 (⟨#[115]⟩ : ByteArray) (TTrace.mk 3 1 l) = 3 := by
          unfold trHit; dsimp only; rw [h3, g1]; decide
        simp only [sumI, this]
        decide
      have hlt2 : lt = 2 := by
        rw [hlt]
        show sumI (ltHit 0) [(TLate.mk 0 2)] = 2
        decide
      subst hb2; subst hlt2
      have r1 : (if (13 : Int) - 2 > 0 then (13 : Int) - 2 else 0, (13 : Int) + 2) = (11, 15) := by decide
      rw [r1]
      refine cond_dec (fun _ => cond_dec (fun _ => cond_dec (fun _ => ?_) fun hn => absurd (by decide) hn) fun hn => absurd (by decide) hn) fun hn => absurd (by decide) hn
      refine idx_of (by decide) (by decide) fun x hx => ?_
      have hx : x = exA := by simpa using hx.symm
      subst hx
      refine ⟨fun _ => ?_, fun hn => absurd hn (by decide)⟩
      refine cond_dec (fun _ => ?_) fun hn => absurd (by decide) hn
      refine idx_of (by decide) (by decide) fun x hx => ?_
      have hx : x = exB2 := by simpa using hx.symm
      subst hx
      refine ⟨fun _ => ?_, fun hn => absurd hn (by decide)⟩
      refine cond_dec (fun _ => ?_) fun hn => absurd (by decide) hn
      unfold J12_2
      exact h

end Go.Proofs.Ytnpdeecoejabgaa
