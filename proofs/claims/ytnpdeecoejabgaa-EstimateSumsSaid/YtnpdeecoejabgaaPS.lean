/- PLAIN LAWS, 1b: the stories of layer 13. -/
import Derived.Test.YtnpdeecoejabgaaPA
set_option maxRecDepth 100000
set_option linter.unusedSimpArgs false
set_option linter.unusedVariables false
namespace Go.Proofs.Ytnpdeecoejabgaa
open Go Go.RowKit

/-! ### What a story's data are -/
structure TCall.wf (c : TCall) : Prop where
  parent : 0 ≤ c.parent ∧ c.parent ≤ 255
  clock : 0 ≤ c.clock ∧ c.clock ≤ 255
  kind : 0 ≤ c.kind ∧ c.kind ≤ 255
  service : 0 ≤ c.service ∧ c.service ≤ 255
  version : 0 ≤ c.version ∧ c.version ≤ 255
  operation : 0 ≤ c.operation ∧ c.operation ≤ 255
  wait : 0 ≤ c.wait ∧ c.wait ≤ 255
  long : 0 ≤ c.long ∧ c.long ≤ 255
  link : 0 ≤ c.link ∧ c.link ≤ 255
  tag : 0 ≤ c.tag ∧ c.tag ≤ 255
structure TTree.wf (t : TTree) : Prop where
  slot : 0 ≤ t.slot ∧ t.slot ≤ 255
  start : 0 ≤ t.start ∧ t.start ≤ 255
  calls : ∀ c ∈ t.calls, c.wf
structure TStory.wf (s : TStory) : Prop where
  trees : ∀ t ∈ s.trees, t.wf
  len : s.trees.length ≤ 9223372036854775807
  e0 : -128 ≤ s.offsets.e0 ∧ s.offsets.e0 ≤ 127
  e1 : -128 ≤ s.offsets.e1 ∧ s.offsets.e1 ≤ 127
  e2 : -128 ≤ s.offsets.e2 ∧ s.offsets.e2 ≤ 127
  e3 : -128 ≤ s.offsets.e3 ∧ s.offsets.e3 ≤ 127
  wrong : 0 ≤ s.wrong ∧ s.wrong ≤ 255

structure Short (s : TStory) : Prop where
  trees : s.trees.length ≤ 3
  calls : ∀ t ∈ s.trees, t.calls.length ≤ 8


theorem W16_of {s : TStory} (hw : s.wf) {K : Bool → Prop} (h : ∀ r, (r = true → Short s) → K r) : W16 s K := by
  unfold W16
  refine loop_idx s.trees.length (fun i v => v = (i : Int) ∧ ∀ j t, j < i → s.trees[j]? = some t → t.calls.length ≤ 8) ⟨rfl, fun j t h => by omega⟩ ?_
  rintro i v N hi ⟨rfl, hI⟩ hN
  unfold L16_1
  have hlen := hw.len
  refine cond_dec (fun hlt => ?_) (fun hge => ?_)
  · refine idx_nat (by omega) fun x hx => cond_dec (fun _ => h false (by simp)) fun hle => ?_
    rw [w64_in (by omega) (by omega)]
    refine hN _ (by omega) ⟨by omega, fun j t hj ht => ?_⟩
    by_cases e : j = i
    · subst e; rw [hx] at ht; cases ht; omega
    · exact hI j t (by omega) ht
  · have e : i = s.trees.length := by omega
    refine cond_dec (fun h3 => ?_) (fun _ => ?_)
    · unfold J16_2
      refine h _ fun _ => ⟨by omega, fun t ht => ?_⟩
      obtain ⟨j, hj⟩ := List.getElem?_of_mem ht
      exact hI j t (by rw [e]; exact (List.getElem?_eq_some_iff.1 hj).1) hj
    · unfold J16_2; exact h _ (by simp)

theorem W83_of {c : TCall} (hc : c.wf) {K : Int → Prop} (h : ∀ k, 1 ≤ k → k ≤ 5 → k = 1 + c.kind.tmod 5 → K k) : W83 c K := by
  unfold W83
  have := tmod_in hc.kind.1 (show (0:Int) < 5 by omega)
  rw [w64_in (n := c.kind.tmod 5) (by omega) (by omega), w64_in (n := 1 + _) (by omega) (by omega)]
  exact h _ (by omega) (by omega) rfl

/-- The id of a trace. -/
def traceId (s : TStory) (k : Nat) (t : TTree) : Int := t.slot.tmod 64 * 1048576 + 1 + k

theorem W41_of {s : TStory} (hw : s.wf) {k : Nat} {t : TTree} (ht : s.trees[k]? = some t) (hk : k < 3) {K : Int → Prop} (h : K (traceId s k t)) : W41 s k K := by
  unfold W41
  have hlt := (List.getElem?_eq_some_iff.1 ht).1
  refine idx_nat hlt fun x hx => ?_
  rw [ht] at hx; cases hx
  have := tmod_in (hw.trees t (mem_of_get ht)).slot.1 (show (0:Int) < 64 by omega)
  rw [w64_in (n := t.slot.tmod 64) (by omega) (by omega), w64_in (n := _ * _) (by omega) (by omega), w64_in (n := _ + 1) (by omega) (by omega), w64_in (n := _ + (k : Int)) (by omega) (by omega)]
  exact h

/-! ### Times -/
theorem W68_of {t : TTree} (hw : t.wf) (hs : t.calls.length ≤ 8) {K : List Int × List Int → Prop}
    (h : ∀ st en : List Int, st.length = t.calls.length → en.length = t.calls.length → (∀ (j : Nat) (x y : Int), st[j]? = some x → en[j]? = some y → 1000 ≤ x ∧ x ≤ y ∧ y ≤ 2000) → K (st, en)) : W68 t K := by
  unfold W68
  have hst := tmod_in hw.start.1 (show (0:Int) < 32 by omega)
  refine loop_idx t.calls.length (fun i (v : List Int × List Int × Int) => v.2.2 = (i : Int) ∧ v.1.length = i ∧ v.2.1.length = i ∧ (∀ (j : Nat) (x y : Int), v.1[j]? = some x → v.2.1[j]? = some y → 1000 ≤ x ∧ x ≤ y ∧ y ≤ 1062 + 31 * j) ∧ ∀ (j : Nat) (x : Int), v.1[j]? = some x → 1000 ≤ x ∧ x ≤ 1031 + 31 * j) ⟨rfl, rfl, rfl, by simp, by simp⟩ ?_
  rintro i ⟨st, en, v⟩ N hi ⟨rfl, h1, h2, h3, h4⟩ hN
  dsimp only at h1 h2 h3 h4 ⊢
  unfold L68_1
  refine cond_dec (fun hlt => ?_) (fun hge => ?_)
  · refine idx_nat (by omega) fun c hc => ?_
    have hcw := hw.calls c (mem_of_get hc)
    have hl := tmod_in hcw.long.1 (show (0:Int) < 32 by omega)
    have hwt := tmod_in hcw.wait.1 (show (0:Int) < 32 by omega)
    have e1 : w64 ((i : Int) + 1) = (i : Int) + 1 := w64_in (by omega) (by omega)
    have e2 : w64 c.parent = c.parent := w64_in (by have := hcw.parent; omega) (by have := hcw.parent; omega)
    rw [e1, e2]
    have hp := tmod_in (m := (i : Int) + 1) hcw.parent.1 (by omega)
    refine ⟨by omega, ?_⟩
    -- from where
    have key : ∀ f : Int, 1000 ≤ f → f ≤ 1031 + 31 * (i : Int) → (i = 0 → f ≤ 1031) → (0 < i → f ≤ 1031 + 31 * ((i : Int) - 1)) → J68_2 (i : Int) st en c N f := by
      intro f hf1 hf2 hf4 hf3
      unfold J68_2
      have last : ∀ g : Int, 1000 ≤ g → g ≤ 1031 + 31 * (i : Int) → J68_3 st en c N (i : Int) g := by
        intro g hg1 hg2
        unfold J68_3
        rw [e1, w64_in (n := c.long.tmod 32) (by omega) (by omega), w64_in (n := g + _) (by omega) (by omega)]
        refine fits_of (by simp; omega) (fits_of (by simp; omega) (hN _ (by omega) ⟨by simp, by simp [h1], by simp [h2], ?_, ?_⟩))
        · intro j x y hx hy
          dsimp only at hx hy
          rcases Nat.lt_trichotomy j i with hj | hj | hj
          · rw [List.getElem?_append_left (by omega)] at hx hy
            exact h3 j x y hx hy
          · subst hj
            rw [List.getElem?_append_right (by omega)] at hx hy
            simp [h1, h2] at hx hy
            subst hx; subst hy; omega
          · have : j < (st ++ [g]).length := (List.getElem?_eq_some_iff.1 hx).1
            simp at this; omega
        · intro j x hx
          dsimp only at hx
          rcases Nat.lt_trichotomy j i with hj | hj | hj
          · rw [List.getElem?_append_left (by omega)] at hx
            exact h4 j x hx
          · subst hj
            rw [List.getElem?_append_right (by omega)] at hx
            simp [h1] at hx
            subst hx; omega
          · have : j < (st ++ [g]).length := (List.getElem?_eq_some_iff.1 hx).1
            simp at this; omega
      refine cond_dec (fun hpos => ?_) (fun hz => ?_)
      · have hf5 := hf3 (by omega)
        rw [w64_in (n := c.wait.tmod 32) (by omega) (by omega), w64_in (n := f + _) (by omega) (by omega)]
        exact last _ (by omega) (by omega)
      · exact last _ hf1 (by have := hf4 (by omega); omega)
    refine cond_dec (fun hpl => ?_) (fun hpl => ?_)
    · refine idx_of hp.1 (by rw [h1]; exact hpl) fun x hx => ?_
      have := h4 _ x hx
      exact key x this.1 (by omega) (by omega) (by intro _; omega)
    · rw [w64_in (n := t.start.tmod 32) (by omega) (by omega), w64_in (n := 1000 + _) (by omega) (by omega)]
      exact key _ (by omega) (by omega) (by omega) (by intro _; omega)
  · -- the second loop
    have e : i = t.calls.length := by omega
    subst e
    have h3' : ∀ (j : Nat) (x y : Int), st[j]? = some x → en[j]? = some y → 1000 ≤ x ∧ x ≤ y ∧ y ≤ 2000 := fun j x y hx hy => by
      have := h3 j x y hx hy
      have : j < st.length := (List.getElem?_eq_some_iff.1 hx).1
      omega
    refine loop_of (fun (v : List Int × Int) => v.1.length = t.calls.length ∧ -1 ≤ v.2 ∧ v.2 < t.calls.length ∧ ∀ (j : Nat) (x y : Int), st[j]? = some x → v.1[j]? = some y → 1000 ≤ x ∧ x ≤ y ∧ y ≤ 2000) (fun v => (v.2 + 1).toNat) ?_ ?_
    · refine ⟨h2, ?_, ?_, h3'⟩
      · dsimp only; rw [w64_in (by omega) (by omega)]; omega
      · dsimp only; rw [w64_in (by omega) (by omega)]; omega
    · rintro ⟨e, v⟩ N' ⟨g1, g2, g3, g4⟩ hN'
      dsimp only at g1 g2 g3 g4 ⊢
      unfold L68_4
      refine cond_dec (fun hpos => ?_) (fun _ => h st e h1 g1 g4)
      refine idx_of (by omega) (by omega) fun c hc => ?_
      have hcw := hw.calls c (mem_of_get hc)
      have e1 : w64 (v + 1) = v + 1 := w64_in (by omega) (by omega)
      have e2 : w64 c.parent = c.parent := w64_in (by have := hcw.parent; omega) (by have := hcw.parent; omega)
      rw [e1, e2]
      have hp := tmod_in (m := v + 1) hcw.parent.1 (by omega)
      refine ⟨by omega, ?_⟩
      have next : ∀ e' : List Int, e'.length = t.calls.length → (∀ (j : Nat) (x y : Int), st[j]? = some x → e'[j]? = some y → 1000 ≤ x ∧ x ≤ y ∧ y ≤ 2000) → J68_5 N' v e' := by
        intro e' k1 k2
        unfold J68_5
        rw [w64_in (by omega) (by omega)]
        exact hN' _ ⟨k1, by dsimp only; omega, by dsimp only; omega, k2⟩ (by dsimp only; omega)
      have no : J68_6 e c v N' false := by
        unfold J68_6
        exact ⟨fun h => (by cases h), fun _ => next e g1 g4⟩
      refine cond_dec (fun hpl => ?_) (fun _ => no)
      refine W83_of hcw fun k _ _ _ => cond_dec (fun _ => ?_) (fun _ => no)
      refine idx_of hp.1 (by omega) fun c' hc' => W83_of (hw.calls c' (mem_of_get hc')) fun k' _ _ _ => cond_dec (fun _ => ?_) (fun _ => no)
      unfold J68_6
      refine cond_not (fun _ => ?_) (fun _ => next e g1 g4)
      rw [e1, e2]
      refine idx_of hp.1 (by omega) fun x hx => idx_of (by omega) (by omega) fun y hy => next _ (by simp [g1]) fun j a b ha hb => ?_
      by_cases hj : j = (c.parent.tmod (v + 1)).toNat
      · subst hj
        rw [List.getElem?_set_self (by omega)] at hb
        have k1 := g4 _ a x ha hx
        have hys : v.toNat < st.length := by omega
        have k2 := g4 _ st[v.toNat] y (by simp [hys]) hy
        split at hb <;> · cases hb; omega
      · rw [List.getElem?_set_ne (fun e => hj e.symm)] at hb
        exact g4 j a b ha hb

end Go.Proofs.Ytnpdeecoejabgaa
