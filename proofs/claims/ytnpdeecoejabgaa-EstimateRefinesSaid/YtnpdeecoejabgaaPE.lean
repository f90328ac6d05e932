/- PLAIN LAWS, 5: the examples hold; EstimateContains and EstimateRefines return true. -/
import Derived.Test.YtnpdeecoejabgaaPD
set_option maxRecDepth 100000
set_option linter.unusedSimpArgs false
set_option linter.unusedVariables false
namespace Go.Proofs.Ytnpdeecoejabgaa
open Go Go.RowKit

/-! ### The examples -/
def exL : List TTrace := [(TTrace.mk 5 4 [(TSpan.mk 5 1 0 0 1 3 (⟨#[97, 112, 105]⟩ : ByteArray) (⟨#[118, 49]⟩ : ByteArray) (⟨#[103, 101, 116]⟩ : ByteArray) 0 10 false [] []), (TSpan.mk 5 2 0 0 1 3 (⟨#[97, 112, 105]⟩ : ByteArray) (⟨#[118, 50]⟩ : ByteArray) (⟨#[103, 101, 116]⟩ : ByteArray) 3 8 true [] [])])]
theorem exL_good : GoodL exL := by
  refine ⟨by decide, fun t ht => ?_⟩
  simp only [exL, List.mem_cons, List.not_mem_nil, or_false] at ht
  subst ht
  refine ⟨by decide, by decide, by decide, fun x hx => ?_⟩
  simp only [List.mem_cons, List.not_mem_nil, or_false] at hx
  rcases hx with rfl | rfl
  · exact ⟨by simp [svcs], by simp [vers], by simp [opss], by decide, by decide, by decide⟩
  · exact ⟨by simp [svcs], by simp [vers], by simp [opss], by decide, by decide, by decide⟩

def exA : TLine := ⟨⟨⟨#[97, 112, 105]⟩, eB, eB⟩, ⟨8, 4, 60, 4⟩⟩
def exB1 : TLine := ⟨⟨⟨#[97, 112, 105]⟩, ⟨#[118, 49]⟩, eB⟩, ⟨4, 0, 40, 4⟩⟩
def exB2 : TLine := ⟨⟨⟨#[97, 112, 105]⟩, ⟨#[118, 50]⟩, eB⟩, ⟨4, 4, 20, 4⟩⟩
theorem ex_by1 : (byMap 1 exL).map mkLine = [exA] := by decide
theorem ex_by2 : (byMap 2 exL).map mkLine = [exB1, exB2] := by decide

theorem perm_two {α : Type} {l : List α} {a b : α} (h : l.Perm [a, b]) : l = [a, b] ∨ l = [b, a] := by
  match l, h.length_eq with
  | [x, y], _ =>
    have hx : x ∈ [a, b] := h.subset (by simp)
    simp only [List.mem_cons, List.not_mem_nil, or_false] at hx
    rcases hx with rfl | rfl
    · have := List.perm_singleton.1 (List.Perm.cons_inv h)
      exact .inl (by simp at this; rw [this])
    · have := List.perm_singleton.1 (List.Perm.cons_inv (h.trans (List.Perm.swap _ _ _)))
      exact .inr (by simp at this; rw [this])

theorem sl_data (x y : ByteArray) : sl x y = Op.bytesLess x.data.toList y.data.toList := by unfold sl; rw [ByteArray.toList_eq, ByteArray.toList_eq]
theorem ex_less : gl exB1.group exB2.group := by
  rw [gl_iff]
  refine .inr ⟨rfl, .inl ?_⟩
  rw [sl_data]
  decide

theorem W12_of {K : Bool → Prop} (h : K true) : W12 K := by
  unfold W12 W36
  refine W14_of exL_good (by decide) (by decide) fun r1 p1 _ _ => ?_
  refine W14_of exL_good (by decide) (by decide) fun r2 p2 s2 _ => ?_
  rw [ex_by1] at p1
  rw [ex_by2] at p2
  have e1 := List.perm_singleton.1 p1
  have e2 : r2 = [exB1, exB2] := by
    rcases perm_two p2 with e | e
    · exact e
    · exfalso
      rw [e] at s2
      have := (List.pairwise_cons.1 s2).1 exB1 (by simp)
      exact this ex_less
  subst e1; subst e2
  have four : ∀ (i : Nat), i < 4 → ∃ x, ([(⟨#[115]⟩ : ByteArray), (⟨#[115]⟩ : ByteArray), (⟨#[116]⟩ : ByteArray), (⟨#[115]⟩ : ByteArray)])[i]? = some x := fun i hi => ⟨_, List.getElem?_eq_getElem (by simpa using hi)⟩
  refine loop_idx 4 (fun i (v : List TSpan × Int) => v.2 = (i : Int) + 1 ∧ v.1.map (fun x => x.service) = ([(⟨#[115]⟩ : ByteArray), (⟨#[115]⟩ : ByteArray), (⟨#[116]⟩ : ByteArray), (⟨#[115]⟩ : ByteArray)]).take i) ⟨rfl, rfl⟩ ?_
  rintro i ⟨l, v⟩ N hi ⟨rfl, g1⟩ hN
  dsimp only at g1 ⊢
  have hlen := congrArg List.length g1
  simp only [List.length_map, List.length_take, List.length_cons, List.length_nil] at hlen
  unfold L12_1
  refine cond_dec (fun hlt => ?_) fun hge => ?_
  · have e1 : w64 ((i : Int) + 1 - 1) = (i : Int) := by rw [w64_in (by omega) (by omega)]; omega
    have e2 : w64 ((i : Int) + 1 + 1) = (i : Int) + 1 + 1 := w64_in (by omega) (by omega)
    rw [e1, e2]
    refine idx_nat (by simp; omega) fun x hx => fits_of (by simp; omega) (hN _ (by omega) ⟨by simp, ?_⟩)
    dsimp only
    rw [take_snoc hx, List.map_append, g1]; rfl
  · have : i = 4 := by omega
    subst this
    refine W19_of ⟨by simp, ?_, by simp, ?_, by simp, ?_⟩ fun b lt hb hlt => ?_
    · intro t ht
      simp only [List.mem_cons, List.not_mem_nil, or_false] at ht
      subst ht; dsimp only; omega
    · intro x hx
      simp only [List.mem_cons, List.not_mem_nil, or_false] at hx
      subst hx; decide
    · intro x hx
      simp only [List.mem_cons, List.not_mem_nil, or_false] at hx
      subst hx; decide
    · have h3 : ∀ (l : List TSpan), sumI (spHit 0 (⟨#[115]⟩ : ByteArray) 3) l = sumI (fun s => if s = (⟨#[115]⟩ : ByteArray) then 1 else 0) (l.map fun x => x.service) := by
        intro l
        induction l with
        | nil => rfl
        | cons x l ih =>
          simp only [List.map_cons, sumI, ih]
          congr 1
          unfold spHit
          have : part 3 = 0 := by decide
          simp [this]
      have hb2 : b = 13 := by
        rw [hb]
        have : trHit 0 (⟨#[115]⟩ : ByteArray) (TTrace.mk 3 1 l) = 3 := by
          unfold trHit; dsimp only; rw [h3, g1]; decide
        simp only [sumI, this]
        decide
      have hlt2 : lt = 2 := by
        rw [hlt]
        show sumI (ltHit 0) [(TLate.mk 0 2)] = 2
        decide
      subst hb2; subst hlt2
      have r1 : (if (13 : Int) - 2 > 0 then (13 : Int) - 2 else 0, (13 : Int) + 2) = (11, 15) := by decide
      rw [r1]
      refine cond_dec (fun _ => cond_dec (fun _ => cond_dec (fun _ => ?_) fun hn => absurd (by decide) hn) fun hn => absurd (by decide) hn) fun hn => absurd (by decide) hn
      refine idx_of (by decide) (by decide) fun x hx => ?_
      have hx : x = exA := by simpa using hx.symm
      subst hx
      refine ⟨fun _ => ?_, fun hn => absurd hn (by decide)⟩
      refine cond_dec (fun _ => ?_) fun hn => absurd (by decide) hn
      refine idx_of (by decide) (by decide) fun x hx => ?_
      have hx : x = exB2 := by simpa using hx.symm
      subst hx
      refine ⟨fun _ => ?_, fun hn => absurd hn (by decide)⟩
      refine cond_dec (fun _ => ?_) fun hn => absurd (by decide) hn
      unfold J12_2
      exact h

/-! ### EstimateContains -/
theorem W4_of {s : TStory} (hw : s.wf) {gone late : Int} (hl0 : 0 ≤ late) (hl1 : late ≤ 255) {K : Bool → Prop} (h : K true) : W4 s gone late K := by
  unfold W4
  refine W12_of (cond_not (fun h => by cases h) fun _ => W16_of hw fun r hr => ?_)
  unfold J4_1
  refine cond_not (fun hrf => W12_of h) fun hrt => W17_of hw (hr (by simpa using hrt)) fun l hl => ?_
  have hl3 := hl.len
  have hgood := hl.good
  have m3 := tmod_in hl0 (show (0:Int) < 3 by omega)
  refine loop_idx l.length (fun i (v : List TTrace × List TRemoved × List TLate × Int) => v.2.2.2 = (i : Int) ∧ v.1.length ≤ i ∧ v.2.1.length ≤ 8 * i ∧ v.2.2.1.length ≤ i ∧ (∀ t ∈ v.1, t.spans.length ≤ 8) ∧ (∀ x ∈ v.2.1, x.spans = 1) ∧ (∀ x ∈ v.2.2.1, x.spans = late.tmod 3) ∧
      ∀ p sv, sumI (trHit p sv) v.1 + sumI (rmHit p sv) v.2.1 = sumI (trHit p sv) (l.take i)) ⟨rfl, by simp, by simp, by simp, by simp, by simp, by simp, fun p sv => rfl⟩ ?_
  rintro i ⟨ts, rm, lt, v⟩ N hi ⟨rfl, g1, g2, g3, g4, g5, g6, g7⟩ hN
  dsimp only at g1 g2 g3 g4 g5 g6 g7 ⊢
  unfold L4_2
  have e1 : w64 ((i : Int) + 1) = (i : Int) + 1 := w64_in (by omega) (by omega)
  refine cond_dec (fun hlt => ⟨by omega, ?_⟩) fun hge => ?_
  · have hil : i < l.length := by omega
    have hti := List.getElem?_eq_getElem hil
    have h8 := (hgood.all l[i] (List.getElem_mem hil)).len
    refine cond_dec (fun _ => ?_) fun _ => ?_
    · refine idx_nat hil fun t ht => fits_of (by simp; omega) ?_
      rw [hti] at ht; cases ht
      unfold J4_3
      rw [e1]
      refine hN _ (by omega) ⟨by simp, by simp; omega, by dsimp only; omega, by dsimp only; omega, fun t ht => ?_, g5, g6, fun p sv => ?_⟩
      · rcases List.mem_append.1 ht with ht | ht
        · exact g4 t ht
        · simp only [List.mem_cons, List.not_mem_nil, or_false] at ht; subst ht; exact h8
      · dsimp only
        rw [sumI_append, sumI_take _ hti, ← g7 p sv]; simp only [sumI]; omega
    · refine idx_nat hil fun t ht => W18_of ?_
      rw [hti] at ht; cases ht
      refine loop_idx (l[i]).spans.length (fun k (v : List TRemoved × Int) => v.2 = (k : Int) ∧ v.1.length ≤ 8 * i + k ∧ (∀ x ∈ v.1, x.spans = 1) ∧ ∀ p sv, sumI (rmHit p sv) v.1 = sumI (rmHit p sv) rm + sumI (spHit p sv (l[i]).id) ((l[i]).spans.take k))
        ⟨rfl, by dsimp only; omega, g5, fun p sv => by simp [sumI]⟩ ?_
      rintro k ⟨rm', v⟩ N' hk ⟨rfl, k1, k2, k3⟩ hN'
      dsimp only at k1 k2 k3 ⊢
      unfold L4_4
      refine cond_dec (fun hlt2 => ?_) fun hge2 => ?_
      · refine idx_nat (by omega) fun x hx => fits_of (by simp; omega) ?_
        rw [w64_in (by omega) (by omega)]
        refine hN' _ (by omega) ⟨by simp, by simp; omega, fun y hy => ?_, fun p sv => ?_⟩
        · rcases List.mem_append.1 hy with hy | hy
          · exact k2 y hy
          · simp only [List.mem_cons, List.not_mem_nil, or_false] at hy; subst hy; rfl
        · dsimp only
          rw [sumI_append, k3 p sv, sumI_take _ hx]
          have : sumI (rmHit p sv) [TRemoved.mk (part (l[i]).id) x.service 1 0] = spHit p sv (l[i]).id x := by simp only [sumI, rmHit, spHit]; omega
          rw [this]; omega
      · have : k = (l[i]).spans.length := by omega
        subst this
        rw [w64_in (n := late.tmod 3) (by omega) (by omega)]
        refine fits_of (by simp; omega) ?_
        unfold J4_3
        rw [e1]
        refine hN _ (by omega) ⟨by simp, by dsimp only; omega, by dsimp only; omega, by simp; omega, g4, k2, fun y hy => ?_, fun p sv => ?_⟩
        · rcases List.mem_append.1 hy with hy | hy
          · exact g6 y hy
          · simp only [List.mem_cons, List.not_mem_nil, or_false] at hy; subst hy; rfl
        · dsimp only
          have := k3 p sv
          rw [List.take_length] at this
          rw [this, sumI_take _ hti, ← g7 p sv]
          unfold trHit
          omega
  · have : i = l.length := by omega
    subst this
    rw [List.take_length] at g7
    have hret : RetB (TRetained.mk ts [] rm lt) := ⟨by dsimp only; omega, g4, by dsimp only; omega, fun x hx => by rw [g5 x hx]; omega, by dsimp only; omega, fun x hx => by rw [g6 x hx]; omega⟩
    -- every partition
    refine loop_idx 4 (fun q (v : Int) => v = (q : Int)) rfl ?_
    rintro q v N1 hq rfl hN1
    unfold L4_5
    refine cond_dec (fun hq4 => ?_) fun _ => h
    refine loop_idx 4 (fun j (v : Int) => v = (j : Int)) rfl ?_
    rintro j v N2 hj rfl hN2
    unfold L4_6
    refine cond_dec (fun hj4 => ?_) fun _ => ?_
    · refine idx_nat (by simp; omega) fun sv hsv => ?_
      have tb : ∀ k, 0 ≤ sumI (trHit (q : Int) sv) (l.take k) ∧ sumI (trHit (q : Int) sv) (l.take k) ≤ 24 := fun k => by
        have := sumI_bound (trHit (q : Int) sv) 8 (l.take k) fun t ht => trHit_b (hgood.all t (List.mem_of_mem_take ht)).len
        have : (l.take k).length ≤ 3 := by simp; omega
        omega
      refine loop_idx l.length (fun k (v : Int × Int) => v.2 = (k : Int) ∧ v.1 = sumI (trHit (q : Int) sv) (l.take k)) ⟨rfl, rfl⟩ ?_
      rintro k ⟨n, v⟩ N3 hk ⟨rfl, k1⟩ hN3
      dsimp only at k1 ⊢
      have e2 : w64 ((k : Int) + 1) = (k : Int) + 1 := w64_in (by omega) (by omega)
      unfold L4_7
      refine cond_dec (fun hlt => ?_) fun hge => ?_
      · have hkl : k < l.length := by omega
        have htk := List.getElem?_eq_getElem hkl
        have h8 := (hgood.all l[k] (List.getElem_mem hkl)).len
        have tbk := tb k
        refine loop_idx (l[k]).spans.length (fun a (v : Int × Int) => v.2 = (a : Int) ∧ v.1 = n + sumI (spHit (q : Int) sv (l[k]).id) ((l[k]).spans.take a)) ⟨rfl, by simp [sumI]⟩ ?_
        rintro a ⟨c, v⟩ N4 ha ⟨rfl, a1⟩ hN4
        dsimp only at a1 ⊢
        have ab := sumI_bound (spHit (q : Int) sv (l[k]).id) 1 ((l[k]).spans.take a) fun x _ => spHit_b _ _ _ x
        have alen : ((l[k]).spans.take a).length ≤ 8 := by simp; omega
        unfold L4_8
        refine idx_nat hkl fun t ht => ?_
        rw [htk] at ht; cases ht
        refine cond_dec (fun hlt2 => ?_) fun hge2 => ?_
        · refine W18_of ?_
          have e3 : w64 ((a : Int) + 1) = (a : Int) + 1 := w64_in (by omega) (by omega)
          have hal : a < (l[k]).spans.length := by omega
          have hxa := List.getElem?_eq_getElem hal
          have hsum := sumI_take (spHit (q : Int) sv (l[k]).id) hxa
          have fin : ∀ b : Bool, (b = true ↔ part (l[k]).id = (q : Int) ∧ ((l[k]).spans[a]).service = sv) → J4_10 N4 (a : Int) c b := by
            intro b hb
            unfold J4_10 J4_9
            rw [e3]
            refine cond_bool (fun h => ?_) fun h => ?_
            · rw [w64_in (by omega) (by omega)]
              refine hN4 _ (by omega) ⟨by simp, ?_⟩
              dsimp only
              rw [hsum, a1]; unfold spHit; rw [if_pos (hb.1 h)]; omega
            · refine hN4 _ (by omega) ⟨by simp, ?_⟩
              dsimp only
              rw [hsum, a1]; unfold spHit; rw [if_neg (fun hh => by rw [hb.2 hh] at h; cases h)]; omega
          refine cond_dec (fun h1 => idx_nat hal fun x hx => ?_) fun h1 => fin _ (by simp [h1])
          rw [hxa] at hx; cases hx
          exact fin _ (by simp [h1])
        · have : a = (l[k]).spans.length := by omega
          subst this
          rw [e2]
          refine hN3 _ (by omega) ⟨by simp, ?_⟩
          dsimp only
          rw [sumI_take _ htk, ← k1, a1, List.take_length]; rfl
      · have : k = l.length := by omega
        subst this
        have tbk := tb l.length
        rw [List.take_length] at k1 tbk
        refine W19_of hret fun b lt' hb hlt' => ?_
        dsimp only at hb hlt'
        rw [g7] at hb
        have lb := sumI_bound (ltHit (q : Int)) 2 lt fun x hx => by
          have := g6 x hx
          unfold ltHit; split <;> omega
        have lz : late.tmod 3 = 0 → sumI (ltHit (q : Int)) lt = 0 := fun hz => by
          have := sumI_bound (ltHit (q : Int)) 0 lt fun x hx => by
            have := g6 x hx
            unfold ltHit; split <;> omega
          omega
        have last : J4_11 K N2 (j : Int) false := by
          unfold J4_11
          refine ⟨fun h => (by cases h), fun _ => ?_⟩
          rw [w64_in (by omega) (by omega)]
          exact hN2 _ (by omega) (by simp)
        have hnb : n = b := by rw [k1, hb]
        refine cond_dec (fun hc => ?_) fun _ => cond_dec (fun hc => ?_) fun _ => cond_dec (fun hz => ?_) fun _ => last
        · exfalso; dsimp only at hc; split at hc <;> omega
        · exfalso; dsimp only at hc; omega
        · have hz' := lz hz
          have : decide (¬ (if b - lt' > 0 then b - lt' else 0) = b + lt') = false := decide_eq_false (by
            split <;> omega)
          dsimp only
          rw [this]
          exact last
    · rw [w64_in (by omega) (by omega)]
      exact hN1 _ (by omega) (by simp)

end Go.Proofs.Ytnpdeecoejabgaa
