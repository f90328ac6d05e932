/- PLAIN LAWS, 8: totals by their definition; lines by their definition. -/
import Derived.Test.YtnpdeecoejabgaaPG
set_option maxRecDepth 100000
set_option linter.unusedSimpArgs false
set_option linter.unusedVariables false
namespace Go.Proofs.Ytnpdeecoejabgaa
open Go Go.RowKit

/-! ### The total of a group -/
def gS (level : Int) (g : TGroup) (t : TTrace) : Int := sumI (fun x => if grp level x = g then t.weight else 0) t.spans
def gE (level : Int) (g : TGroup) (t : TTrace) : Int := sumI (fun x => if grp level x = g ∧ x.error = true then t.weight else 0) t.spans
def gD (level : Int) (g : TGroup) (t : TTrace) : Int := sumI (fun x => if grp level x = g then t.weight * (x.end_ - x.start) else 0) t.spans
def gT (level : Int) (g : TGroup) (t : TTrace) : Int := if t.spans.any (fun x => decide (grp level x = g)) = true then t.weight else 0
def totP (level : Int) (l : List TTrace) (g : TGroup) : TTotal := ⟨sumI (gS level g) l, sumI (gE level g) l, sumI (gD level g) l, sumI (gT level g) l⟩

theorem getT_step {level w : Int} (g : TGroup) (st : BySt) (x : TSpan) : getT g (stepSp level w st x).1 = if g = grp level x then addT (getT (grp level x) st.1) (oneT w x (!(seenB (grp level x) st.2))) else getT g st.1 := by
  unfold stepSp
  dsimp only
  rw [getT_put]
  rfl
theorem seen_step {level w : Int} (g : TGroup) (st : BySt) (x : TSpan) : seenB g (stepSp level w st x).2 = if g = grp level x then true else seenB g st.2 := by
  unfold stepSp
  dsimp only
  by_cases hs : (alGet (grp level x) st.2).getD false = true
  · rw [if_pos hs]
    split
    · rename_i e; rw [e]; exact hs
    · rfl
  · rw [if_neg hs, seen_put]

theorem getT_spans {level w : Int} (g : TGroup) : ∀ (xs : List TSpan) (st : BySt), getT g (xs.foldl (stepSp level w) st).1 =
    addT (getT g st.1) ⟨sumI (fun x => if grp level x = g then w else 0) xs, sumI (fun x => if grp level x = g ∧ x.error = true then w else 0) xs, sumI (fun x => if grp level x = g then w * (x.end_ - x.start) else 0) xs,
      if seenB g st.2 = false ∧ xs.any (fun x => decide (grp level x = g)) = true then w else 0⟩
  | [], st => by simp [addT, sumI]
  | x :: xs, st => by
    rw [List.foldl_cons, getT_spans g xs, getT_step, seen_step]
    by_cases e : g = grp level x
    · subst e
      rw [if_pos rfl, if_pos rfl]
      simp only [sumI, List.any_cons, decide_true, Bool.true_or, and_true, if_true, true_and]
      cases hs : seenB (grp level x) st.2 <;> cases hx : x.error <;> simp [addT, oneT, hx] <;> omega
    · have e' : ¬ grp level x = g := fun h => e h.symm
      rw [if_neg e, if_neg e]
      simp only [sumI, List.any_cons, if_neg e', decide_false, Bool.false_or, e', false_and, if_false]
      simp [addT]

theorem getT_trace {level : Int} (g : TGroup) (m : List (TGroup × TTotal)) (t : TTrace) : getT g (stepTr level m t) = addT (getT g m) ⟨gS level g t, gE level g t, gD level g t, gT level g t⟩ := by
  unfold stepTr
  rw [getT_spans]
  have : seenB g ([] : List (TGroup × Bool)) = false := rfl
  simp only [this, true_and]
  rfl

theorem getT_fold {level : Int} (g : TGroup) : ∀ (l : List TTrace) (m : List (TGroup × TTotal)), getT g (l.foldl (stepTr level) m) = addT (getT g m) (totP level l g)
  | [], m => by simp [addT, totP, sumI]
  | t :: l, m => by
    rw [List.foldl_cons, getT_fold g l, getT_trace]
    simp only [addT, totP, sumI]
    simp only [TTotal.mk.injEq]
    omega
theorem getT_by (level : Int) (l : List TTrace) (g : TGroup) : getT g (byMap level l) = totP level l g := by
  unfold byMap
  rw [getT_fold]
  simp [addT, getT, alGet, zT]

/-- The groups of some traces. -/
def hasG (level : Int) (l : List TTrace) (g : TGroup) : Prop := ∃ t ∈ l, ∃ x ∈ t.spans, grp level x = g

theorem keys_spans {level w : Int} (g : TGroup) : ∀ (xs : List TSpan) (st : BySt), g ∈ (xs.foldl (stepSp level w) st).1.map (·.1) ↔ g ∈ st.1.map (·.1) ∨ ∃ x ∈ xs, grp level x = g
  | [], st => by simp
  | x :: xs, st => by
    rw [List.foldl_cons, keys_spans g xs]
    have : g ∈ (stepSp level w st x).1.map (·.1) ↔ g ∈ st.1.map (·.1) ∨ grp level x = g := by
      unfold stepSp
      dsimp only
      rw [alPut_keys]
      split
      · rename_i h
        constructor
        · exact .inl
        · rintro (h' | rfl)
          · exact h'
          · exact h
      · rw [List.mem_append, List.mem_singleton]
        exact or_congr Iff.rfl ⟨fun h => h.symm, fun h => h.symm⟩
    rw [this, or_assoc]
    refine or_congr Iff.rfl ?_
    constructor
    · rintro (h | ⟨y, hy, h⟩)
      · exact ⟨x, by simp, h⟩
      · exact ⟨y, by simp [hy], h⟩
    · rintro ⟨y, hy, h⟩
      rcases List.mem_cons.1 hy with rfl | hy
      · exact .inl h
      · exact .inr ⟨y, hy, h⟩
theorem keys_fold {level : Int} (g : TGroup) : ∀ (l : List TTrace) (m : List (TGroup × TTotal)), g ∈ (l.foldl (stepTr level) m).map (·.1) ↔ g ∈ m.map (·.1) ∨ hasG level l g
  | [], m => by simp [hasG]
  | t :: l, m => by
    rw [List.foldl_cons, keys_fold g l]
    unfold stepTr
    rw [keys_spans]
    unfold hasG
    rw [or_assoc]
    refine or_congr Iff.rfl ?_
    constructor
    · rintro (h | ⟨y, hy, h⟩)
      · exact ⟨t, by simp, h⟩
      · exact ⟨y, by simp [hy], h⟩
    · rintro ⟨y, hy, h⟩
      rcases List.mem_cons.1 hy with rfl | hy
      · exact .inl h
      · exact .inr ⟨y, hy, h⟩
theorem keys_by (level : Int) (l : List TTrace) (g : TGroup) : g ∈ (byMap level l).map (·.1) ↔ hasG level l g := by
  unfold byMap
  rw [keys_fold]; simp

/-! ### Lists of lines by their definition -/
def SSorted (l : List TLine) : Prop := l.Pairwise fun a b => gl a.group b.group
/-- The lines of some traces, whose totals are those of the traces l. -/
structure IsBy (level : Int) (l : List TTrace) (has : TGroup → Prop) (r : List TLine) : Prop where
  sorted : SSorted r
  tot : ∀ y ∈ r, y.total = totP level l y.group
  mem : ∀ g, (∃ y ∈ r, y.group = g) ↔ has g

theorem ssorted_eq : ∀ {a b : List TLine}, SSorted a → SSorted b → (∀ y, y ∈ a ↔ y ∈ b) → a = b
  | [], [], _, _, _ => rfl
  | [], y :: b, _, _, h => by have := (h y).2 (by simp); cases this
  | x :: a, [], _, _, h => by have := (h x).1 (by simp); cases this
  | x :: a, y :: b, ha, hb, h => by
    have ha' := List.pairwise_cons.1 ha
    have hb' := List.pairwise_cons.1 hb
    have e : x = y := by
      rcases List.mem_cons.1 ((h x).1 (by simp)) with e | hx
      · exact e
      · rcases List.mem_cons.1 ((h y).2 (by simp)) with e | hy
        · exact e.symm
        · exact absurd (gl_trans (ha'.1 y hy) (hb'.1 x hx)) (gl_irrefl _)
    subst e
    congr 1
    refine ssorted_eq ha'.2 hb'.2 fun z => ?_
    have := h z
    simp only [List.mem_cons] at this
    constructor
    · intro hz
      rcases this.1 (.inr hz) with rfl | hz'
      · exact absurd (ha'.1 _ hz) (gl_irrefl _)
      · exact hz'
    · intro hz
      rcases this.2 (.inr hz) with rfl | hz'
      · exact absurd (hb'.1 _ hz) (gl_irrefl _)
      · exact hz'

theorem IsBy.eq {level : Int} {l : List TTrace} {has : TGroup → Prop} {a b : List TLine} (ha : IsBy level l has a) (hb : IsBy level l has b) : a = b := by
  have key : ∀ {a b : List TLine}, IsBy level l has a → IsBy level l has b → ∀ y, y ∈ a → y ∈ b := fun {a b} ha hb y hy => by
    obtain ⟨z, hz, e⟩ := (hb.mem y.group).2 ((ha.mem y.group).1 ⟨y, hy, rfl⟩)
    have : z = y := by
      have h1 := ha.tot y hy
      have h2 := hb.tot z hz
      rw [e] at h2
      cases y; cases z; simp_all
    rw [← this]; exact hz
  exact ssorted_eq ha.sorted hb.sorted fun y => ⟨key ha hb y, key hb ha y⟩

theorem sorted_strict {r : List TLine} (hs : Sorted r) (hn : (r.map (·.group)).Nodup) : SSorted r := by
  unfold Sorted at hs
  unfold SSorted
  induction r with
  | nil => exact .nil
  | cons x r ih =>
    have h1 := List.pairwise_cons.1 hs
    simp only [List.map_cons, List.nodup_cons] at hn
    refine List.pairwise_cons.2 ⟨fun y hy => ?_, ih h1.2 hn.2⟩
    by_cases h : gl x.group y.group
    · exact h
    · have := gl_tri h (h1.1 y hy)
      exact absurd (by rw [this]; exact List.mem_map_of_mem (f := (·.group)) hy) hn.1

theorem by_is {level : Int} {l : List TTrace} {c : Nat} {r : List TLine} (hp : r.Perm ((byMap level l).map mkLine)) (hs : Sorted r) (hb : MB level c (byMap level l)) : IsBy level l (hasG level l) r := by
  have hn : (r.map (·.group)).Nodup := by
    have := (hp.map (·.group))
    rw [List.map_map] at this
    exact this.nodup_iff.2 hb.nd
  refine ⟨sorted_strict hs hn, fun y hy => ?_, fun g => ?_⟩
  · obtain ⟨e, he, rfl⟩ := List.mem_map.1 (hp.subset hy)
    rw [← getT_by]
    exact (get_of_mem hb.nd he).symm
  · rw [← keys_by]
    constructor
    · rintro ⟨y, hy, rfl⟩
      obtain ⟨e, he, rfl⟩ := List.mem_map.1 (hp.subset hy)
      exact List.mem_map_of_mem (f := (·.1)) he
    · intro h
      obtain ⟨e, he, rfl⟩ := List.mem_map.1 h
      exact ⟨mkLine e, hp.symm.subset (List.mem_map_of_mem he), rfl⟩

/-- By, as its definition says. -/
theorem W14_by {l : List TTrace} (hl : GoodL l) {level : Int} (h1 : 1 ≤ level) (h3 : level ≤ 3) {K : List TLine × Int → Prop} (h : ∀ r, IsBy level l (hasG level l) r → K (r, 0)) : W14 l level K :=
  W14_of hl h1 h3 fun r hp hs hb => h r (by_is hp hs hb)

theorem W14_bad {l : List TTrace} {level : Int} (hb : level < 1 ∨ 3 < level) {K : List TLine × Int → Prop} (h : K ([], 12)) : W14 l level K := by
  unfold W14 W37
  refine cond_dec (fun h => by omega) fun _ => cond_dec (fun h => by omega) fun _ => cond_dec (fun h => by omega) fun _ => ?_
  exact cond_not (fun _ => h) fun h => by cases h

end Go.Proofs.Ytnpdeecoejabgaa
