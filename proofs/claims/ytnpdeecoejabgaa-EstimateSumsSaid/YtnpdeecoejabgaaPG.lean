/- PLAIN LAWS, 6: totals of services and of finer groups. -/
import Derived.Test.YtnpdeecoejabgaaPE
set_option maxRecDepth 100000
set_option linter.unusedSimpArgs false
set_option linter.unusedVariables false
namespace Go.Proofs.Ytnpdeecoejabgaa
open Go Go.RowKit

/-- The sum of a part of the totals of a service. -/
def sv (π : TTotal → Int) (s : ByteArray) (m : List (TGroup × TTotal)) : Int := sumI (fun e => if e.1.service = s then π e.2 else 0) m

theorem sv_put (π : TTotal → Int) (hz : π zT = 0) (s : ByteArray) (g : TGroup) (v : TTotal) : ∀ (m : List (TGroup × TTotal)), sv π s (alPut g v m) = sv π s m + if g.service = s then π v - π ((alGet g m).getD zT) else 0
  | [] => by
    simp only [sv, alPut, sumI, alGet, Option.getD_none, hz]
    split <;> omega
  | p :: m => by
    have ih := sv_put π hz s g v m
    simp only [sv] at ih
    simp only [sv, alPut, alGet]
    by_cases e : g = p.1
    · subst e
      simp only [if_true, sumI, Option.getD_some]
      split <;> omega
    · simp only [if_neg e, sumI, ih]
      split <;> split <;> omega

def svG (s : ByteArray) : TGroup := ⟨s, eB, eB⟩
def getT (g : TGroup) (m : List (TGroup × TTotal)) : TTotal := (alGet g m).getD zT
def seenB (g : TGroup) (m : List (TGroup × Bool)) : Bool := (alGet g m).getD false

theorem getT_put (g g' : TGroup) (v : TTotal) (m) : getT g' (alPut g v m) = if g' = g then v else getT g' m := by
  unfold getT; rw [alGet_put]; split <;> rfl
theorem seen_put (g g' : TGroup) (v : Bool) (m) : seenB g' (alPut g v m) = if g' = g then v else seenB g' m := by
  unfold seenB; rw [alGet_put]; split <;> rfl

/-- How the totals of the services and those of a finer level stand to each other, while a trace of weight w is counted. -/
structure Fine (w : Int) (a b : BySt) : Prop where
  s : ∀ x, sv (·.spans) x b.1 = (getT (svG x) a.1).spans
  e : ∀ x, sv (·.errors) x b.1 = (getT (svG x) a.1).errors
  d : ∀ x, sv (·.duration) x b.1 = (getT (svG x) a.1).duration
  t : ∀ x, (getT (svG x) a.1).traces ≤ sv (·.traces) x b.1
  m : ∀ g, (getT g b.1).traces + (if seenB (svG g.service) a.2 = true ∧ seenB g b.2 = false then w else 0) ≤ (getT (svG g.service) a.1).traces
  n : ∀ g, seenB g b.2 = true → seenB (svG g.service) a.2 = true

theorem Fine.start {w w' : Int} (hw : 0 ≤ w) {a b : BySt} (h : Fine w a b) : Fine w' (a.1, []) (b.1, []) :=
  ⟨h.s, h.e, h.d, h.t, fun g => by
    have := h.m g
    have e : seenB (svG g.service) ([] : List (TGroup × Bool)) = false := rfl
    dsimp only
    rw [e]
    simp only [Bool.false_eq_true, false_and, if_false]
    split at this <;> omega, fun g hg => by cases hg⟩

theorem grp1 (x : TSpan) : grp 1 x = svG x.service := by unfold grp svG; rw [if_pos rfl]
theorem grp_service (level : Int) (x : TSpan) : (grp level x).service = x.service := by unfold grp; split; rfl; split <;> rfl

theorem Fine.step {level w : Int} (hw : 0 ≤ w) {a b : BySt} (x : TSpan) (h : Fine w a b) : Fine w (stepSp 1 w a x) (stepSp level w b x) := by
  have hg2 := grp_service level x
  -- what is seen
  have sa : ∀ g, seenB g (stepSp 1 w a x).2 = if g = svG x.service then true else seenB g a.2 := fun g => by
    unfold stepSp
    dsimp only
    rw [grp1]
    by_cases hs : (alGet (svG x.service) a.2).getD false = true
    · rw [if_pos hs]
      split
      · rename_i e; rw [e]; exact hs
      · rfl
    · rw [if_neg hs, seen_put]
  have sb : ∀ g, seenB g (stepSp level w b x).2 = if g = grp level x then true else seenB g b.2 := fun g => by
    unfold stepSp
    dsimp only
    by_cases hs : (alGet (grp level x) b.2).getD false = true
    · rw [if_pos hs]
      split
      · rename_i e; rw [e]; exact hs
      · rfl
    · rw [if_neg hs, seen_put]
  -- totals
  have ta : ∀ g, getT g (stepSp 1 w a x).1 = if g = svG x.service then addT (getT (svG x.service) a.1) (oneT w x (!(seenB (svG x.service) a.2))) else getT g a.1 := fun g => by
    unfold stepSp
    dsimp only
    rw [getT_put, grp1]
    rfl
  have tb : ∀ g, getT g (stepSp level w b x).1 = if g = grp level x then addT (getT (grp level x) b.1) (oneT w x (!(seenB (grp level x) b.2))) else getT g b.1 := fun g => by
    unfold stepSp
    dsimp only
    rw [getT_put]
    rfl
  have vb : ∀ (π : TTotal → Int), π zT = 0 → (∀ p q, π (addT p q) = π p + π q) → ∀ y, sv π y (stepSp level w b x).1 = sv π y b.1 + if x.service = y then π (oneT w x (!(seenB (grp level x) b.2))) else 0 := fun π hz ha y => by
    unfold stepSp
    dsimp only
    rw [sv_put π hz, hg2, ha]
    split
    · have : π ((alGet (grp level x) b.1).getD zT) + π (oneT w x (!(alGet (grp level x) b.2).getD false)) - π ((alGet (grp level x) b.1).getD zT) = π (oneT w x (!(seenB (grp level x) b.2))) := by
        unfold seenB; omega
      rw [this]
    · rfl
  have svG_inj : ∀ y : ByteArray, svG y = svG x.service ↔ x.service = y := fun y => ⟨fun h => (TGroup.mk.inj h).1.symm, fun h => by rw [h]⟩
  have first : seenB (svG x.service) a.2 = false → seenB (grp level x) b.2 = false := fun hf => by
    cases hh : seenB (grp level x) b.2 with
    | false => rfl
    | true =>
      have := h.n _ hh
      rw [hg2, hf] at this; cases this
  refine ⟨fun y => ?_, fun y => ?_, fun y => ?_, fun y => ?_, fun g => ?_, fun g hg => ?_⟩
  · rw [vb (·.spans) rfl (fun _ _ => rfl), ta, h.s]
    by_cases e : x.service = y
    · rw [if_pos e, if_pos ((svG_inj y).2 e)]
      simp only [addT, oneT, e]
    · rw [if_neg e, if_neg (fun h => e ((svG_inj y).1 h))]; omega
  · rw [vb (·.errors) rfl (fun _ _ => rfl), ta, h.e]
    by_cases e : x.service = y
    · rw [if_pos e, if_pos ((svG_inj y).2 e)]
      simp only [addT, oneT, e]
    · rw [if_neg e, if_neg (fun h => e ((svG_inj y).1 h))]; omega
  · rw [vb (·.duration) rfl (fun _ _ => rfl), ta, h.d]
    by_cases e : x.service = y
    · rw [if_pos e, if_pos ((svG_inj y).2 e)]
      simp only [addT, oneT, e]
    · rw [if_neg e, if_neg (fun h => e ((svG_inj y).1 h))]; omega
  · rw [vb (·.traces) rfl (fun _ _ => rfl), ta]
    have := h.t y
    by_cases e : x.service = y
    · rw [if_pos e, if_pos ((svG_inj y).2 e)]
      simp only [addT, oneT]
      cases hh : seenB (svG x.service) a.2 with
      | false => rw [first hh]; subst e; simp; omega
      | true =>
        subst e
        cases seenB (grp level x) b.2 <;> simp <;> omega
    · rw [if_neg e, if_neg (fun h => e ((svG_inj y).1 h))]; omega
  · have hm := h.m g
    rw [tb, ta, sa, sb]
    by_cases e1 : g = grp level x
    · have e2 : svG g.service = svG x.service := by rw [e1, hg2]
      rw [if_pos e1, if_pos e2]
      rw [if_pos e2, if_pos e1]
      simp only [addT, oneT, Bool.true_eq_false, and_false, if_false]
      rw [e2] at hm
      rw [e1] at hm
      cases hh : seenB (svG x.service) a.2 with
      | false => rw [first hh] at hm ⊢; rw [hh] at hm; simp at hm ⊢; omega
      | true =>
        rw [hh] at hm
        cases hb : seenB (grp level x) b.2 with
        | false => rw [hb] at hm; simp at hm ⊢; omega
        | true => rw [hb] at hm; simp at hm ⊢; omega
    · rw [if_neg e1, if_neg e1]
      by_cases e2 : x.service = g.service
      · have e3 := (svG_inj g.service).2 e2
        rw [if_pos e3, if_pos e3]
        rw [e3] at hm
        simp only [addT, oneT, true_and]
        cases hh : seenB (svG x.service) a.2 with
        | false =>
          rw [hh] at hm
          simp at hm ⊢
          split <;> omega
        | true =>
          rw [hh] at hm
          simp at hm ⊢
          exact hm
      · have e3 : ¬ svG g.service = svG x.service := fun h => e2 ((svG_inj _).1 h)
        rw [if_neg e3, if_neg e3]
        exact hm
  · rw [sb] at hg
    rw [sa]
    by_cases e1 : g = grp level x
    · rw [if_pos (by rw [e1, hg2])]
    · rw [if_neg e1] at hg
      split
      · rfl
      · exact h.n g hg

theorem Fine.foldl {level w : Int} (hw : 0 ≤ w) : ∀ (l : List TSpan) {a b : BySt}, Fine w a b → Fine w (l.foldl (stepSp 1 w) a) (l.foldl (stepSp level w) b)
  | [], _, _, h => h
  | x :: l, _, _, h => Fine.foldl hw l (h.step hw x)

/-- The totals of the services and those of a finer level. -/
theorem fine_all (level : Int) : ∀ (l : List TTrace) (m1 m2 : List (TGroup × TTotal)), (∀ t ∈ l, 0 ≤ t.weight) → Fine 0 (m1, []) (m2, []) → Fine 0 (l.foldl (stepTr 1) m1, []) (l.foldl (stepTr level) m2, [])
  | [], _, _, _, h => h
  | t :: l, m1, m2, hw, h => by
    have h1 := hw t (by simp)
    have h2 : Fine t.weight (m1, []) (m2, []) := h.start (Int.le_refl 0)
    have h3 := Fine.foldl (level := level) h1 t.spans h2
    have h4 : Fine 0 (stepTr 1 m1 t, []) (stepTr level m2 t, []) := h3.start h1
    exact fine_all level l _ _ (fun t ht => hw t (by simp [ht])) h4

theorem fine_by (level : Int) {l : List TTrace} (hl : GoodL l) : Fine 0 (byMap 1 l, []) (byMap level l, []) := by
  refine fine_all level l [] [] (fun t ht => by have := (hl.all t ht).w1; omega) ?_
  refine ⟨fun x => rfl, fun x => rfl, fun x => rfl, fun x => ?_, fun g => ?_, fun g hg => by cases hg⟩
  · exact Int.le_refl 0
  · simp [getT, alGet, zT, seenB]

theorem sumI_perm {α : Type} (f : α → Int) {l l' : List α} (h : l.Perm l') : sumI f l = sumI f l' := by
  induction h with
  | nil => rfl
  | cons x _ ih => simp only [sumI, ih]
  | swap x y l => simp only [sumI]; omega
  | trans _ _ ih1 ih2 => exact ih1.trans ih2
theorem sumI_map {α β : Type} (f : β → Int) (g : α → β) : ∀ (l : List α), sumI f (l.map g) = sumI (fun x => f (g x)) l
  | [] => rfl
  | x :: l => by simp only [List.map_cons, sumI, sumI_map f g l]

theorem get_of_mem {m : List (TGroup × TTotal)} (hn : (m.map (·.1)).Nodup) {g : TGroup} {T : TTotal} (h : (g, T) ∈ m) : getT g m = T := by
  induction m with
  | nil => cases h
  | cons p m ih =>
    simp only [List.map_cons, List.nodup_cons] at hn
    unfold getT
    simp only [alGet]
    rcases List.mem_cons.1 h with h | h
    · subst h; simp
    · have : ¬ g = p.1 := fun e => hn.1 (by rw [← e]; exact List.mem_map_of_mem (f := (·.1)) h)
      rw [if_neg this]
      exact ih hn.2 h

end Go.Proofs.Ytnpdeecoejabgaa
