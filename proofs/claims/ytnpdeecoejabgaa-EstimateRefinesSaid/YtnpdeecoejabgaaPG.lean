/- PLAIN LAWS, 7: EstimateRefines returns true. -/
import Derived.Test.YtnpdeecoejabgaaPE
set_option maxRecDepth 100000
set_option linter.unusedSimpArgs false
set_option linter.unusedVariables false
namespace Go.Proofs.Ytnpdeecoejabgaa
open Go Go.RowKit

/-- The sum of a part of the totals of a service. -/
def sv (π : TTotal → Int) (s : ByteArray) (m : List (TGroup × TTotal)) : Int := sumI (fun e => if e.1.service = s then π e.2 else 0) m

theorem sv_put (π : TTotal → Int) (hz : π zT = 0) (s : ByteArray) (g : TGroup) (v : TTotal) : ∀ (m : List (TGroup × TTotal)), sv π s (alPut g v m) = sv π s m + if g.service = s then π v - π ((alGet g m).getD zT) else 0
  | [] => by
    simp only [sv, alPut, sumI, alGet, Option.getD_none, hz]
    split <;> omega
  | p :: m => by
    have ih := sv_put π hz s g v m
    simp only [sv] at ih
    simp only [sv, alPut, alGet]
    by_cases e : g = p.1
    · subst e
      simp only [if_true, sumI, Option.getD_some]
      split <;> omega
    · simp only [if_neg e, sumI, ih]
      split <;> split <;> omega

def svG (s : ByteArray) : TGroup := ⟨s, eB, eB⟩
def getT (g : TGroup) (m : List (TGroup × TTotal)) : TTotal := (alGet g m).getD zT
def seenB (g : TGroup) (m : List (TGroup × Bool)) : Bool := (alGet g m).getD false

theorem getT_put (g g' : TGroup) (v : TTotal) (m) : getT g' (alPut g v m) = if g' = g then v else getT g' m := by
  unfold getT; rw [alGet_put]; split <;> rfl
theorem seen_put (g g' : TGroup) (v : Bool) (m) : seenB g' (alPut g v m) = if g' = g then v else seenB g' m := by
  unfold seenB; rw [alGet_put]; split <;> rfl

/-- How the totals of the services and those of a finer level stand to each other, while a trace of weight w is counted. -/
structure Fine (w : Int) (a b : BySt) : Prop where
  s : ∀ x, sv (·.spans) x b.1 = (getT (svG x) a.1).spans
  e : ∀ x, sv (·.errors) x b.1 = (getT (svG x) a.1).errors
  d : ∀ x, sv (·.duration) x b.1 = (getT (svG x) a.1).duration
  t : ∀ x, (getT (svG x) a.1).traces ≤ sv (·.traces) x b.1
  m : ∀ g, (getT g b.1).traces + (if seenB (svG g.service) a.2 = true ∧ seenB g b.2 = false then w else 0) ≤ (getT (svG g.service) a.1).traces
  n : ∀ g, seenB g b.2 = true → seenB (svG g.service) a.2 = true

theorem Fine.start {w w' : Int} (hw : 0 ≤ w) {a b : BySt} (h : Fine w a b) : Fine w' (a.1, []) (b.1, []) :=
  ⟨h.s, h.e, h.d, h.t, fun g => by
    have := h.m g
    have e : seenB (svG g.service) ([] : List (TGroup × Bool)) = false := rfl
    dsimp only
    rw [e]
    simp only [Bool.false_eq_true, false_and, if_false]
    split at this <;> omega, fun g hg => by cases hg⟩

theorem grp1 (x : TSpan) : grp 1 x = svG x.service := by unfold grp svG; rw [if_pos rfl]
theorem grp_service (level : Int) (x : TSpan) : (grp level x).service = x.service := by unfold grp; split; rfl; split <;> rfl

theorem Fine.step {level w : Int} (hw : 0 ≤ w) {a b : BySt} (x : TSpan) (h : Fine w a b) : Fine w (stepSp 1 w a x) (stepSp level w b x) := by
  have hg2 := grp_service level x
  -- what is seen
  have sa : ∀ g, seenB g (stepSp 1 w a x).2 = if g = svG x.service then true else seenB g a.2 := fun g => by
    unfold stepSp
    dsimp only
    rw [grp1]
    by_cases hs : (alGet (svG x.service) a.2).getD false = true
    · rw [if_pos hs]
      split
      · rename_i e; rw [e]; exact hs
      · rfl
    · rw [if_neg hs, seen_put]
  have sb : ∀ g, seenB g (stepSp level w b x).2 = if g = grp level x then true else seenB g b.2 := fun g => by
    unfold stepSp
    dsimp only
    by_cases hs : (alGet (grp level x) b.2).getD false = true
    · rw [if_pos hs]
      split
      · rename_i e; rw [e]; exact hs
      · rfl
    · rw [if_neg hs, seen_put]
  -- totals
  have ta : ∀ g, getT g (stepSp 1 w a x).1 = if g = svG x.service then addT (getT (svG x.service) a.1) (oneT w x (!(seenB (svG x.service) a.2))) else getT g a.1 := fun g => by
    unfold stepSp
    dsimp only
    rw [getT_put, grp1]
    rfl
  have tb : ∀ g, getT g (stepSp level w b x).1 = if g = grp level x then addT (getT (grp level x) b.1) (oneT w x (!(seenB (grp level x) b.2))) else getT g b.1 := fun g => by
    unfold stepSp
    dsimp only
    rw [getT_put]
    rfl
  have vb : ∀ (π : TTotal → Int), π zT = 0 → (∀ p q, π (addT p q) = π p + π q) → ∀ y, sv π y (stepSp level w b x).1 = sv π y b.1 + if x.service = y then π (oneT w x (!(seenB (grp level x) b.2))) else 0 := fun π hz ha y => by
    unfold stepSp
    dsimp only
    rw [sv_put π hz, hg2, ha]
    split
    · have : π ((alGet (grp level x) b.1).getD zT) + π (oneT w x (!(alGet (grp level x) b.2).getD false)) - π ((alGet (grp level x) b.1).getD zT) = π (oneT w x (!(seenB (grp level x) b.2))) := by
        unfold seenB; omega
      rw [this]
    · rfl
  have svG_inj : ∀ y : ByteArray, svG y = svG x.service ↔ x.service = y := fun y => ⟨fun h => (TGroup.mk.inj h).1.symm, fun h => by rw [h]⟩
  have first : seenB (svG x.service) a.2 = false → seenB (grp level x) b.2 = false := fun hf => by
    cases hh : seenB (grp level x) b.2 with
    | false => rfl
    | true =>
      have := h.n _ hh
      rw [hg2, hf] at this; cases this
  refine ⟨fun y => ?_, fun y => ?_, fun y => ?_, fun y => ?_, fun g => ?_, fun g hg => ?_⟩
  · rw [vb (·.spans) rfl (fun _ _ => rfl), ta, h.s]
    by_cases e : x.service = y
    · rw [if_pos e, if_pos ((svG_inj y).2 e)]
      simp only [addT, oneT, e]
    · rw [if_neg e, if_neg (fun h => e ((svG_inj y).1 h))]; omega
  · rw [vb (·.errors) rfl (fun _ _ => rfl), ta, h.e]
    by_cases e : x.service = y
    · rw [if_pos e, if_pos ((svG_inj y).2 e)]
      simp only [addT, oneT, e]
    · rw [if_neg e, if_neg (fun h => e ((svG_inj y).1 h))]; omega
  · rw [vb (·.duration) rfl (fun _ _ => rfl), ta, h.d]
    by_cases e : x.service = y
    · rw [if_pos e, if_pos ((svG_inj y).2 e)]
      simp only [addT, oneT, e]
    · rw [if_neg e, if_neg (fun h => e ((svG_inj y).1 h))]; omega
  · rw [vb (·.traces) rfl (fun _ _ => rfl), ta]
    have := h.t y
    by_cases e : x.service = y
    · rw [if_pos e, if_pos ((svG_inj y).2 e)]
      simp only [addT, oneT]
      cases hh : seenB (svG x.service) a.2 with
      | false => rw [first hh]; subst e; simp; omega
      | true =>
        subst e
        cases seenB (grp level x) b.2 <;> simp <;> omega
    · rw [if_neg e, if_neg (fun h => e ((svG_inj y).1 h))]; omega
  · have hm := h.m g
    rw [tb, ta, sa, sb]
    by_cases e1 : g = grp level x
    · have e2 : svG g.service = svG x.service := by rw [e1, hg2]
      rw [if_pos e1, if_pos e2]
      rw [if_pos e2, if_pos e1]
      simp only [addT, oneT, Bool.true_eq_false, and_false, if_false]
      rw [e2] at hm
      rw [e1] at hm
      cases hh : seenB (svG x.service) a.2 with
      | false => rw [first hh] at hm ⊢; rw [hh] at hm; simp at hm ⊢; omega
      | true =>
        rw [hh] at hm
        cases hb : seenB (grp level x) b.2 with
        | false => rw [hb] at hm; simp at hm ⊢; omega
        | true => rw [hb] at hm; simp at hm ⊢; omega
    · rw [if_neg e1, if_neg e1]
      by_cases e2 : x.service = g.service
      · have e3 := (svG_inj g.service).2 e2
        rw [if_pos e3, if_pos e3]
        rw [e3] at hm
        simp only [addT, oneT, true_and]
        cases hh : seenB (svG x.service) a.2 with
        | false =>
          rw [hh] at hm
          simp at hm ⊢
          split <;> omega
        | true =>
          rw [hh] at hm
          simp at hm ⊢
          exact hm
      · have e3 : ¬ svG g.service = svG x.service := fun h => e2 ((svG_inj _).1 h)
        rw [if_neg e3, if_neg e3]
        exact hm
  · rw [sb] at hg
    rw [sa]
    by_cases e1 : g = grp level x
    · rw [if_pos (by rw [e1, hg2])]
    · rw [if_neg e1] at hg
      split
      · rfl
      · exact h.n g hg

theorem Fine.foldl {level w : Int} (hw : 0 ≤ w) : ∀ (l : List TSpan) {a b : BySt}, Fine w a b → Fine w (l.foldl (stepSp 1 w) a) (l.foldl (stepSp level w) b)
  | [], _, _, h => h
  | x :: l, _, _, h => Fine.foldl hw l (h.step hw x)

/-- The totals of the services and those of a finer level. -/
theorem fine_all (level : Int) : ∀ (l : List TTrace) (m1 m2 : List (TGroup × TTotal)), (∀ t ∈ l, 0 ≤ t.weight) → Fine 0 (m1, []) (m2, []) → Fine 0 (l.foldl (stepTr 1) m1, []) (l.foldl (stepTr level) m2, [])
  | [], _, _, _, h => h
  | t :: l, m1, m2, hw, h => by
    have h1 := hw t (by simp)
    have h2 : Fine t.weight (m1, []) (m2, []) := h.start (Int.le_refl 0)
    have h3 := Fine.foldl (level := level) h1 t.spans h2
    have h4 : Fine 0 (stepTr 1 m1 t, []) (stepTr level m2 t, []) := h3.start h1
    exact fine_all level l _ _ (fun t ht => hw t (by simp [ht])) h4

theorem fine_by (level : Int) {l : List TTrace} (hl : GoodL l) : Fine 0 (byMap 1 l, []) (byMap level l, []) := by
  refine fine_all level l [] [] (fun t ht => by have := (hl.all t ht).w1; omega) ?_
  refine ⟨fun x => rfl, fun x => rfl, fun x => rfl, fun x => ?_, fun g => ?_, fun g hg => by cases hg⟩
  · exact Int.le_refl 0
  · simp [getT, alGet, zT, seenB]

theorem sumI_perm {α : Type} (f : α → Int) {l l' : List α} (h : l.Perm l') : sumI f l = sumI f l' := by
  induction h with
  | nil => rfl
  | cons x _ ih => simp only [sumI, ih]
  | swap x y l => simp only [sumI]; omega
  | trans _ _ ih1 ih2 => exact ih1.trans ih2
theorem sumI_map {α β : Type} (f : β → Int) (g : α → β) : ∀ (l : List α), sumI f (l.map g) = sumI (fun x => f (g x)) l
  | [] => rfl
  | x :: l => by simp only [List.map_cons, sumI, sumI_map f g l]

theorem get_of_mem {m : List (TGroup × TTotal)} (hn : (m.map (·.1)).Nodup) {g : TGroup} {T : TTotal} (h : (g, T) ∈ m) : getT g m = T := by
  induction m with
  | nil => cases h
  | cons p m ih =>
    simp only [List.map_cons, List.nodup_cons] at hn
    unfold getT
    simp only [alGet]
    rcases List.mem_cons.1 h with h | h
    · subst h; simp
    · have : ¬ g = p.1 := fun e => hn.1 (by rw [← e]; exact List.mem_map_of_mem (f := (·.1)) h)
      rw [if_neg this]
      exact ih hn.2 h

theorem W15_of {a b : TTotal} {c : Nat} (ha : TB c a) (hb : TB c b) (hc : c ≤ 1000) {K : TTotal → Prop} (h : K (addT a b)) : W15 a b K := by
  unfold W15
  have := ha.s; have := ha.e; have := ha.d; have := ha.t; have := hb.s; have := hb.e; have := hb.d; have := hb.t
  rw [w64_in (by omega) (by omega), w64_in (by omega) (by omega), w64_in (by omega) (by omega), w64_in (by omega) (by omega)]
  exact h

def lnSv (π : TTotal → Int) (s : ByteArray) (y : TLine) : Int := if y.group.service = s then π y.total else 0

theorem W3_of {s : TStory} (hw : s.wf) {a : TA28} (ha : a.wf) {K : Bool → Prop} (h : K true) : W3 s a K := by
  unfold W3
  refine W12_of (cond_not (fun h => by cases h) fun _ => W13_of hw ha fun l hl => W14_of hl (by decide) (by decide) fun r1 p1 _ b1 => ?_)
  refine cond_dec (fun hn => absurd rfl hn) fun _ => ?_
  refine loop_idx 2 (fun q (v : Int) => v = (q : Int) + 2) rfl ?_
  rintro q v N hq rfl hN
  unfold L3_1
  refine cond_dec (fun hle => ?_) fun _ => h
  refine W14_of hl (by omega) hle fun r2 p2 _ b2 => ?_
  refine cond_dec (fun hn => absurd rfl hn) fun _ => ?_
  have hf := fine_by ((q : Int) + 2) hl
  have len1 : r1.length ≤ 12 := by rw [p1.length_eq, List.length_map]; exact b1.len
  have len2 : r2.length ≤ 12 := by rw [p2.length_eq, List.length_map]; exact b2.len
  have mem2 : ∀ y ∈ r2, (y.group, y.total) ∈ byMap ((q : Int) + 2) l := fun y hy => by
    obtain ⟨e, he, rfl⟩ := List.mem_map.1 (p2.subset hy)
    exact he
  have tb2 : ∀ y ∈ r2, TB 24 y.total := fun y hy => b2.b _ (mem2 y hy)
  have sum2 : ∀ (π : TTotal → Int) (x : ByteArray), sumI (lnSv π x) r2 = sv π x (byMap ((q : Int) + 2) l) := fun π x => by
    rw [sumI_perm _ p2, sumI_map]; rfl
  refine loop_idx r1.length (fun i (v : Int) => v = (i : Int)) rfl ?_
  rintro i v N1 hi rfl hN1
  unfold L3_2
  dsimp only
  refine cond_dec (fun hlt => ?_) fun _ => ?_
  · have hil : i < r1.length := by omega
    have hxi := List.getElem?_eq_getElem hil
    obtain ⟨e, he, hex⟩ := List.mem_map.1 (p1.subset (List.getElem_mem hil))
    have hgrp : e.1 = svG e.1.service := by
      obtain ⟨x, _, hx⟩ := b1.k e he
      rw [hx, grp1]; rfl
    have hT : getT (svG e.1.service) (byMap 1 l) = e.2 := by rw [← hgrp]; exact get_of_mem b1.nd he
    have hxg : (r1[i]).group.service = e.1.service := by rw [← hex]; rfl
    have hxt : (r1[i]).total = e.2 := by rw [← hex]; rfl
    generalize hsx : e.1.service = svc at *
    have part : ∀ (π : TTotal → Int) (c : Int), (∀ T, TB 24 T → 0 ≤ π T ∧ π T ≤ c) → 0 ≤ c → ∀ k, 0 ≤ sumI (lnSv π svc) (r2.take k) ∧ sumI (lnSv π svc) (r2.take k) ≤ c * 12 := fun π c hπ hc k => by
      have h1 := sumI_bound (lnSv π svc) c (r2.take k) fun y hy => by
        have := hπ _ (tb2 y (List.mem_of_mem_take hy))
        unfold lnSv; split <;> omega
      have h2 : (r2.take k).length ≤ 12 := by simp; omega
      have h3 : c * ((r2.take k).length : Int) ≤ c * 12 := Int.mul_le_mul_of_nonneg_left (by omega) hc
      omega
    have ps := part (·.spans) 384 (fun T h => by have := h.s; omega) (by omega)
    have pe := part (·.errors) 384 (fun T h => by have := h.e; omega) (by omega)
    have pd := part (·.duration) 1152000 (fun T h => by have := h.d; omega) (by omega)
    have pt := part (·.traces) 384 (fun T h => by have := h.t; omega) (by omega)
    refine loop_idx r2.length (fun k (v : Int × Int × Int × Int × Int) => v.2.2.2.2 = (k : Int) ∧ v.1 = sumI (lnSv (·.spans) svc) (r2.take k) ∧ v.2.1 = sumI (lnSv (·.errors) svc) (r2.take k) ∧ v.2.2.1 = sumI (lnSv (·.duration) svc) (r2.take k) ∧ v.2.2.2.1 = sumI (lnSv (·.traces) svc) (r2.take k))
      ⟨rfl, rfl, rfl, rfl, rfl⟩ ?_
    rintro k ⟨a1, a2, a3, a4, v⟩ N2 hk ⟨rfl, k1, k2, k3, k4⟩ hN2
    dsimp only at k1 k2 k3 k4 ⊢
    unfold L3_3
    dsimp only
    have e1 : w64 ((k : Int) + 1) = (k : Int) + 1 := w64_in (by omega) (by omega)
    refine cond_dec (fun hlt2 => ?_) fun hge2 => ?_
    · refine idx_nat (by omega) fun y hy => idx_nat hil fun x hx => ?_
      rw [hxi] at hx; cases hx
      have hym := mem_of_get hy
      have hty := tb2 y hym
      refine cond_dec (fun hs => ?_) fun hs => ?_
      · rw [hxg] at hs
        have hle2 : y.total.traces ≤ e.2.traces := by
          have h1 := hf.m y.group
          have h2 := get_of_mem b2.nd (mem2 y hym)
          dsimp only at h1
          rw [h2, hs, hT] at h1
          split at h1 <;> omega
        refine cond_dec (fun hgt => ?_) fun _ => ?_
        · rw [hxt] at hgt; omega
        · have q1 := ps k; have q2 := pe k; have q3 := pd k; have q4 := pt k
          refine W15_of (c := 300) ⟨by dsimp only; omega, by dsimp only; omega, by dsimp only; omega, by dsimp only; omega⟩ ⟨by have := hty.s; omega, by have := hty.e; omega, by have := hty.d; omega, by have := hty.t; omega⟩ (by omega) ?_
          unfold J3_4
          rw [e1]
          have hit : ∀ π : TTotal → Int, lnSv π svc y = π y.total := fun π => by unfold lnSv; rw [if_pos hs]
          refine hN2 _ (by omega) ⟨by simp, ?_, ?_, ?_, ?_⟩
          · dsimp only [addT]; rw [sumI_take _ hy, k1, hit]
          · dsimp only [addT]; rw [sumI_take _ hy, k2, hit]
          · dsimp only [addT]; rw [sumI_take _ hy, k3, hit]
          · dsimp only [addT]; rw [sumI_take _ hy, k4, hit]
      · rw [hxg] at hs
        unfold J3_4
        rw [e1]
        have hit : ∀ π : TTotal → Int, lnSv π svc y = 0 := fun π => by unfold lnSv; rw [if_neg hs]
        refine hN2 _ (by omega) ⟨by simp, ?_, ?_, ?_, ?_⟩
        · dsimp only; rw [sumI_take _ hy, k1, hit]; omega
        · dsimp only; rw [sumI_take _ hy, k2, hit]; omega
        · dsimp only; rw [sumI_take _ hy, k3, hit]; omega
        · dsimp only; rw [sumI_take _ hy, k4, hit]; omega
    · have : k = r2.length := by omega
      subst this
      rw [List.take_length] at k1 k2 k3 k4
      refine idx_nat hil fun x hx => ?_
      rw [hxi] at hx; cases hx
      rw [hxt]
      have f1 := hf.s svc; have f2 := hf.e svc; have f3 := hf.d svc; have f4 := hf.t svc
      dsimp only at f1 f2 f3 f4
      rw [hT, ← sum2] at f1 f2 f3 f4
      refine cond_dec (fun hn => absurd (by rw [k1, f1]) hn) fun _ => cond_dec (fun hn => absurd (by rw [k2, f2]) hn) fun _ => cond_dec (fun hn => absurd (by rw [k3, f3]) hn) fun _ => ?_
      have : decide (e.2.traces > a4) = false := decide_eq_false (by rw [k4]; omega)
      rw [this]
      unfold J3_5
      refine ⟨fun h => (by cases h), fun _ => ?_⟩
      rw [w64_in (by omega) (by omega)]
      exact hN1 _ (by omega) (by simp)
  · rw [w64_in (by omega) (by omega)]
    exact hN _ (by omega) (by simp; omega)

end Go.Proofs.Ytnpdeecoejabgaa
