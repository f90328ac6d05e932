/- PLAIN LAWS, 4: totals of groups; counts. -/
import Derived.Test.YtnpdeecoejabgaaPC
set_option maxRecDepth 100000
set_option linter.unusedSimpArgs false
set_option linter.unusedVariables false
namespace Go.Proofs.Ytnpdeecoejabgaa
open Go Go.RowKit

/-! ### Sums -/
def sumI {α : Type} (f : α → Int) : List α → Int
  | [] => 0
  | x :: r => f x + sumI f r
theorem sumI_append {α : Type} (f : α → Int) : ∀ (a b : List α), sumI f (a ++ b) = sumI f a + sumI f b
  | [], b => by simp [sumI]
  | x :: a, b => by simp only [List.cons_append, sumI, sumI_append f a b]; omega
theorem take_snoc {α : Type} {l : List α} {i : Nat} {x : α} (h : l[i]? = some x) : l.take (i + 1) = l.take i ++ [x] := by
  rw [List.take_add_one, h]; rfl
theorem sumI_take {α : Type} (f : α → Int) {l : List α} {i : Nat} {x : α} (h : l[i]? = some x) : sumI f (l.take (i + 1)) = sumI f (l.take i) + f x := by
  rw [take_snoc h, sumI_append]; simp [sumI]
theorem sumI_bound {α : Type} (f : α → Int) (c : Int) : ∀ (l : List α), (∀ x ∈ l, 0 ≤ f x ∧ f x ≤ c) → 0 ≤ sumI f l ∧ sumI f l ≤ c * l.length
  | [], _ => by simp [sumI]
  | x :: l, h => by
    have h1 := h x (by simp)
    have h2 := sumI_bound f c l fun y hy => h y (by simp [hy])
    simp only [sumI, List.length_cons, Int.natCast_add, Int.mul_add]
    omega

/-! ### Maps -/
section
variable {κ β : Type} [DecidableEq κ]
theorem alGet_mem {k : κ} {v : β} : ∀ {m : List (κ × β)}, alGet k m = some v → (k, v) ∈ m
  | p :: m, h => by
    simp only [alGet] at h
    split at h
    · rename_i e; cases h; subst e; simp
    · exact List.mem_cons_of_mem _ (alGet_mem h)
theorem alPut_mem {k : κ} {v : β} {e : κ × β} : ∀ {m : List (κ × β)}, e ∈ alPut k v m → e = (k, v) ∨ e ∈ m
  | [], h => by simp [alPut] at h; exact .inl h
  | p :: m, h => by
    simp only [alPut] at h
    split at h
    · rcases List.mem_cons.1 h with h | h
      · exact .inl h
      · exact .inr (List.mem_cons_of_mem _ h)
    · rcases List.mem_cons.1 h with h | h
      · exact .inr (by rw [h]; simp)
      · rcases alPut_mem h with h | h
        · exact .inl h
        · exact .inr (List.mem_cons_of_mem _ h)
theorem alPut_keys {k : κ} {v : β} : ∀ (m : List (κ × β)), (alPut k v m).map (·.1) = if k ∈ m.map (·.1) then m.map (·.1) else m.map (·.1) ++ [k]
  | [] => by simp [alPut]
  | p :: m => by
    simp only [alPut]
    by_cases e : k = p.1
    · simp [e]
    · simp only [if_neg e, List.map_cons]
      rw [alPut_keys m]
      by_cases h : k ∈ m.map (·.1)
      · rw [if_pos h, if_pos (List.mem_cons_of_mem _ h)]
      · rw [if_neg h, if_neg (by rw [List.mem_cons]; exact fun hh => hh.elim e h)]; rfl
theorem alPut_nodup {k : κ} {v : β} {m : List (κ × β)} (h : (m.map (·.1)).Nodup) : ((alPut k v m).map (·.1)).Nodup := by
  rw [alPut_keys]
  split
  · exact h
  · rename_i hk
    rw [List.nodup_append]
    exact ⟨h, by simp, fun a ha b hb => by simp at hb; subst hb; exact fun e => hk (e ▸ ha)⟩
theorem alGet_put (k k' : κ) (v : β) : ∀ (m : List (κ × β)), alGet k' (alPut k v m) = if k' = k then some v else alGet k' m
  | [] => by simp only [alPut, alGet]
  | p :: m => by
    simp only [alPut]
    by_cases e : k = p.1
    · subst e
      simp only [if_true, alGet]
      split <;> simp [*]
    · simp only [if_neg e, alGet, alGet_put k k' v m]
      by_cases e2 : k' = p.1
      · subst e2
        simp [Ne.symm e]
      · simp [e2]
end

theorem nodup_len {α : Type} [DecidableEq α] : ∀ (xs ys : List α), xs.Nodup → (∀ x ∈ xs, x ∈ ys) → xs.length ≤ ys.length
  | [], _, _, _ => by simp
  | x :: xs, ys, hn, h => by
    have hx := h x (by simp)
    have h1 := List.length_erase_of_mem hx
    have h2 := List.length_pos_of_mem hx
    have h3 := nodup_len xs (ys.erase x) (List.nodup_cons.1 hn).2 fun y hy => by
      have : y ≠ x := fun e => (List.nodup_cons.1 hn).1 (e ▸ hy)
      exact (List.mem_erase_of_ne this).2 (h y (by simp [hy]))
    simp only [List.length_cons]
    omega

/-! ### Totals -/
def eB : ByteArray := ⟨#[]⟩
def grp (level : Int) (s : TSpan) : TGroup := if level = 1 then ⟨s.service, eB, eB⟩ else if level = 2 then ⟨s.service, s.version, eB⟩ else ⟨s.service, eB, s.operation⟩
def zT : TTotal := ⟨0, 0, 0, 0⟩
def addT (a b : TTotal) : TTotal := ⟨a.spans + b.spans, a.errors + b.errors, a.duration + b.duration, a.traces + b.traces⟩
def oneT (w : Int) (x : TSpan) (first : Bool) : TTotal := ⟨w, if x.error = true then w else 0, w * (x.end_ - x.start), if first = true then w else 0⟩
abbrev BySt := List (TGroup × TTotal) × List (TGroup × Bool)
def stepSp (level w : Int) (st : BySt) (x : TSpan) : BySt :=
  (alPut (grp level x) (addT ((alGet (grp level x) st.1).getD zT) (oneT w x (!((alGet (grp level x) st.2).getD false)))) st.1,
    if (alGet (grp level x) st.2).getD false = true then st.2 else alPut (grp level x) true st.2)
def stepTr (level : Int) (m : List (TGroup × TTotal)) (t : TTrace) : List (TGroup × TTotal) := (t.spans.foldl (stepSp level t.weight) (m, [])).1
def byMap (level : Int) (l : List TTrace) : List (TGroup × TTotal) := l.foldl (stepTr level) []

def allG : List TGroup := (svcs.map fun s => ⟨s, eB, eB⟩)
def allG2 : List TGroup := svcs.flatMap fun s => vers.map fun v => ⟨s, v, eB⟩
def allG3 : List TGroup := svcs.flatMap fun s => opss.map fun o => ⟨s, eB, o⟩

theorem grp_all (level : Int) {x : TSpan} (h : GoodSpan x) : (level = 1 ∧ grp level x ∈ allG) ∨ (level = 2 ∧ grp level x ∈ allG2) ∨ (level ≠ 1 ∧ level ≠ 2 ∧ grp level x ∈ allG3) := by
  unfold grp
  by_cases h1 : level = 1
  · exact .inl ⟨h1, by rw [if_pos h1]; exact List.mem_map.2 ⟨_, h.svc, rfl⟩⟩
  · by_cases h2 : level = 2
    · exact .inr (.inl ⟨h2, by rw [if_neg h1, if_pos h2]; exact List.mem_flatMap.2 ⟨_, h.svc, List.mem_map.2 ⟨_, h.ver, rfl⟩⟩⟩)
    · exact .inr (.inr ⟨h1, h2, by rw [if_neg h1, if_neg h2]; exact List.mem_flatMap.2 ⟨_, h.svc, List.mem_map.2 ⟨_, h.op, rfl⟩⟩⟩)

/-- How great totals are after c spans. -/
structure TB (c : Nat) (T : TTotal) : Prop where
  s : 0 ≤ T.spans ∧ T.spans ≤ 16 * c
  e : 0 ≤ T.errors ∧ T.errors ≤ 16 * c
  d : 0 ≤ T.duration ∧ T.duration ≤ 48000 * c
  t : 0 ≤ T.traces ∧ T.traces ≤ 16 * c
structure MB (level : Int) (c : Nat) (m : List (TGroup × TTotal)) : Prop where
  b : ∀ e ∈ m, TB c e.2
  nd : (m.map (·.1)).Nodup
  k : ∀ e ∈ m, ∃ x, GoodSpan x ∧ e.1 = grp level x

theorem MB.mono {level : Int} {c c' : Nat} {m} (h : MB level c m) (hc : c ≤ c') : MB level c' m :=
  ⟨fun e he => let ⟨a, b, c, d⟩ := h.b e he; ⟨by omega, by omega, by omega, by omega⟩, h.nd, h.k⟩
theorem MB.len {level : Int} {c : Nat} {m} (h : MB level c m) : m.length ≤ 12 := by
  have h1 : (m.map (·.1)).length = m.length := by simp
  rw [← h1]
  have key : ∀ ys : List TGroup, (∀ x, GoodSpan x → grp level x ∈ ys) → ys.length ≤ 12 → (m.map (·.1)).length ≤ 12 := fun ys h2 h3 =>
    Nat.le_trans (nodup_len _ ys h.nd fun g hg => by
      obtain ⟨e, he, rfl⟩ := List.mem_map.1 hg
      obtain ⟨x, hx, e2⟩ := h.k e he
      rw [e2]; exact h2 x hx) h3
  by_cases l1 : level = 1
  · exact key allG (fun x hx => by rcases grp_all level hx with h | h | h; exact h.2; exact absurd (l1.symm.trans h.1) (by decide); exact absurd l1 h.1) (by decide)
  · by_cases l2 : level = 2
    · exact key allG2 (fun x hx => by rcases grp_all level hx with h | h | h; exact absurd h.1 l1; exact h.2; exact absurd l2 h.2.1) (by decide)
    · exact key allG3 (fun x hx => by rcases grp_all level hx with h | h | h; exact absurd h.1 l1; exact absurd h.1 l2; exact h.2.2) (by decide)

theorem mul_bound {w d : Int} (h1 : 1 ≤ w) (h2 : w ≤ 16) (h3 : 0 ≤ d) (h4 : d ≤ 3000) : 0 ≤ w * d ∧ w * d ≤ 48000 := by
  constructor
  · exact Int.mul_nonneg (by omega) h3
  · have : w * d ≤ 16 * 3000 := Int.mul_le_mul h2 h4 h3 (by omega)
    omega

theorem stepSp_mb {level w : Int} {c : Nat} {st : BySt} {x : TSpan} (hx : GoodSpan x) (h1 : 1 ≤ w) (h2 : w ≤ 16) (h : MB level c st.1) : MB level (c + 1) (stepSp level w st x).1 := by
  have hd := mul_bound h1 h2 (d := x.end_ - x.start) (by have := hx.le; omega) (by have := hx.hi; have := hx.lo; omega)
  have hg : TB c ((alGet (grp level x) st.1).getD zT) := by
    cases hh : alGet (grp level x) st.1 with
    | none => exact ⟨by simp [zT]; omega, by simp [zT]; omega, by simp [zT]; omega, by simp [zT]; omega⟩
    | some T => exact h.b _ (alGet_mem hh)
  have ho : ∀ b : Bool, 0 ≤ (oneT w x b).traces ∧ (oneT w x b).traces ≤ 16 := fun b => by cases b <;> simp [oneT] <;> omega
  have he : ∀ b : Bool, 0 ≤ (oneT w x b).errors ∧ (oneT w x b).errors ≤ 16 := fun b => by cases hh : x.error <;> simp [oneT, hh] <;> omega
  refine ⟨fun e hm => ?_, alPut_nodup h.nd, fun e hm => ?_⟩
  · rcases alPut_mem hm with rfl | hm
    · have ho := ho (!((alGet (grp level x) st.2).getD false))
      have he := he (!((alGet (grp level x) st.2).getD false))
      refine ⟨?_, ?_, ?_, ?_⟩
      · simp only [addT, oneT]; have := hg.s; omega
      · simp only [addT]; have := hg.e; omega
      · simp only [addT, oneT]; have := hg.d; omega
      · simp only [addT]; have := hg.t; omega
    · exact (h.mono (Nat.le_succ c)).b e hm
  · rcases alPut_mem hm with rfl | hm
    · exact ⟨x, hx, rfl⟩
    · exact h.k e hm

theorem W39_of {a b : TTotal} {c : Nat} (ha : TB c a) (hb : TB c b) (hc : c ≤ 1000) {K : TTotal → Prop} (h : K (addT a b)) : W39 a b K := by
  unfold W39
  have := ha.s; have := ha.e; have := ha.d; have := ha.t; have := hb.s; have := hb.e; have := hb.d; have := hb.t
  rw [w64_in (by omega) (by omega), w64_in (by omega) (by omega), w64_in (by omega) (by omega), w64_in (by omega) (by omega)]
  exact h

/-- The lines of a list of traces. -/
theorem W14_of {l : List TTrace} (hl : GoodL l) {level : Int} (h1 : 1 ≤ level) (h3 : level ≤ 3) {K : List TLine × Int → Prop} (h : ∀ r, r.Perm ((byMap level l).map mkLine) → Sorted r → MB level 24 (byMap level l) → K (r, 0)) : W14 l level K := by
  unfold W14 W37
  have go : ∀ r : C × Bool, r.2 = true → (∀ (x : TSpan) (KK : TGroup → Prop), KK (grp level x) → ((r.1 = .fn 62 [] ∧ W62 x KK) ∨ (r.1 = .fn 63 [] ∧ W63 x KK) ∨ (r.1 = .fn 64 [] ∧ W64 x KK))) →
      Cond (!r.2) (K ([], 12)) (LoopW (fun (s : ((List (TGroup × TTotal)) × Int)) N => L14_1 l r K s.1 s.2 N) ([], 0)) := by
    intro r hr hgrp
    refine cond_not (fun h => by rw [hr] at h; cases h) fun _ => ?_
    have hl3 := hl.len
    refine loop_idx l.length (fun i (v : List (TGroup × TTotal) × Int) => v.2 = (i : Int) ∧ v.1 = byMap level (l.take i) ∧ MB level (8 * i) v.1) ⟨rfl, rfl, ⟨by simp, by simp, by simp⟩⟩ ?_
    rintro i ⟨m, v⟩ N hi ⟨rfl, g1, g2⟩ hN
    dsimp only at g1 g2 ⊢
    unfold L14_1
    refine cond_dec (fun hlt => ?_) fun hge => ?_
    · refine idx_nat (by omega) fun t ht => ?_
      have hgt := hl.all t (mem_of_get ht)
      have h8 := hgt.len
      refine loop_idx t.spans.length (fun k (v : List (TGroup × TTotal) × List (TGroup × Bool) × Int) => v.2.2 = (k : Int) ∧ (v.1, v.2.1) = (t.spans.take k).foldl (stepSp level t.weight) (m, []) ∧ MB level (8 * i + k) v.1) ⟨rfl, rfl, g2⟩ ?_
      rintro k ⟨m', seen, v⟩ N' hk ⟨rfl, k1, k2⟩ hN'
      dsimp only at k1 k2 ⊢
      unfold L14_2
      refine cond_dec (fun hlt2 => ?_) fun hge2 => ?_
      · refine idx_nat (by omega) fun x hx => ⟨fun g => g = grp level x, hgrp x _ rfl, ?_⟩
        rintro _ rfl
        have hgs := hgt.spans x (mem_of_get hx)
        unfold W38
        have b1 := hgs.lo; have b2 := hgs.le; have b3 := hgs.hi
        have hw1 := hgt.w1; have hw2 := hgt.w2
        rw [w64_in (by omega) (by omega)]
        have hd := mul_bound hw1 hw2 (d := x.end_ - x.start) (by omega) (by omega)
        -- the last part
        have last : ∀ seen' : Bool, seen' = (alGet (grp level x) seen).getD false → ∀ er, er = (if x.error = true then t.weight else 0) → J14_4 (grp level x) m' t er (x.end_ - x.start) N' (k : Int) (if seen' = true then seen else alPut (grp level x) true seen) (if seen' = true then 0 else t.weight) := by
          intro seen' hs er her
          unfold J14_4
          rw [w64_in (n := t.weight * _) (by omega) (by omega), w64_in (n := (k : Int) + 1) (by omega) (by omega)]
          have e0 : (TTotal.mk (((alGet (grp level x) m').getD (TTotal.mk 0 0 0 0)).spans) (((alGet (grp level x) m').getD (TTotal.mk 0 0 0 0)).errors) (((alGet (grp level x) m').getD (TTotal.mk 0 0 0 0)).duration) (((alGet (grp level x) m').getD (TTotal.mk 0 0 0 0)).traces)) = (alGet (grp level x) m').getD zT := rfl
          rw [e0]
          have e1 : TTotal.mk t.weight er (t.weight * (x.end_ - x.start)) (if seen' = true then 0 else t.weight) = oneT t.weight x (!seen') := by
            rw [her]; unfold oneT; cases seen' <;> rfl
          rw [e1]
          have hgT : TB (8 * i + k + 1) ((alGet (grp level x) m').getD zT) := by
            cases hh : alGet (grp level x) m' with
            | none => exact ⟨by simp [zT]; omega, by simp [zT]; omega, by simp [zT]; omega, by simp [zT]; omega⟩
            | some T => exact (k2.mono (Nat.le_succ _)).b _ (alGet_mem hh)
          have hoT : TB (8 * i + k + 1) (oneT t.weight x (!seen')) := by
            refine ⟨?_, ?_, ?_, ?_⟩
            · simp only [oneT]; omega
            · simp only [oneT]; split <;> omega
            · simp only [oneT]; omega
            · simp only [oneT]; split <;> omega
          refine W39_of hgT hoT (by omega) (hN' _ (by omega) ⟨by simp, ?_, ?_⟩)
          · dsimp only
            rw [take_snoc hx, List.foldl_append, ← k1, hs]
            rfl
          · have := stepSp_mb (st := (m', seen)) hgs hw1 hw2 k2
            rw [hs]
            exact this
        have mid : ∀ er, er = (if x.error = true then t.weight else 0) → J14_3 (grp level x) seen m' t (x.end_ - x.start) N' (k : Int) er := by
          intro er her
          unfold J14_3
          refine cond_not (fun h => ?_) fun h => ?_
          · exact last false h.symm er her
          · exact last true h.symm er her
        refine cond_bool (fun he => mid _ (by rw [if_pos he])) fun he => mid _ (by rw [if_neg (by rw [he]; simp)])
      · have : k = t.spans.length := by omega
        subst this
        rw [List.take_length] at k1
        rw [w64_in (n := (i : Int) + 1) (by omega) (by omega)]
        refine hN _ (by omega) ⟨by simp, ?_, k2.mono (by omega)⟩
        dsimp only
        rw [take_snoc ht]
        unfold byMap
        rw [List.foldl_append]
        show m' = stepTr level (byMap level (l.take i)) t
        rw [← g1]
        unfold stepTr
        rw [← k1]
    · have : i = l.length := by omega
      subst this
      rw [List.take_length] at g1
      subst g1
      refine W40_of g2.len fun r hp hs => h r hp hs (g2.mono (by omega))
  refine cond_dec (fun h => ?_) fun h1' => cond_dec (fun h => ?_) fun h2' => cond_dec (fun h => ?_) fun h3' => by omega
  · exact go _ rfl fun x KK hk => .inl ⟨rfl, by unfold W62; rw [show grp level x = ⟨x.service, eB, eB⟩ by unfold grp; rw [if_pos h]] at hk; exact hk⟩
  · exact go _ rfl fun x KK hk => .inr (.inl ⟨rfl, by unfold W63; rw [show grp level x = ⟨x.service, x.version, eB⟩ by unfold grp; rw [if_neg h1', if_pos h]] at hk; exact hk⟩)
  · exact go _ rfl fun x KK hk => .inr (.inr ⟨rfl, by unfold W64; rw [show grp level x = ⟨x.service, eB, x.operation⟩ by unfold grp; rw [if_neg h1', if_neg h2']] at hk; exact hk⟩)

/-! ### Counts -/
def part (id : Int) : Int := Int.fdiv (Int.fdiv id (2 ^ 20)) (2 ^ 4)
def spHit (p : Int) (sv : ByteArray) (id : Int) (x : TSpan) : Int := if part id = p ∧ x.service = sv then 1 else 0
def trHit (p : Int) (sv : ByteArray) (t : TTrace) : Int := sumI (spHit p sv t.id) t.spans
def rmHit (p : Int) (sv : ByteArray) (x : TRemoved) : Int := if x.partition = p ∧ x.service = sv then x.spans else 0
def ltHit (p : Int) (x : TLate) : Int := if x.partition = p then x.spans else 0

theorem W18_of {id : Int} {K : Int → Prop} (h : K (part id)) : W18 id K := by unfold W18 W43; exact h

structure RetB (r : TRetained) : Prop where
  tl : r.traces.length ≤ 3
  ts : ∀ t ∈ r.traces, t.spans.length ≤ 8
  rl : r.removed.length ≤ 100
  rs : ∀ x ∈ r.removed, 0 ≤ x.spans ∧ x.spans ≤ 100
  ll : r.late.length ≤ 100
  ls : ∀ x ∈ r.late, 0 ≤ x.spans ∧ x.spans ≤ 100

theorem spHit_b (p sv id) (x : TSpan) : 0 ≤ spHit p sv id x ∧ spHit p sv id x ≤ 1 := by unfold spHit; split <;> omega
theorem trHit_b {p sv} {t : TTrace} (h : t.spans.length ≤ 8) : 0 ≤ trHit p sv t ∧ trHit p sv t ≤ 8 := by
  have := sumI_bound (spHit p sv t.id) 1 t.spans fun x _ => spHit_b _ _ _ x
  unfold trHit; omega

theorem W19_of {r : TRetained} (hr : RetB r) {p : Int} {sv : ByteArray} {K : Int × Int → Prop}
    (h : ∀ b lt, b = sumI (trHit p sv) r.traces + sumI (rmHit p sv) r.removed → lt = sumI (ltHit p) r.late → K (if b - lt > 0 then b - lt else 0, b + lt)) : W19 r p sv K := by
  unfold W19
  have htl := hr.tl; have hrl := hr.rl; have hll := hr.ll
  have tb : ∀ i, 0 ≤ sumI (trHit p sv) (r.traces.take i) ∧ sumI (trHit p sv) (r.traces.take i) ≤ 24 := fun i => by
    have := sumI_bound (trHit p sv) 8 (r.traces.take i) fun t ht => trHit_b (hr.ts t (List.mem_of_mem_take ht))
    have : (r.traces.take i).length ≤ 3 := by simp; omega
    omega
  have rb : ∀ i, 0 ≤ sumI (rmHit p sv) (r.removed.take i) ∧ sumI (rmHit p sv) (r.removed.take i) ≤ 10000 := fun i => by
    have := sumI_bound (rmHit p sv) 100 (r.removed.take i) fun x hx => by
      have := hr.rs x (List.mem_of_mem_take hx)
      unfold rmHit; split <;> omega
    have : (r.removed.take i).length ≤ 100 := by simp; omega
    omega
  have lb : ∀ i, 0 ≤ sumI (ltHit p) (r.late.take i) ∧ sumI (ltHit p) (r.late.take i) ≤ 10000 := fun i => by
    have := sumI_bound (ltHit p) 100 (r.late.take i) fun x hx => by
      have := hr.ls x (List.mem_of_mem_take hx)
      unfold ltHit; split <;> omega
    have : (r.late.take i).length ≤ 100 := by simp; omega
    omega
  refine loop_idx r.traces.length (fun i (v : Int × Int) => v.2 = (i : Int) ∧ v.1 = sumI (trHit p sv) (r.traces.take i)) ⟨rfl, rfl⟩ ?_
  rintro i ⟨a, v⟩ N hi ⟨rfl, g1⟩ hN
  dsimp only at g1 ⊢
  unfold L19_1
  refine cond_dec (fun hlt => ?_) fun hge => ?_
  · refine idx_nat (by omega) fun t ht => ?_
    have h8 := hr.ts t (mem_of_get ht)
    have tbi := tb i
    refine loop_idx t.spans.length (fun k (v : Int × Int) => v.2 = (k : Int) ∧ v.1 = a + sumI (spHit p sv t.id) (t.spans.take k)) ⟨rfl, by simp [sumI]⟩ ?_
    rintro k ⟨b, v⟩ N' hk ⟨rfl, k1⟩ hN'
    dsimp only at k1 ⊢
    have kb := sumI_bound (spHit p sv t.id) 1 (t.spans.take k) fun x _ => spHit_b _ _ _ x
    have klen : (t.spans.take k).length ≤ 8 := by simp; omega
    unfold L19_2
    refine cond_dec (fun hlt2 => ?_) fun hge2 => ?_
    · refine idx_nat (by omega) fun x hx => W18_of ?_
      have e1 : w64 ((k : Int) + 1) = (k : Int) + 1 := w64_in (by omega) (by omega)
      have fin : ∀ q : Bool, (q = true ↔ part t.id = p ∧ x.service = sv) → J19_4 N' (k : Int) b q := by
        intro q hq
        unfold J19_4 J19_3
        rw [e1]
        have hsum := sumI_take (spHit p sv t.id) hx
        refine cond_bool (fun h => ?_) fun h => ?_
        · rw [w64_in (by omega) (by omega)]
          refine hN' _ (by omega) ⟨by simp, ?_⟩
          dsimp only
          rw [hsum, k1]; unfold spHit; rw [if_pos (hq.1 h)]; omega
        · refine hN' _ (by omega) ⟨by simp, ?_⟩
          dsimp only
          rw [hsum, k1]; unfold spHit; rw [if_neg (fun hh => by rw [hq.2 hh] at h; cases h)]; omega
      refine cond_dec (fun h1 => fin _ ?_) fun h1 => fin _ ?_
      · simp [h1]
      · simp [h1]
    · have : k = t.spans.length := by omega
      subst this
      rw [w64_in (by omega) (by omega)]
      refine hN _ (by omega) ⟨by simp, ?_⟩
      dsimp only
      rw [sumI_take _ ht, k1, g1, List.take_length]; rfl
  · have : i = r.traces.length := by omega
    subst this
    have tbi := tb r.traces.length
    rw [List.take_length] at g1 tbi
    refine loop_idx r.removed.length (fun i (v : Int × Int) => v.2 = (i : Int) ∧ v.1 = a + sumI (rmHit p sv) (r.removed.take i)) ⟨rfl, by simp [sumI]⟩ ?_
    rintro i ⟨b, v⟩ N' hi ⟨rfl, k1⟩ hN'
    dsimp only at k1 ⊢
    have rbi := rb i
    have e1 : w64 ((i : Int) + 1) = (i : Int) + 1 := w64_in (by omega) (by omega)
    unfold L19_5
    refine cond_dec (fun hlt2 => ?_) fun hge2 => ?_
    · refine idx_nat (by omega) fun x hx => ?_
      have hxs := hr.rs x (mem_of_get hx)
      have hsum := sumI_take (rmHit p sv) hx
      have fin : ∀ q : Bool, (q = true ↔ x.partition = p ∧ x.service = sv) → J19_7 N' (i : Int) b x q := by
        intro q hq
        unfold J19_7 J19_6
        rw [e1]
        refine cond_bool (fun h => ?_) fun h => ?_
        · rw [w64_in (by omega) (by omega)]
          refine hN' _ (by omega) ⟨by simp, ?_⟩
          dsimp only
          rw [hsum, k1]; unfold rmHit; rw [if_pos (hq.1 h)]; omega
        · refine hN' _ (by omega) ⟨by simp, ?_⟩
          dsimp only
          rw [hsum, k1]; unfold rmHit; rw [if_neg (fun hh => by rw [hq.2 hh] at h; cases h)]; omega
      refine cond_dec (fun h1 => fin _ ?_) fun h1 => fin _ ?_
      · simp [h1]
      · simp [h1]
    · have : i = r.removed.length := by omega
      subst this
      rw [List.take_length] at k1 rbi
      refine loop_idx r.late.length (fun i (v : Int × Int) => v.2 = (i : Int) ∧ v.1 = sumI (ltHit p) (r.late.take i)) ⟨rfl, by simp [sumI]⟩ ?_
      rintro i ⟨c, v⟩ N'' hi ⟨rfl, c1⟩ hN''
      dsimp only at c1 ⊢
      have lbi := lb i
      have e1 : w64 ((i : Int) + 1) = (i : Int) + 1 := w64_in (by omega) (by omega)
      unfold L19_8
      refine cond_dec (fun hlt3 => ?_) fun hge3 => ?_
      · refine idx_nat (by omega) fun x hx => ?_
        have hxs := hr.ls x (mem_of_get hx)
        have hsum := sumI_take (ltHit p) hx
        unfold J19_9
        rw [e1]
        refine cond_dec (fun h1 => ?_) fun h1 => ?_
        · rw [w64_in (by omega) (by omega)]
          refine hN'' _ (by omega) ⟨by simp, ?_⟩
          dsimp only
          rw [hsum, c1]; unfold ltHit; rw [if_pos h1]
        · refine hN'' _ (by omega) ⟨by simp, ?_⟩
          dsimp only
          rw [hsum, c1]; unfold ltHit; rw [if_neg h1]; omega
      · have : i = r.late.length := by omega
        subst this
        rw [List.take_length] at c1 lbi
        rw [w64_in (n := b - c) (by omega) (by omega), w64_in (n := b + c) (by omega) (by omega)]
        exact h b c (by rw [k1, g1]) c1

end Go.Proofs.Ytnpdeecoejabgaa
