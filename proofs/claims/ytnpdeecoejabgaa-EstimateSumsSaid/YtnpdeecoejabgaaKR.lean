/- THE ABSTRACT MACHINE, 17: calls are sound. -/
import Derived.Test.YtnpdeecoejabgaaKQ
set_option linter.unusedSimpArgs false
set_option linter.unusedVariables false
namespace Go.Proofs.Ytnpdeecoejabgaa
open Go Go.RowKit

section
variable {P : Program} {cx : Ctx} {μ : Nat → Option Nat} {σ : ASt} {a : Act} {w : World}

/-- What a callee leaves alone. -/
def Xc (cx : Ctx) (σ : ASt) (μ : Nat → Option Nat) (R : List Nat) (b : Nat) : Prop := cx.X0 b ∨ ∃ k, liveO (σ.o k) = true ∧ μ k = some b ∧ k ∉ R

theorem Xc.sub {R : List Nat} {b : Nat} (h : Xc cx σ μ R b) : Xs cx.X0 σ.o μ b := h.imp id fun ⟨k, h1, h2, _⟩ => ⟨k, h1, h2⟩

theorem Xc.apart (h : Rel cx μ σ a w) {R : List Nat} (hR : ∀ k ∈ R, isRowMap (σ.o k) = true ∧ cx.pk ≠ some k) {b : Nat} (hb : Xc cx σ μ R b) : ∀ k ∈ R, μ k ≠ some b := by
  intro k hk hm
  have hb' := hb.sub
  cases hl : liveO (σ.o k) with
  | true =>
    rcases hb with hb | ⟨j, h1, h2, h3⟩
    · exact (hR k hk).2 (h.xo k b hl hm hb)
    · exact h3 (h.inj k j b hl h1 hm h2 ▸ hk)
  | false =>
    have ho := h.obj k
    unfold RelO at ho
    have h1 := (hR k hk).1
    cases hx : σ.o k with
    | no => rw [hx] at h1; cases h1
    | iter _ _ _ _ => rw [hx] at h1; cases h1
    | row l E sz xs =>
      rw [hx] at ho hl
      rcases ho with ⟨hn, _⟩ | ⟨b', _, _, e1, _, _, _, _, _, _, _, e9⟩
      · rw [hn] at hm; cases hm
      · rw [e1] at hm; cases hm
        exact e9 hl hb'
    | map l ka va es =>
      rw [hx] at ho hl
      obtain ⟨b', _, _, e1, _, _, e4⟩ := ho
      rw [e1] at hm; cases hm
      exact e4 hl hb'

/-- The value that is handed over as a row of its own. -/
def ownV : List Bool → List AV → List Value → Option Value
  | fl, _ :: avs, v :: vs => if fl.headD false then some v else ownV fl.tail avs vs
  | _, _, _ => none

def obOf (m : Option Nat) : Value → Option Nat
  | .slice _ 0 0 => none
  | _ => m

theorem passOne_own {v : AV} {x : V RC} (h : passOne σ true v = some x) : ∃ k E sz ys, v = .one (.view k (σ.g k) 0 ys.length) ∧ σ.o k = .row true E sz (dmm ys) ∧ x = .one (.own E sz ys) := by
  simp only [passOne, if_true] at h
  unfold passOwn at h
  split at h
  · split at h
    · rename_i hg
      split at h
      · rename_i E sz xs hrow
        split at h
        · rename_i hn
          obtain ⟨ys, hys, rfl⟩ := Option.map_eq_some_iff.1 h
          have := pureRow_spec hys
          subst this
          rw [List.length_map] at hn
          subst hn
          subst hg
          exact ⟨_, E, sz, ys, rfl, hrow, rfl⟩
        · simp at h
      · simp at h
    · simp at h
  · simp at h

theorem passOne_plain {v : AV} {x : V RC} (h : passOne σ false v = some x) : (∃ c y, v = .one c ∧ frz σ 8 c = some y ∧ x = .one (.d y)) ∨ ∃ cs ys, v = .agg cs ∧ allSome (cs.map (frz σ 8)) = some ys ∧ x = .agg (ys.map .d) := by
  simp only [passOne, Bool.false_eq_true, if_false] at h
  unfold passPlain at h
  split at h
  · obtain ⟨y, hy, rfl⟩ := Option.map_eq_some_iff.1 h
    exact .inl ⟨_, y, rfl, hy, rfl⟩
  · obtain ⟨ys, hys, rfl⟩ := Option.map_eq_some_iff.1 h
    exact .inr ⟨_, ys, rfl, hys, rfl⟩
  · simp at h

theorem ownOf_t {fl : List Bool} (hf : fl.headD false = true) (v : AV) (vs : List AV) : ownOf fl (v :: vs) = ownName v := by unfold ownOf; rw [hf]; rfl
theorem ownOf_f {fl : List Bool} (hf : fl.headD false = false) (v : AV) (vs : List AV) : ownOf fl (v :: vs) = ownOf fl.tail vs := by rw [ownOf, hf]; rfl
theorem ownV_t {fl : List Bool} (hf : fl.headD false = true) (v : AV) (vs : List AV) (u : Value) (us : List Value) : ownV fl (v :: vs) (u :: us) = some u := by unfold ownV; rw [hf]; rfl
theorem ownV_f {fl : List Bool} (hf : fl.headD false = false) (v : AV) (vs : List AV) (u : Value) (us : List Value) : ownV fl (v :: vs) (u :: us) = ownV fl.tail vs us := by rw [ownV, hf]; rfl
theorem reach_f {fl : List Bool} (hf : fl.headD false = false) (v : AV) (vs : List AV) : reachArgs σ fl (v :: vs) = reachV σ v ++ reachArgs σ fl.tail vs := by rw [reachArgs, hf]; rfl

theorem nOwn_plain {v : AV} {x : V RC} (h : passOne σ false v = some x) : nOwn x = 0 := by
  rcases passOne_plain h with ⟨c, y, _, _, rfl⟩ | ⟨cs, ys, _, _, rfl⟩
  · rfl
  · simp [nOwn, List.filter_eq_nil_iff, isOwn]

theorem own_none : ∀ (fl : List Bool) (avs : List AV) (args : List (V RC)), passArgs σ fl avs = some args → (args.map nOwn).sum = 0 → ownOf fl avs = none := by
  intro fl avs
  induction avs generalizing fl with
  | nil => intro args _ _; rfl
  | cons v avs ih =>
    intro args hp hs
    simp only [passArgs] at hp
    split at hp
    · rename_i x xs hx hxs
      simp only [Option.some.injEq] at hp
      subst hp
      simp only [List.map_cons, List.sum_cons] at hs
      cases hf : fl.headD false with
      | true =>
        rw [hf] at hx
        obtain ⟨k, E, sz, ys, _, _, rfl⟩ := passOne_own hx
        simp [nOwn, isOwn] at hs
      | false =>
        rw [ownOf_f hf]
        exact ih fl.tail xs hxs (by omega)
    · simp at hp

/-- What is handed over stands as the contract wants it. -/
theorem pass_rel (h : Rel cx μ σ a w) {R : List Nat} (hR : ∀ k ∈ R, isRowMap (σ.o k) = true ∧ cx.pk ≠ some k) (ob : Option Nat) : ∀ (fl : List Bool) (avs : List AV) (vs : List Value) (args : List (V RC)), passArgs σ fl avs = some args →
    (∀ k ∈ reachArgs σ fl avs, k ∈ R) → (avs.length = vs.length ∧ ∀ (j : Nat) (x : AV) (v : Value), avs[j]? = some x → vs[j]? = some v → RepV (RCl cx μ σ w) x v) → ((args.map nOwn).sum ≤ 1) →
    (∀ k u, ownOf fl avs = some k → ownV fl avs vs = some u → ob = obOf (μ k) u) →
    args.length = vs.length ∧ ∀ (j : Nat) (x : V RC) (v : Value), args[j]? = some x → vs[j]? = some v → RepV (RepR w (Xc cx σ μ R) ob) x v := by
  intro fl avs
  induction avs generalizing fl with
  | nil =>
    intro vs args hp _ hv _ _
    simp only [passArgs, Option.some.injEq] at hp
    subst hp
    exact ⟨by simpa using hv.1, by simp⟩
  | cons v avs ih =>
    intro vs args hp hr hv hs ho
    cases vs with
    | nil => simp at hv
    | cons u vs =>
      simp only [passArgs] at hp
      split at hp
      case h_2 => simp at hp
      rename_i x xs hx hxs
      simp only [Option.some.injEq] at hp
      subst hp
      simp only [List.map_cons, List.sum_cons] at hs
      have hu := hv.2 0 v u rfl rfl
      have htl : avs.length = vs.length ∧ ∀ (j : Nat) (x : AV) (v : Value), avs[j]? = some x → vs[j]? = some v → RepV (RCl cx μ σ w) x v := ⟨by simpa using hv.1, fun j x v h1 h2 => hv.2 (j + 1) x v (by simpa using h1) (by simpa using h2)⟩
      have hhead : RepV (RepR w (Xc cx σ μ R) ob) x u := by
        cases hf : fl.headD false with
        | true =>
          rw [hf] at hx
          obtain ⟨k, E, sz, ys, rfl, hrow, rfl⟩ := passOne_own hx
          have hob := ho k u (by rw [ownOf_t hf]; rfl) (ownV_t hf _ _ _ _)
          have h1 := rv_one hu
          refine .one _ _ ?_ h1.one
          have ho2 := h.obj k
          unfold RelO at ho2
          rw [hrow] at ho2
          rcases view_at h1 rfl hrow with ⟨hm, _, hn, ad, rfl⟩ | ⟨h0, _⟩ | ⟨b, cap, cur, h2, h3, h4, rfl, h6⟩
          · have hys : ys = [] := List.eq_nil_of_length_eq_zero hn
            subst hys
            exact .inl ⟨rfl, hob, ad, rfl⟩
          · exact absurd rfl h0
          · rcases ho2 with ⟨hn, _⟩ | ⟨b', cur', cap', e1, e2, e3, e4, e5, e6, e7, e8, e9⟩
            · rw [hn] at h2; cases h2
            have hbb : b' = b := by rw [e1] at h2; exact Option.some.inj h2
            subst hbb
            have hcc : cur' = cur := by rw [e2] at h3; cases h3; rfl
            subst hcc
            have hcap : cap = cap' := by
              rw [e3, Nat.zero_add] at h4
              exact (Nat.eq_of_mul_eq_mul_right e4 h4).symm
            subst hcap
            by_cases hz : ys.length = 0 ∧ cap = 0
            · have hys : ys = [] := List.eq_nil_of_length_eq_zero hz.1
              subst hys
              obtain ⟨_, rfl⟩ := hz
              exact .inl ⟨rfl, hob, _, rfl⟩
            · have hob' : ob = some b' := by
                rw [hob, ← e1]
                unfold obOf
                split
                · rename_i heq
                  injection heq with _ g1 g2
                  exact absurd ⟨by simpa using g1, g2⟩ hz
                · rfl
              refine .inr ⟨b', cap, hob', by rw [Nat.zero_mul], cur', fun i j => cur'.getD (i * sz + j) undef, e2, e3, by simpa using e6, e4, e5, fun x hx => ?_, fun i x hi j c hj => ?_⟩
              · have := e7 (dm x) (List.mem_map_of_mem hx)
                simpa using this
              · obtain ⟨v, g1, g2⟩ := e8 i (dm x) (by simp [hi]) j (.d c) (by simp [hj])
                have : cur'.getD (i * sz + j) undef = v := by simp [g1]
                show _ = some (cur'.getD (i * sz + j) undef) ∧ RepC w _ c (cur'.getD (i * sz + j) undef)
                rw [this]
                refine ⟨g1, ?_⟩
                cases g2 with | d g3 => exact g3.mono (fun _ _ _ => rfl) (fun b _ hb hx => hb hx.sub)
        | false =>
          rw [hf] at hx
          have hrv : ∀ k ∈ reachV σ v, k ∈ R := fun k hk => hr k (by rw [reach_f hf]; exact List.mem_append_left _ hk)
          rcases passOne_plain hx with ⟨c, y, rfl, hy, rfl⟩ | ⟨cs, ys, rfl, hys, rfl⟩
          · have h1 := rv_one hu
            exact .one _ _ (frz_rel h (fun b hb => hb.sub) 8 c y u hy h1 fun b hb k hk => Xc.apart h hR hb k (hrv k hk)) h1.one
          · cases hu with
            | agg _ vs' hl hcs =>
              have hg := allSome_get hys
              refine .agg _ _ (by simp [hg.1, hl]) fun j c v hj hvj => ?_
              rw [List.getElem?_map] at hj
              cases hyj : ys[j]? with
              | none => rw [hyj] at hj; cases hj
              | some y =>
                rw [hyj] at hj; cases hj
                have hjl : j < cs.length := by rw [← hg.1]; exact (List.getElem?_eq_some_iff.1 hyj).1
                obtain ⟨y', e1, e2⟩ := hg.2 j _ (List.getElem?_eq_getElem hjl)
                have : y' = y := by rw [hyj] at e1; exact (Option.some.inj e1).symm
                subst this
                obtain ⟨e3, e4⟩ := hcs j _ v (List.getElem?_eq_getElem hjl) hvj
                refine ⟨frz_rel h (fun b hb => hb.sub) 8 _ y' v e2 e3 fun b hb k hk => Xc.apart h hR hb k (hrv k ?_), e4⟩
                exact List.mem_flatMap.2 ⟨_, List.getElem_mem hjl, hk⟩
      have htail := ih fl.tail vs xs hxs (fun k hk => hr k (by rw [reachArgs]; exact List.mem_append_right _ hk)) htl (by omega) (fun k u' hk hu' => by
        cases hf : fl.headD false with
        | true =>
          rw [hf] at hx
          obtain ⟨k', E, sz, ys, rfl, hrow, rfl⟩ := passOne_own hx
          have : nOwn (.one (.own E sz ys)) = 1 := rfl
          rw [own_none fl.tail avs xs hxs (by omega)] at hk
          cases hk
        | false => exact ho k u' (by rw [ownOf_f hf]; exact hk) (by rw [ownV_f hf]; exact hu'))
      refine ⟨by simpa using htail.1, fun j x' v' hj hvj => ?_⟩
      cases j with
      | zero => simp at hj hvj; subst hj; subst hvj; exact hhead
      | succ j => exact htail.2 j x' v' (by simpa using hj) (by simpa using hvj)

theorem rows_nil {w' : World} {Y : Nat → Prop} {args : List (V RC)} {vs : List Value} {rows : List (List (List C))} (h : RowsBack w' Y args vs rows) (hs : (args.map nOwn).sum = 0) : rows = [] := by
  induction h with
  | nil => rfl
  | skip h t ih => simp only [List.map_cons, List.sum_cons] at hs; exact ih (by omega)
  | own0 t ih => simp [nOwn, isOwn] at hs
  | own hl h t ih => simp [nOwn, isOwn] at hs
  | ownp hl h t ih => simp [nOwn, isOwn] at hs

/-- What comes back in the row that was handed over. -/
theorem back_rel (h : Rel cx μ σ a w) {w' : World} {Y : Nat → Prop} : ∀ (fl : List Bool) (avs : List AV) (vs : List Value) (args : List (V RC)) (rows : List (List (List C))), passArgs σ fl avs = some args → RowsBack w' Y args vs rows →
    (avs.length = vs.length ∧ ∀ (j : Nat) (x : AV) (v : Value), avs[j]? = some x → vs[j]? = some v → RepV (RCl cx μ σ w) x v) → ((args.map nOwn).sum ≤ 1) →
    (ownOf fl avs = none ∧ rows = []) ∨ ∃ k E sz ys xs u, ownOf fl avs = some k ∧ ownV fl avs vs = some u ∧ σ.o k = .row true E sz (dmm ys) ∧ rows = [xs] ∧ RCl cx μ σ w (.view k (σ.g k) 0 ys.length) u ∧ xs.length = ys.length ∧
      ((∃ ad, u = .slice ad 0 0) ∨ ∃ b cap n, u = .slice (some ⟨b, 0, none⟩) n cap ∧ OwnRow w' Y b E sz cap xs) := by
  intro fl avs
  induction avs generalizing fl with
  | nil =>
    intro vs args rows hp hb _ _
    simp only [passArgs, Option.some.injEq] at hp
    subst hp
    cases hb
    exact .inl ⟨rfl, rfl⟩
  | cons v avs ih =>
    intro vs args rows hp hb hv hs
    cases vs with
    | nil => simp at hv
    | cons u vs =>
      simp only [passArgs] at hp
      split at hp
      case h_2 => simp at hp
      rename_i x xs hx hxs
      simp only [Option.some.injEq] at hp
      subst hp
      simp only [List.map_cons, List.sum_cons] at hs
      have hu := hv.2 0 v u rfl rfl
      have htl : avs.length = vs.length ∧ ∀ (j : Nat) (x : AV) (v : Value), avs[j]? = some x → vs[j]? = some v → RepV (RCl cx μ σ w) x v := ⟨by simpa using hv.1, fun j x v h1 h2 => hv.2 (j + 1) x v (by simpa using h1) (by simpa using h2)⟩
      cases hf : fl.headD false with
      | true =>
        rw [hf] at hx
        obtain ⟨k, E, sz, ys, rfl, hrow, rfl⟩ := passOne_own hx
        have hn : nOwn (.one (.own E sz ys)) = 1 := rfl
        refine .inr ⟨k, E, sz, ys, ?_⟩
        have hcl := rv_one hu
        cases hb with
        | skip h0 t => rw [hn] at h0; cases h0
        | own0 t =>
          have := rows_nil t (by omega)
          subst this
          exact ⟨[], _, by rw [ownOf_t hf]; rfl, ownV_t hf _ _ _ _, hrow, rfl, hcl, rfl, .inl ⟨_, rfl⟩⟩
        | own hl hown t =>
          have := rows_nil t (by omega)
          subst this
          exact ⟨_, _, by rw [ownOf_t hf]; rfl, ownV_t hf _ _ _ _, hrow, rfl, hcl, hl, .inr ⟨_, _, _, rfl, hown⟩⟩
      | false =>
        rw [hf] at hx
        have h0 := nOwn_plain hx
        have hrest : ∃ rows', RowsBack w' Y xs vs rows' ∧ rows = rows' := by
          cases hb with
          | skip _ t => exact ⟨_, t, rfl⟩
          | own0 t => simp [nOwn, isOwn] at h0
          | own hl hown t => simp [nOwn, isOwn] at h0
          | ownp hl hown t => simp [nOwn, isOwn] at h0
        obtain ⟨rows', hb', rfl⟩ := hrest
        rcases ih fl.tail vs xs rows hxs hb' htl (by omega) with ⟨h1, h2⟩ | ⟨k, E, sz, ys, xs', u', h1, h2, h3⟩
        · exact .inl ⟨by rw [ownOf_f hf]; exact h1, h2⟩
        · exact .inr ⟨k, E, sz, ys, xs', u', by rw [ownOf_f hf]; exact h1, by rw [ownV_f hf]; exact h2, h3⟩

theorem own_live : ∀ (fl : List Bool) (avs : List AV) (args : List (V RC)), passArgs σ fl avs = some args → ∀ k, ownOf fl avs = some k → liveO (σ.o k) = true := by
  intro fl avs
  induction avs generalizing fl with
  | nil => intro args _ k hk; cases hk
  | cons v avs ih =>
    intro args hp k hk
    simp only [passArgs] at hp
    split at hp
    · rename_i x xs hx hxs
      cases hf : fl.headD false with
      | true =>
        rw [hf] at hx
        obtain ⟨k', E, sz, ys, rfl, hrow, rfl⟩ := passOne_own hx
        rw [ownOf_t hf] at hk
        simp only [ownName, Option.some.injEq] at hk
        subst hk
        rw [hrow]; rfl
      | false =>
        rw [ownOf_f hf] at hk
        exact ih fl.tail xs hxs k hk
    · simp at hp

def inRC : RC → C → Prop
  | .d c, x => x = c
  | .own _ _ xs, x => ∃ r ∈ xs, x ∈ r
  | .ownp _ cs, x => x ∈ cs

theorem flat_in {c : RC} (h : flatRC c = true) {x : C} (hx : inRC c x) : flatC x = true := by
  cases c with
  | d c => cases hx; exact h
  | own E sz xs =>
    obtain ⟨r, h1, h2⟩ := hx
    simp only [flatRC, List.all_eq_true] at h
    exact h r h1 x h2
  | ownp E cs =>
    simp only [flatRC, List.all_eq_true] at h
    exact h x hx

theorem flat_mem {rv : V RC} (h : flatV rv = true) {c : RC} (hc : c ∈ cellsV rv) : flatRC c = true := by
  cases rv with
  | any => simp [cellsV, cells1] at hc
  | one c' => simp [cellsV, cells1] at hc; subst hc; exact h
  | agg cs =>
    simp only [flatV, List.all_eq_true] at h
    exact h c hc
  | tup vs =>
    simp only [cellsV, List.mem_flatMap] at hc
    obtain ⟨v, hv, hc⟩ := hc
    simp only [flatV, List.all_eq_true] at h
    have h1 := h v hv
    cases v with
    | any => simp [cells1] at hc
    | one c' => simp [cells1] at hc; subst hc; exact h1
    | agg cs =>
      simp only [List.all_eq_true] at h1
      exact h1 c hc
    | tup _ => simp [cells1] at hc

theorem val1_rel {R : RC → Value → Prop} {S : AC → Value → Prop} {d : Nat} {rv : V RC} {v : Value} (hrv : RepV R rv v) (hcell : ∀ c ∈ cells1 rv, ∀ u, R c u → S (cellA σ d c) u) : RepV S (val1 σ d rv) v := by
  cases hrv with
  | any v => exact .any v
  | one c v hc h1 => exact .one _ _ (hcell c (by simp [cells1]) v hc) h1
  | agg cs vs hl hc =>
    refine .agg _ _ (by simpa using hl) fun j b v hb hv => ?_
    rw [List.getElem?_map] at hb
    cases hj : cs[j]? with
    | none => rw [hj] at hb; cases hb
    | some c =>
      rw [hj] at hb; cases hb
      obtain ⟨e1, e2⟩ := hc j c v hj hv
      exact ⟨hcell c (List.mem_of_getElem? hj) v e1, e2⟩
  | tup as vs hl hc => exact .any _

theorem valA_rel {R : RC → Value → Prop} {S : AC → Value → Prop} {d : Nat} {rv : V RC} {v : Value} (hrv : RepV R rv v) (hcell : ∀ c ∈ cellsV rv, ∀ u, R c u → S (cellA σ d c) u) : RepV S (valA σ d rv) v := by
  cases rv with
  | tup vs =>
    cases hrv with
    | tup _ us hl hc =>
      refine .tup _ _ (by simpa using hl) fun j b v hb hv => ?_
      rw [List.getElem?_map] at hb
      cases hj : vs[j]? with
      | none => rw [hj] at hb; cases hb
      | some x =>
        rw [hj] at hb; cases hb
        refine val1_rel (hc j x v hj hv) fun c hc u hu => hcell c ?_ u hu
        exact List.mem_flatMap.2 ⟨x, List.mem_of_getElem? hj, hc⟩
  | any => exact val1_rel hrv hcell
  | one c => exact val1_rel hrv hcell
  | agg cs => exact val1_rel hrv hcell

theorem mem_rep1 {R : RC → Value → Prop} {rv : V RC} {v : Value} (hrv : RepV R rv v) {c : RC} (hc : c ∈ cells1 rv) : ∃ u, R c u := by
  cases hrv with
  | any v => simp [cells1] at hc
  | one c' v h1 h2 => simp [cells1] at hc; subst hc; exact ⟨v, h1⟩
  | agg cs vs hl h1 =>
    obtain ⟨j, hj⟩ := List.getElem?_of_mem hc
    have hlt : j < vs.size := by rw [← hl]; exact (List.getElem?_eq_some_iff.1 hj).1
    exact ⟨vs[j], (h1 j c vs[j] hj (by simp [hlt])).1⟩
  | tup => simp [cells1] at hc

theorem mem_rep {R : RC → Value → Prop} {rv : V RC} {v : Value} (hrv : RepV R rv v) {c : RC} (hc : c ∈ cellsV rv) : ∃ u, R c u := by
  cases rv with
  | tup vs =>
    cases hrv with
    | tup _ us hl h1 =>
      obtain ⟨x, hx, hc⟩ := List.mem_flatMap.1 hc
      obtain ⟨j, hj⟩ := List.getElem?_of_mem hx
      have hlt : j < us.size := by rw [← hl]; exact (List.getElem?_eq_some_iff.1 hj).1
      exact mem_rep1 (h1 j x us[j] hj (by simp [hlt])) hc
  | any => exact mem_rep1 hrv hc
  | one c => exact mem_rep1 hrv hc
  | agg cs => exact mem_rep1 hrv hc

/-- The row that comes back stands as an object. -/
theorem own_relO {g : Nat → Nat} {o : Nat → AO} {m : Nat → Option Nat} {w' : World} {Y X : Nat → Prop} {k b E sz cap : Nat} {xs : List (List C)} (ho : o k = .row true E sz (dmm xs)) (hm : m k = some b) (hown : OwnRow w' Y b E sz cap xs)
    (hmono : ∀ x u, (∃ r ∈ xs, x ∈ r) → RepC w' Y x u → RelC g o m w' X (.d x) u) : RelO g o m w' X k := by
  unfold RelO
  rw [ho]
  obtain ⟨cur, f, h1, h2, h3, h4, h5, h6, h7⟩ := hown
  refine .inr ⟨b, cur, cap, hm, h1, h2, h4, h5, by simpa using h3, fun x hx => ?_, fun i x hi j c hj => ?_, fun e => by cases e⟩
  · obtain ⟨y, hy, rfl⟩ := List.mem_map.1 hx
    simpa using h6 y hy
  · rw [List.getElem?_map] at hi
    cases hxi : xs[i]? with
    | none => rw [hxi] at hi; cases hi
    | some y =>
      rw [hxi] at hi; cases hi
      rw [List.getElem?_map] at hj
      cases hyj : y[j]? with
      | none => rw [hyj] at hj; cases hj
      | some z =>
        rw [hyj] at hj; cases hj
        obtain ⟨e1, e2⟩ := h7 i y hxi j z hyj
        exact ⟨_, e1, hmono z _ ⟨y, List.mem_of_getElem? hxi, List.mem_of_getElem? hyj⟩ e2⟩

theorem live_frz {R : List Nat} {k : Nat} (hR : ∀ k ∈ R, isRowMap (σ.o k) = true) (h : liveO (frz_o σ.o R k) = true) : k ∉ R ∧ liveO (σ.o k) = true := by
  unfold frz_o at h
  split at h
  · rename_i hk
    have := hR k hk
    cases hx : σ.o k <;> rw [hx] at h this <;> simp [isRowMap, freezeO, liveO] at h this
  · rename_i hk; exact ⟨hk, h⟩

theorem put_frz (σ : ASt) (R : List Nat) (dst : Option Nat) (v : AV) (us : List (Nat × Nat × AO)) : σ.put dst (v, frozenUpd σ R ++ us) = (⟨σ.t, σ.g, frz_o σ.o R⟩ : ASt).put dst (v, us) := by
  simp only [ASt.put, putG_app, putO_app, putG_frozen, putO_frz]

/-- A call does what its contract says. -/
theorem call_sound (h : Rel cx μ σ a w) {dst : Option Nat} (hd : ∀ d, dst = some d → d < cx.n) {d f : Nat} {avs : List AV} {vs : List Value}
    (hv : avs.length = vs.length ∧ ∀ (j : Nat) (x : AV) (v : Value), avs[j]? = some x → vs[j]? = some v → RepV (RCl cx μ σ w) x v) {K : Eff → Prop} (hc : callWp P cx.pk σ d f avs K) :
    Calls P f vs.toArray w (fun e w' => ∃ v ef μ', e = .returned v ∧ K ef ∧ Rel cx μ' (σ.put dst ef) (a.put dst v) w') := by
  obtain ⟨S, fl, args, hS, hp, hsum, hown, hR, K0, hK0, hK⟩ := hc
  let R := reachArgs σ fl avs
  let ob : Option Nat := match ownOf fl avs, ownV fl avs vs with | some k, some u => obOf (μ k) u | _, _ => none
  have hobk : ∀ k u, ownOf fl avs = some k → ownV fl avs vs = some u → ob = obOf (μ k) u := fun k u h1 h2 => by simp only [ob, h1, h2]
  have hrel := pass_rel h hR ob fl avs vs args hp (fun _ hk => hk) hv hsum hobk
  have hXlt : ∀ b, Xc cx σ μ R b → b < w.heap.size := fun b hb => by
    rcases hb with hb | ⟨k, h1, h2, _⟩
    · exact Nat.lt_of_lt_of_le (h.x0 b hb) h.kept.size
    · exact (h.lv k b h1 h2).2
  have hobX : ∀ b, ob = some b → ∃ k u, ownOf fl avs = some k ∧ ownV fl avs vs = some u ∧ μ k = some b := fun b hb => by
    simp only [ob] at hb
    split at hb
    · rename_i k u h1 h2
      refine ⟨k, u, h1, h2, ?_⟩
      unfold obOf at hb
      split at hb
      · cases hb
      · exact hb
    · cases hb
  refine Calls.mono (hS w (Xc cx σ μ R) ob args vs _ hXlt (fun b hb => ?_) hsum hrel hK0) ?_
  · obtain ⟨k, u, h1, h2, h3⟩ := hobX b hb
    exact .inr ⟨k, own_live fl avs args hp k h1, h3, hown k h1⟩
  rintro e w' ⟨rv, rows, v, ob', rfl, hrr, hn, hk, hob', hrv, hrows⟩
  obtain ⟨zf, ef, hzf, hret, hKe⟩ := hK rv rows hrr
  let Y : Nat → Prop := fun b => Xc cx σ μ R b ∨ ob' = some b
  let R' := ledTo σ fl avs zf
  have hR' : ∀ k ∈ R', k ∈ R := fun k hk => by
    simp only [R', ledTo] at hk
    split at hk
    · cases hk
    · exact hk
  have h2 := h.freezes R' fun k hk => hR k (hR' k hk)
  let σ' : ASt := ⟨σ.t, σ.g, frz_o σ.o R'⟩
  have hlf : ∀ k, liveO (frz_o σ.o R' k) = true → k ∉ R' ∧ liveO (σ.o k) = true := fun k hk => live_frz (fun k hk => (hR k (hR' k hk)).1) hk
  -- data of the result stand apart from what lives
  have hmono : ∀ (X : Nat → Prop) (c : RC) (x : C) (u : Value), (∀ b, X b → cx.X0 b ∨ (∃ k, liveO (σ'.o k) = true ∧ μ k = some b) ∨ ob' = some b) → c ∈ cellsV rv → inRC c x → RepC w' Y x u → RepC w' X x u := by
    intro X c x u hX hc hx hr
    by_cases hf : zf = true
    · exact flat_rep (flat_in (flat_mem (Bool.and_eq_true _ _ ▸ hzf hf).1 hc) hx) hr
    · refine hr.mono (fun _ _ _ => rfl) fun b _ hb hxb => hb ?_
      rcases hX b hxb with h1 | ⟨k, h1, h2⟩ | h1
      · exact .inl (.inl h1)
      · obtain ⟨h3, h4⟩ := hlf k h1
        refine .inl (.inr ⟨k, h4, h2, fun hk => h3 ?_⟩)
        simp only [R', ledTo, if_neg hf]
        exact hk
      · exact .inr h1
  unfold retE at hret
  have hback := back_rel h fl avs vs args rows hp hrows hv hsum
  split at hret
  · -- pure data
    rename_i hfil
    simp only [Option.some.injEq] at hret
    subst hret
    have hno : ownOf fl avs = none := by
      rcases hback with ⟨h1, _⟩ | ⟨k, E, sz, ys, xs, u, _, _, _, h1, _⟩
      · exact h1
      · cases h1
    have hob : ob = none := by simp only [ob, hno]
    rw [hob] at hk
    have h3 := h2.world hk
    refine ⟨v, _, μ, rfl, hKe, ?_⟩
    have := put_frz σ R' dst (valA σ d rv) []
    rw [List.append_nil] at this
    rw [this]
    refine h3.val hd (valA_rel hrv fun c hc u hu => ?_)
    cases c with
    | d c => exact .d (hmono _ _ c u (fun b hb => hb.elim .inl fun h => .inr (.inl h)) hc rfl hu)
    | own E sz xs => exact absurd (List.mem_filter.2 ⟨hc, rfl⟩) (by rw [hfil]; simp)
    | ownp E cs => exact absurd (List.mem_filter.2 ⟨hc, rfl⟩) (by rw [hfil]; simp)
  · -- a row of the result
    rename_i r hfil
    simp only [Option.some.injEq] at hret
    subst hret
    have hno : ownOf fl avs = none := by
      rcases hback with ⟨h1, _⟩ | ⟨k, E, sz, ys, xs, u, _, _, _, h1, _⟩
      · exact h1
      · cases h1
    have hob : ob = none := by simp only [ob, hno]
    rw [hob] at hk
    refine ⟨v, _, upd μ d ob', rfl, hKe, ?_⟩
    rw [put_frz]
    have hr : r ∈ cellsV rv ∧ isOwn r = true := List.mem_filter.1 (by rw [hfil]; simp)
    have hXn : ∀ b, Xs cx.X0 (upd (frz_o σ.o R') d (objR r)) (upd μ d ob') b → cx.X0 b ∨ (∃ k, liveO (σ'.o k) = true ∧ μ k = some b) ∨ ob' = some b := fun b hb => by
      rcases hb with hb | ⟨k, h3, h4⟩
      · exact .inl hb
      · by_cases e : k = d
        · subst e; rw [upd_same] at h4; exact .inr (.inr h4)
        · rw [upd_ne _ _ e] at h3 h4; exact .inr (.inl ⟨k, h3, h4⟩)
    refine h2.turn d (σ.g d + 1) (objR r) ob' w' (Nat.le_succ _) (fun e => absurd e (Nat.succ_ne_self _)) (fun b hb _ => hk.block b hb (by simp)) (h.kept.trans ⟨hk.os, hk.tape, hk.output, hk.size, fun b hb _ => hk.block b hb (by simp)⟩) hk.size
      (fun _ b hb => ⟨.inl (hob' b hb).1, (hob' b hb).2⟩) (fun hcell hpast => ?_) hd (fun hcell => ?_)
    · obtain ⟨u, hu⟩ := mem_rep hrv hr.1
      cases r with
      | d c => cases hr.2
      | own E sz xs =>
        rcases hu with ⟨rfl, hb, _⟩ | ⟨b, cap, hb, _, hrow⟩
        · unfold RelO
          rw [upd_same]
          exact .inl ⟨by rw [upd_same]; exact hb, rfl⟩
        · exact own_relO (by rw [upd_same]; rfl) (by rw [upd_same]; exact hb) hrow fun x u hx hu => .d (hmono _ _ x u hXn hr.1 hx hu)
      | ownp E cs =>
        obtain ⟨b, hb, _, hrow⟩ := hu
        exact own_relO (xs := [cs]) (by rw [upd_same]; rfl) (by rw [upd_same]; exact hb) hrow fun x u hx hu => .d (hmono _ _ x u hXn hr.1 (by obtain ⟨r, h5, h6⟩ := hx; simp at h5; subst h5; exact h6) hu)
    · refine valA_rel hrv fun c hc u hu => ?_
      cases c with
      | d c => exact .d (hmono _ _ c u hXn hc rfl hu)
      | own E sz xs =>
        have hcr : RC.own E sz xs = r := by
          have : RC.own E sz xs ∈ (cellsV rv).filter isOwn := List.mem_filter.2 ⟨hc, rfl⟩
          rw [hfil] at this
          simpa using this
        subst hcr
        rcases hu with ⟨rfl, hb, ad, rfl⟩ | ⟨b, cap, hb, rfl, cur, f, e1, e2, e3, _⟩
        · refine .view (by rw [upd_same]; exact Nat.le_refl _) ⟨_, _, rfl⟩ fun _ => ?_
          rw [upd_same, upd_same]
          exact .inl ⟨hb, rfl, rfl, ad, rfl⟩
        · refine .view (by rw [upd_same]; exact Nat.le_refl _) ⟨_, _, rfl⟩ fun _ => ?_
          rw [upd_same, upd_same]
          exact .inr (.inr ⟨b, cap, cur, hb, e1, by rw [Nat.zero_add]; exact e2, by rw [Nat.zero_mul], e3⟩)
      | ownp E cs =>
        have hcr : RC.ownp E cs = r := by
          have : RC.ownp E cs ∈ (cellsV rv).filter isOwn := List.mem_filter.2 ⟨hc, rfl⟩
          rw [hfil] at this
          simpa using this
        subst hcr
        obtain ⟨b, hb, rfl, _⟩ := hu
        refine .ref (by rw [upd_same]; exact Nat.le_refl _) ⟨_, rfl⟩ fun _ => ?_
        rw [upd_same, upd_same]
        exact ⟨b, hb, by simp⟩
  · -- what was handed over comes back
    rename_i xs0 hfil
    split at hret
    case h_2 => simp at hret
    rename_i k hok
    obtain ⟨ub, hub, hef⟩ := Option.map_eq_some_iff.1 hret
    have hpf : σ.put dst ef = (⟨σ.t, σ.g, frz_o σ.o R'⟩ : ASt).put dst (valA σ d rv, [ub]) := by rw [← hef]; exact put_frz σ R' dst _ _
    rcases hback with ⟨h1, _⟩ | ⟨k', E, sz, ys, xs, u, h1, hou, hrow, hrs, hview, hlen, hor⟩
    · rw [h1] at hok; cases hok
    rw [h1] at hok
    have hkk := Option.some.inj hok
    subst hkk
    simp only [List.cons.injEq, and_true] at hrs
    subst hrs
    have hkR : k' ∉ R' := fun hx => hown k' h1 (hR' k' hx)
    have hfk : frz_o σ.o R' k' = .row true E sz (dmm ys) := by simp only [frz_o, if_neg hkR, hrow]
    have hub' : ub = (k', σ.g k', .row true E sz (dmm xs0)) ∧ (∀ x ∈ xs0, x.length = sz) := by
      simp only [ownBack, hrow] at hub
      split at hub
      · rename_i hcond
        simp only [Option.some.injEq] at hub
        refine ⟨hub.symm, fun x hx => ?_⟩
        have := List.all_eq_true.1 hcond.2 x hx
        simpa using this
      · simp at hub
    obtain ⟨rfl, hxsz⟩ := hub'
    have hob := hobk k' u h1 hou
    by_cases hz : ∃ ad, u = .slice ad 0 0
    · obtain ⟨ad, rfl⟩ := hz
      have hys : ys = [] := by
        cases hview with
        | view _ h3 _ => obtain ⟨_, _, h3⟩ := h3; injection h3 with _ h4 _; exact List.eq_nil_of_length_eq_zero h4.symm
      subst hys
      have hxs : xs0 = [] := List.eq_nil_of_length_eq_zero hlen
      subst hxs
      have hob0 : ob = none := hob
      rw [hob0] at hk
      have h3 := h2.world hk
      refine ⟨v, _, μ, rfl, hKe, ?_⟩
      rw [hpf]
      have hge : upd σ.g k' (σ.g k') = σ.g := by funext j; unfold upd; split <;> simp_all
      have hoe : upd (frz_o σ.o R') k' (.row true E sz (dmm [])) = frz_o σ.o R' := by funext j; unfold upd; split <;> simp_all
      have heq : (⟨σ.t, σ.g, frz_o σ.o R'⟩ : ASt).put dst (valA σ d rv, [(k', σ.g k', .row true E sz (dmm []))]) = (⟨σ.t, σ.g, frz_o σ.o R'⟩ : ASt).put dst (valA σ d rv, []) := by
        simp only [ASt.put, putG, putO, hge, hoe]
      rw [heq]
      refine h3.val hd (valA_rel hrv fun c hc u hu => ?_)
      cases c with
      | d c => exact .d (hmono _ _ c u (fun b hb => hb.elim .inl fun h => .inr (.inl h)) hc rfl hu)
      | own E sz xs => exact absurd (List.mem_filter.2 ⟨hc, rfl⟩) (by rw [hfil]; simp)
      | ownp E cs => exact absurd (List.mem_filter.2 ⟨hc, rfl⟩) (by rw [hfil]; simp)
    · rcases hor with ⟨ad, hu⟩ | ⟨b, cap, n, rfl, hrowb⟩
      · exact absurd ⟨ad, hu⟩ hz
      have hlk : liveO (σ.o k') = true := by rw [hrow]; rfl
      have hobm : ob = μ k' := by
        rw [hob]
        unfold obOf
        split
        · rename_i heq; exact absurd ⟨_, heq⟩ hz
        · rfl
      have hvw := view_at hview rfl hrow
      obtain ⟨cur, f, g1, g2, g3, g4, g5, g6, g7⟩ := hrowb
      have hmb : μ k' = some b ∧ ∃ cur0, w.heap[b]? = some (.cells cur0 E (0, 0)) ∧ cur0.size = cap * sz := by
        rcases hvw with ⟨_, _, _, ad, hu⟩ | ⟨h0, _⟩ | ⟨b', cap', cur', e1, e2, e3, e4, e5⟩
        · exact absurd ⟨_, hu⟩ hz
        · exact absurd rfl h0
        · injection e4 with e6 e7 e8
          injection e6 with e6
          injection e6 with e6
          subst e6
          subst e8
          exact ⟨e1, cur', e2, by rw [e3, Nat.zero_add]⟩
      obtain ⟨hmb, cur0, hh0, hs0⟩ := hmb
      rw [hobm, hmb] at hk
      have hblt := (Array.getElem?_eq_some_iff.1 g1).1
      refine ⟨v, _, upd μ k' (some b), rfl, hKe, ?_⟩
      rw [hpf]
      have hXn : ∀ b', Xs cx.X0 (upd (frz_o σ.o R') k' (.row true E sz (dmm xs0))) (upd μ k' (some b)) b' → cx.X0 b' ∨ (∃ k, liveO (σ'.o k) = true ∧ μ k = some b') ∨ ob' = some b' := fun b' hb => by
        rcases hb with hb | ⟨k, h3, h4⟩
        · exact .inl hb
        · by_cases e : k = k'
          · subst e; rw [upd_same] at h4; refine .inr (.inl ⟨k, ?_, by rw [hmb]; exact h4⟩); simp only [σ', hfk]; rfl
          · rw [upd_ne _ _ e] at h3 h4; exact .inr (.inl ⟨k, h3, h4⟩)
      have hY : ∀ x u, (∃ r ∈ xs0, x ∈ r) → RepC w' Y x u → RelC (upd σ.g k' (σ.g k')) (upd (frz_o σ.o R') k' (.row true E sz (dmm xs0))) (upd μ k' (some b)) w' (Xs cx.X0 (upd (frz_o σ.o R') k' (.row true E sz (dmm xs0))) (upd μ k' (some b))) (.d x) u := by
        intro x u hx hu
        refine .d ?_
        by_cases hf : zf = true
        · obtain ⟨r, hr1, hr2⟩ := hx
          have h5 := (Bool.and_eq_true _ _ ▸ hzf hf).2
          simp only [flatRows, List.all_cons, List.all_nil, Bool.and_true, List.all_eq_true] at h5
          exact flat_rep (h5 r hr1 x hr2) hu
        · refine hu.mono (fun _ _ _ => rfl) fun b _ hb hxb => hb ?_
          rcases hXn b hxb with h1 | ⟨k, h1, h2⟩ | h1
          · exact .inl (.inl h1)
          · obtain ⟨h3, h4⟩ := hlf k h1
            refine .inl (.inr ⟨k, h4, h2, fun hk => h3 ?_⟩)
            simp only [R', ledTo, if_neg hf]
            exact hk
          · exact .inr h1
      refine h2.turn k' (σ.g k') (.row true E sz (dmm xs0)) (some b) w' (Nat.le_refl _) (fun _ => ?_) (fun b' hb hne => hk.block b' hb (fun e => hne ⟨by simp only [hfk]; rfl, by rw [hmb]; exact e⟩))
        ⟨hk.os.trans h.kept.os, hk.tape.trans h.kept.tape, hk.output.trans h.kept.output, Nat.le_trans h.kept.size hk.size, fun b' hb hne => (hk.block b' (Nat.lt_of_lt_of_le hb h.kept.size) (fun e => ?_)).trans (h.kept.block b' hb hne)⟩ hk.size
        (fun _ b' hb => by cases hb; exact ⟨.inr ⟨by simp only [hfk]; rfl, hmb⟩, hblt⟩) (fun hcell hpast => ?_) hd (fun hcell => ?_)
      · refine ⟨fun lo n v hvv => ?_, fun i off v hvv => ?_, fun _ _ => trivial, fun _ _ => trivial⟩
        · dsimp only at hvv
          rw [hfk, hmb] at hvv
          simp only [ViewAt] at hvv ⊢
          rcases hvv with ⟨e1, _⟩ | e1 | ⟨b', cap', cur', e1, e2, e3, e4⟩
          · cases e1
          · exact .inr (.inl e1)
          · cases e1
            rw [hh0] at e2
            cases e2
            exact .inr (.inr ⟨b, cap', cur, rfl, g1, by rw [g2, ← hs0]; exact e3, e4⟩)
        · dsimp only at hvv
          rw [hfk, hmb] at hvv
          exact hvv
      · cases e
        rcases (h.lv k' b hlk hmb).1 with e1 | e1
        · omega
        · exact hne e1
      · exact own_relO (by rw [upd_same]) (by rw [upd_same]) ⟨cur, f, g1, g2, g3, g4, g5, g6, g7⟩ hY
      · refine valA_rel hrv fun c hc u hu => ?_
        cases c with
        | d c => exact .d (hmono _ _ c u hXn hc rfl hu)
        | own E sz xs => exact absurd (List.mem_filter.2 ⟨hc, rfl⟩) (by rw [hfil]; simp)
        | ownp E cs => exact absurd (List.mem_filter.2 ⟨hc, rfl⟩) (by rw [hfil]; simp)
  · simp at hret

end
end Go.Proofs.Ytnpdeecoejabgaa
