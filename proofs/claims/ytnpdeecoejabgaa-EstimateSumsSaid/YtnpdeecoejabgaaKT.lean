/- THE ABSTRACT MACHINE, 19: the rules of its code. -/
import Derived.Test.YtnpdeecoejabgaaKS
set_option linter.unusedSimpArgs false
set_option linter.unusedVariables false
namespace Go.Proofs.Ytnpdeecoejabgaa
open Go Go.RowKit

inductive AE where
  | fall
  | exit (id : Nat)
  | ret

def AE.real : AE → Exit
  | .fall => .normal
  | .exit id => .exit id
  | .ret => .ret

/-- What the proof remembers of the own parameter. -/
def gcOk (c : AC) : Prop := (∃ x, c = .d x) ∨ ∃ n, c = .view 900000 0 0 n

/-- What a piece of code needs in state σ, so that it ends as Q says. -/
def AW (P : Program) (n : Nat) (pk : Option Nat) (ac : ACode) (σ : ASt) (Q : AE → ASt → Prop) : Prop :=
  ∀ c, comp P n c = ac → ∀ (cx : Ctx) (μ : Nat → Option Nat) (a : Act) (w : World), cx.n = n → cx.pk = pk ∧ gcOk cx.gc → Rel cx μ σ a w →
    ∀ Qw : Exit → Act → World → Prop, (∀ e σ' μ' a' w', Q e σ' → Rel cx μ' σ' a' w' → Qw e.real a' w') → c.wp P Qw a w

section
variable {P : Program} {n : Nat} {pk : Option Nat} {σ : ASt} {Q : AE → ASt → Prop}

theorem AW.mono {ac : ACode} {Q' : AE → ASt → Prop} (h : AW P n pk ac σ Q) (hq : ∀ e σ, Q e σ → Q' e σ) : AW P n pk ac σ Q' :=
  fun c hc cx μ a w h1 h2 h3 Qw hQ => h c hc cx μ a w h1 h2 h3 Qw fun e σ' μ' a' w' h4 h5 => hQ e σ' μ' a' w' (hq _ _ h4) h5

theorem AW.skip (h : Q .fall σ) : AW P n pk .skip σ Q := by
  intro c hc cx μ a w h1 h2 h3 Qw hQ
  cases c <;> simp only [comp, reduceCtorEq] at hc
  · exact wp_skip (hQ _ _ _ _ _ h h3)
  · split at hc <;> cases hc

theorem AW.ret (h : Q .ret σ) : AW P n pk .ret σ Q := by
  intro c hc cx μ a w h1 h2 h3 Qw hQ
  cases c <;> simp only [comp, reduceCtorEq] at hc
  · split at hc <;> cases hc
  · exact wp_ret (hQ _ _ _ _ _ h h3)

theorem AW.exit {id : Nat} (h : Q (.exit id) σ) : AW P n pk (.exit id) σ Q := by
  intro c hc cx μ a w h1 h2 h3 Qw hQ
  cases c <;> simp only [comp, reduceCtorEq, ACode.exit.injEq] at hc
  · split at hc <;> cases hc
  · subst hc; exact wp_exit (hQ _ _ _ _ _ h h3)

/-- What comes behind a piece of code. -/
def thenQ (K : ASt → Prop) (Q : AE → ASt → Prop) : AE → ASt → Prop
  | .fall, σ => K σ
  | e, σ => Q e σ

theorem AW.seq {x y : ACode} (h : AW P n pk x σ (thenQ (fun σ' => AW P n pk y σ' Q) Q)) : AW P n pk (.seq x y) σ Q := by
  intro c hc cx μ a w h1 h2 h3 Qw hQ
  cases c <;> simp only [comp, reduceCtorEq, ACode.seq.injEq] at hc
  case cond => split at hc <;> cases hc
  rename_i c1 c2
  refine wp_seq (h c1 hc.1 cx μ a w h1 h2 h3 _ fun e σ' μ' a' w' h4 h5 => ?_)
  cases e with
  | fall => exact h4 c2 hc.2 cx μ' a' w' h1 h2 h5 Qw hQ
  | exit id => exact hQ _ _ _ _ _ h4 h5
  | ret => exact hQ _ _ _ _ _ h4 h5

theorem AW.cond {x : AX} {c1 c2 : ACode} {t : Bool} (hx : σ.ev x = .one (.d (.bool t))) (ht : t = true → AW P n pk c1 σ Q) (hf : t = false → AW P n pk c2 σ Q) : AW P n pk (.cond x c1 c2) σ Q := by
  intro c hc cx μ a w h1 h2 h3 Qw hQ
  cases c <;> simp only [comp, reduceCtorEq] at hc
  rename_i o d1 d2
  split at hc
  · rename_i ax hax
    simp only [ACode.cond.injEq] at hc
    obtain ⟨rfl, hc1, hc2⟩ := hc
    have he := ev_bool h3 hax hx
    cases t with
    | true => exact wp_cond_true he (ht rfl d1 hc1 cx μ a w h1 h2 h3 Qw hQ)
    | false => exact wp_cond_false he (hf rfl d2 hc2 cx μ a w h1 h2 h3 Qw hQ)
  · cases hc

def blkQ (id : Nat) (Q : AE → ASt → Prop) : AE → ASt → Prop
  | .exit id', σ => if id' = id then Q .fall σ else Q (.exit id') σ
  | e, σ => Q e σ

theorem AW.blk {id : Nat} {x : ACode} (h : AW P n pk x σ (blkQ id Q)) : AW P n pk (.blk id x) σ Q := by
  intro c hc cx μ a w h1 h2 h3 Qw hQ
  cases c <;> simp only [comp, reduceCtorEq, ACode.blk.injEq] at hc
  case cond => split at hc <;> cases hc
  rename_i c1
  obtain ⟨rfl, hc⟩ := hc
  refine wp_block (h _ hc cx μ a w h1 h2 h3 _ fun e σ' μ' a' w' h4 h5 => ?_)
  cases e with
  | fall => exact hQ _ _ _ _ _ h4 h5
  | exit id =>
    simp only [blkQ] at h4
    simp only [AE.real, Exit.inBlock]
    split
    · rename_i e; rw [if_pos e] at h4; exact hQ _ _ _ _ _ h4 h5
    · rename_i e; rw [if_neg e] at h4; exact hQ _ _ _ _ _ h4 h5
  | ret => exact hQ _ _ _ _ _ h4 h5

theorem least {p : Nat → Prop} (h : ∃ k, p k) : ∃ k, p k ∧ ∀ j, p j → k ≤ j := by
  obtain ⟨k, hk⟩ := h
  induction k using Nat.strongRecOn with
  | _ k ih =>
    by_cases hj : ∃ j, j < k ∧ p j
    · obtain ⟨j, h1, h2⟩ := hj; exact ih j h1 h2
    · exact ⟨k, hk, fun j hpj => Nat.le_of_not_lt fun hlt => hj ⟨j, hlt, hpj⟩⟩

/-- A loop, by an invariant that counts down. -/
theorem AW.loop {x : ACode} (I : Nat → ASt → Prop) {k0 : Nat} (h0 : I k0 σ) (h : ∀ k σ, I k σ → AW P n pk x σ (thenQ (fun σ' => ∃ k', k' < k ∧ I k' σ') Q)) : AW P n pk (.loop x) σ Q := by
  intro c hc cx μ a w h1 h2 h3 Qw hQ
  cases c <;> simp only [comp, reduceCtorEq, ACode.loop.injEq] at hc
  case cond => split at hc <;> cases hc
  rename_i c1
  classical
  let J : Nat → Act → World → Prop := fun k a w => ∃ σ μ, I k σ ∧ Rel cx μ σ a w
  let m : Act → World → Nat := fun a w => if h : ∃ k, J k a w then Classical.choose (least h) else 0
  have hm : ∀ a w k, J k a w → J (m a w) a w ∧ m a w ≤ k := fun a w k hk => by
    have hex : ∃ k, J k a w := ⟨k, hk⟩
    have hs := Classical.choose_spec (least hex)
    have he : m a w = Classical.choose (least hex) := by simp only [m, dif_pos hex]
    rw [he]
    exact ⟨hs.1, hs.2 k hk⟩
  refine wp_loop (fun a w => ∃ k, J k a w) m ⟨k0, σ, μ, h0, h3⟩ fun a w ⟨k, hk⟩ => ?_
  obtain ⟨⟨σ1, μ1, h4, h5⟩, _⟩ := hm a w k hk
  refine h (m a w) σ1 h4 c1 hc cx μ1 a w h1 h2 h5 _ fun e σ' μ' a' w' h6 h7 => ?_
  cases e with
  | fall =>
    obtain ⟨k', h8, h9⟩ := h6
    have hJ : J k' a' w' := ⟨σ', μ', h9, h7⟩
    exact ⟨⟨k', hJ⟩, Nat.lt_of_le_of_lt (hm a' w' k' hJ).2 h8⟩
  | exit id => exact hQ _ _ _ _ _ h6 h7
  | ret => exact hQ _ _ _ _ _ h6 h7

theorem range_map {α β : Type} [Inhabited α] (xs : Array α) (f : α → β) : (List.range xs.size).map (fun i => f (xs.getD i default)) = xs.toList.map f := by
  apply List.ext_getElem?
  intro i
  by_cases hi : i < xs.size
  · simp [hi]
  · simp [hi]

theorem AW.reg {ops : List AR} (h : stepsWp P pk ops σ (Q .fall)) : AW P n pk (.reg ops false) σ Q := by
  intro c hc cx μ a w h1 h2 h3 Qw hQ
  cases c <;> simp only [comp, reduceCtorEq, ACode.reg.injEq] at hc
  case cond => split at hc <;> cases hc
  rename_i id os draw
  obtain ⟨hops, rfl⟩ := hc
  refine wp_region (steps_sound (cx := cx) (K := Q .fall) (fun σ' μ' a' w' h4 h5 => hQ _ _ _ _ _ h4 h5) (List.range os.size) (fun i hi => by simpa using hi) h3 ?_)
  rw [range_map os (compR P cx.n os), h1, hops, h2.1]
  exact h

/-- A step that only the proof sees. -/
theorem AW.ghost {ac : ACode} {σ' : ASt} (hr : ∀ cx μ a w, cx.pk = pk → gcOk cx.gc → Rel cx μ σ a w → ∃ μ', Rel cx μ' σ' a w) (h : AW P n pk ac σ' Q) : AW P n pk ac σ Q :=
  fun c hc cx μ a w h1 h2 h3 => let ⟨μ', h4⟩ := hr cx μ a w h2.1 h2.2 h3; h c hc cx μ' a w h1 h2 h4

/-- What a slot holds, as pure data. -/
def frzV (σ : ASt) : AV → Option AV
  | .one c => (frz σ 8 c).map fun x => .one (.d x)
  | .agg cs => (allSome (cs.map (frz σ 8))).map fun xs => .agg (dm xs)
  | _ => none

theorem Rel.slot {cx : Ctx} {μ : Nat → Option Nat} {a : Act} {w : World} (h : Rel cx μ σ a w) {k : Nat} {v : AV} (hv : ∀ u, RV cx μ σ w (σ.t k) u → RV cx μ σ w v u) : Rel cx μ ⟨upd σ.t k v, σ.g, σ.o⟩ a w :=
  { defers := h.defers, sz := h.sz, kept := h.kept, obj := h.obj, inj := h.inj, lv := h.lv, x0 := h.x0, xo := h.xo, gh := h.gh
    tm := fun j => by
      dsimp only
      by_cases e : j = k
      · rw [e, upd_same]; exact hv _ (h.tm k)
      · rw [upd_ne _ _ e]; exact h.tm j }

/-- Objects are frozen. -/
theorem AW.freeze {ac : ACode} (R : List Nat) (hR : ∀ k ∈ R, isRowMap (σ.o k) = true ∧ pk ≠ some k) (h : AW P n pk ac ⟨σ.t, σ.g, frz_o σ.o R⟩ Q) : AW P n pk ac σ Q :=
  AW.ghost (fun cx μ a w hp _ hr => ⟨μ, hr.freezes R fun k hk => ⟨(hR k hk).1, hp ▸ (hR k hk).2⟩⟩) h

theorem frozen_apart {cx : Ctx} {μ : Nat → Option Nat} {a : Act} {w : World} (h : Rel cx μ σ a w) {k : Nat} (hk : isRowMap (σ.o k) = true) (hl : liveO (σ.o k) = false) {b : Nat} (hb : Xs cx.X0 σ.o μ b) : μ k ≠ some b := by
  intro hm
  have ho := h.obj k
  unfold RelO at ho
  cases hx : σ.o k with
  | no => rw [hx] at hk; cases hk
  | iter _ _ _ _ => rw [hx] at hk; cases hk
  | row l E sz xs =>
    rw [hx] at ho hl
    rcases ho with ⟨hn, _⟩ | ⟨b', _, _, e1, _, _, _, _, _, _, _, e9⟩
    · rw [hn] at hm; cases hm
    · rw [e1] at hm; cases hm
      exact e9 hl hb
  | map l ka va es =>
    rw [hx] at ho hl
    obtain ⟨b', _, _, e1, _, _, e4⟩ := ho
    rw [e1] at hm; cases hm
    exact e4 hl hb

/-- What a slot holds has been frozen, and is pure data from now on. -/
theorem AW.pure {ac : ACode} (k : Nat) {v : AV} (hv : frzV σ (σ.t k) = some v) (hR : ∀ j ∈ reachV σ (σ.t k), isRowMap (σ.o j) = true ∧ liveO (σ.o j) = false) (h : AW P n pk ac ⟨upd σ.t k v, σ.g, σ.o⟩ Q) : AW P n pk ac σ Q := by
  refine AW.ghost (fun cx μ a w _ _ hr => ⟨μ, hr.slot fun u hu => ?_⟩) h
  have key : ∀ c y z, frz σ 8 c = some y → RCl cx μ σ w c z → (∀ j ∈ reach σ 8 c, isRowMap (σ.o j) = true ∧ liveO (σ.o j) = false) → RCl cx μ σ w (.d y) z := fun c y z h1 h2 h3 =>
    .d (frz_rel hr (fun b hb => hb) 8 c y z h1 h2 fun b hb j hj => frozen_apart hr (h3 j hj).1 (h3 j hj).2 hb)
  generalize σ.t k = x at hv hR hu
  cases x with
  | any => cases hv
  | tup _ => cases hv
  | one c =>
    simp only [frzV, Option.map_eq_some_iff] at hv
    obtain ⟨y, hy, rfl⟩ := hv
    have h1 := rv_one hu
    exact .one _ _ (key c y u hy h1 hR) h1.one
  | agg cs =>
    simp only [frzV, Option.map_eq_some_iff] at hv
    obtain ⟨ys, hys, rfl⟩ := hv
    cases hu with
    | agg _ vs hl hcs =>
      have hg := allSome_get hys
      refine .agg _ _ (by simp [hg.1, hl]) fun j c v hj hvj => ?_
      rw [List.getElem?_map] at hj
      cases hyj : ys[j]? with
      | none => rw [hyj] at hj; cases hj
      | some y =>
        rw [hyj] at hj; cases hj
        have hjl : j < cs.length := by rw [← hg.1]; exact (List.getElem?_eq_some_iff.1 hyj).1
        obtain ⟨y', e1, e2⟩ := hg.2 j _ (List.getElem?_eq_getElem hjl)
        have : y' = y := by rw [hyj] at e1; exact (Option.some.inj e1).symm
        subst this
        obtain ⟨e3, e4⟩ := hcs j _ v (List.getElem?_eq_getElem hjl) hvj
        exact ⟨key _ y' v e2 e3 fun i hi => hR i (List.mem_flatMap.2 ⟨_, List.getElem_mem hjl, hi⟩), e4⟩

/-- A nil slice is an empty row. -/
theorem AW.nilsl {ac : ACode} (k : Nat) (hv : σ.t k = .one .nils) (h : AW P n pk ac ⟨upd σ.t k (.one (.d (.sl []))), σ.g, σ.o⟩ Q) : AW P n pk ac σ Q := by
  refine AW.ghost (fun cx μ a w _ _ hr => ⟨μ, hr.slot fun u hu => ?_⟩) h
  rw [hv] at hu
  have h1 := rv_one hu
  cases h1 with
  | nils ad => exact .one _ _ (.d (.sl0 _ _)) rfl

end
end Go.Proofs.Ytnpdeecoejabgaa
