/- THE ABSTRACT MACHINE, 16: calls. -/
import Derived.Test.YtnpdeecoejabgaaKO
set_option linter.unusedSimpArgs false
set_option linter.unusedVariables false
namespace Go.Proofs.Ytnpdeecoejabgaa
open Go Go.RowKit

/-- Data that lead nowhere. -/
def flatC : C → Bool
  | .bool _ | .int _ _ | .str _ | .nilp | .nilf => true
  | .sl [] => true
  | .fn _ [] => true
  | _ => false
def flatRC : RC → Bool
  | .d c => flatC c
  | .own _ _ xs => xs.all fun x => x.all flatC
  | .ownp _ cs => cs.all flatC
def flatV : V RC → Bool
  | .any => true
  | .one c => flatRC c
  | .agg cs => cs.all flatRC
  | .tup vs => vs.all fun
    | .one c => flatRC c
    | .agg cs => cs.all flatRC
    | _ => false

def passPlain (σ : ASt) : AV → Option (V RC)
  | .one c => (frz σ 8 c).map fun x => .one (.d x)
  | .agg cs => (allSome (cs.map (frz σ 8))).map fun xs => .agg (xs.map .d)
  | _ => none
def passOwn (σ : ASt) : AV → Option (V RC)
  | .one (.view o g 0 n) => if g = σ.g o then match σ.o o with
      | .row true E sz xs => if n = xs.length then (pureRow xs).map fun ys => .one (.own E sz ys) else none
      | _ => none
    else none
  | _ => none
def passOne (σ : ASt) (own : Bool) (v : AV) : Option (V RC) := if own then passOwn σ v else passPlain σ v

def passArgs (σ : ASt) : List Bool → List AV → Option (List (V RC))
  | _, [] => some []
  | fl, v :: vs => match passOne σ (fl.headD false) v, passArgs σ fl.tail vs with
    | some x, some xs => some (x :: xs)
    | _, _ => none

def reachV (σ : ASt) : AV → List Nat
  | .one c => reach σ 8 c
  | .agg cs => cs.flatMap (reach σ 8)
  | _ => []

def reachArgs (σ : ASt) : List Bool → List AV → List Nat
  | _, [] => []
  | fl, v :: vs => (if fl.headD false then [] else reachV σ v) ++ reachArgs σ fl.tail vs

def ownName : AV → Option Nat
  | .one (.view o _ _ _) => some o
  | .one (.ref o _ _ _) => some o
  | _ => none

/-- The name of the row that is handed over. -/
def ownOf : List Bool → List AV → Option Nat
  | _, [] => none
  | fl, v :: vs => if fl.headD false then ownName v else ownOf fl.tail vs

def freezeO : AO → AO
  | .row _ E sz xs => .row false E sz xs
  | .map _ ka va es => .map false ka va es
  | x => x

def frozenUpd (σ : ASt) (ks : List Nat) : List (Nat × Nat × AO) := ks.map fun k => (k, σ.g k, freezeO (σ.o k))

def isRowMap : AO → Bool
  | .row _ _ _ _ | .map _ _ _ _ => true
  | _ => false

/-- The cells of a value. -/
def cells1 : V RC → List RC
  | .one c => [c]
  | .agg cs => cs
  | _ => []
def cellsV : V RC → List RC
  | .tup vs => vs.flatMap cells1
  | v => cells1 v

def cellA (σ : ASt) (d : Nat) : RC → AC
  | .d c => .d c
  | .own _ _ xs => .view d (σ.g d + 1) 0 xs.length
  | .ownp _ _ => .ref d (σ.g d + 1) 0 0

def val1 (σ : ASt) (d : Nat) : V RC → AV
  | .one c => .one (cellA σ d c)
  | .agg cs => .agg (cs.map (cellA σ d))
  | _ => .any
def valA (σ : ASt) (d : Nat) : V RC → AV
  | .tup vs => .tup (vs.map (val1 σ d))
  | v => val1 σ d v

def objR : RC → AO
  | .own E sz xs => .row true E sz (dmm xs)
  | .ownp E cs => .row true E cs.length [dm cs]
  | .d _ => .no

/-- What the row that was handed over holds now. -/
def ownBack (σ : ASt) (k : Nat) (xs : List (List C)) : Option (Nat × Nat × AO) :=
  match σ.o k with
  | .row true E sz ys => if ys.length = xs.length ∧ (xs.all fun x => decide (x.length = sz)) then some (k, σ.g k, .row true E sz (dmm xs)) else none
  | _ => none

/-- The objects that a result may lead to. -/
def flatRows (rows : List (List (List C))) : Bool := rows.all fun xs => xs.all fun x => x.all flatC
def ledTo (σ : ASt) (fl : List Bool) (avs : List AV) (z : Bool) : List Nat := if z then [] else reachArgs σ fl avs

def retE (σ : ASt) (d : Nat) (fl : List Bool) (avs : List AV) (z : Bool) (rv : V RC) (rows : List (List (List C))) : Option Eff :=
  match rows, (cellsV rv).filter isOwn with
  | [], [] => some (valA σ d rv, frozenUpd σ (ledTo σ fl avs z))
  | [], [r] => some (valA σ d rv, frozenUpd σ (ledTo σ fl avs z) ++ [(d, σ.g d + 1, objR r)])
  | [xs], [] => match ownOf fl avs with
      | some k => (ownBack σ k xs).map fun u => (valA σ d rv, frozenUpd σ (ledTo σ fl avs z) ++ [u])
      | none => none
  | _, _ => none

/-- A call: by some contract of the callee. pk: the name of the own parameter. -/
def callWp (P : Program) (pk : Option Nat) (σ : ASt) (d f : Nat) (avs : List AV) (K : Eff → Prop) : Prop :=
  ∃ (S : FSpec) (fl : List Bool) (args : List (V RC)), COK P f S ∧ passArgs σ fl avs = some args ∧ (args.map nOwn).sum ≤ 1 ∧ (∀ k, ownOf fl avs = some k → k ∉ reachArgs σ fl avs) ∧
    (∀ k ∈ reachArgs σ fl avs, isRowMap (σ.o k) = true ∧ pk ≠ some k) ∧
    ∃ K0, S args K0 ∧ ∀ rv rows, K0 rv rows → ∃ z e, (z = true → (flatV rv && flatRows rows) = true) ∧ retE σ d fl avs z rv rows = some e ∧ K e

theorem callWp.mono {P : Program} {pk : Option Nat} {σ : ASt} {d f : Nat} {avs : List AV} {K K' : Eff → Prop} (h : callWp P pk σ d f avs K) (hk : ∀ e, K e → K' e) : callWp P pk σ d f avs K' := by
  obtain ⟨S, fl, args, h1, h2, h3, h4, h5, K0, h6, h7⟩ := h
  exact ⟨S, fl, args, h1, h2, h3, h4, h5, K0, h6, fun rv rows h => let ⟨z, e, hz, e1, e2⟩ := h7 rv rows h; ⟨z, e, hz, e1, hk e e2⟩⟩

section
variable {P : Program} {cx : Ctx} {μ : Nat → Option Nat} {σ : ASt} {a : Act} {w : World}

theorem Rel.big (h : Rel cx μ σ a w) {μ' : Nat → Option Nat} {σ' : ASt} {a' : Act} {w' : World} (hdef : a'.defers = []) (hsz : cx.n ≤ a'.tmps.size) (hk : Kept cx.ob cx.w0 w') (hg : ∀ k, σ.g k ≤ σ'.g k)
    (hl : ∀ k, σ'.g k = σ.g k → ObjLike (σ.o k) (μ k) w (σ'.o k) (μ' k) w') (hw : ∀ b, b < w.heap.size → ¬ Xs cx.X0 σ.o μ b → w'.heap[b]? = w.heap[b]?) (hX : ∀ b, b < w.heap.size → ¬ Xs cx.X0 σ.o μ b → ¬ Xs cx.X0 σ'.o μ' b)
    (htm : (∀ {c v}, RCl cx μ σ w c v → RCl cx μ' σ' w' c v) → ∀ k, RV cx μ' σ' w' (σ'.t k) (a'.tmps.getD k undef)) (hobj : (∀ {c v}, RCl cx μ σ w c v → RCl cx μ' σ' w' c v) → ∀ k, RelO σ'.g σ'.o μ' w' (Xs cx.X0 σ'.o μ') k)
    (hinj : ∀ k k' b, liveO (σ'.o k) = true → liveO (σ'.o k') = true → μ' k = some b → μ' k' = some b → k = k') (hlv : ∀ k b, liveO (σ'.o k) = true → μ' k = some b → (cx.w0.heap.size ≤ b ∨ cx.ob = some b) ∧ b < w'.heap.size)
    (hxo : ∀ k b, liveO (σ'.o k) = true → μ' k = some b → cx.X0 b → cx.pk = some k) :
    Rel cx μ' σ' a' w' := by
  have hc : ∀ {c v}, RCl cx μ σ w c v → RCl cx μ' σ' w' c v := fun hc => hc.pres hg hl hw hX
  exact { defers := hdef, sz := hsz, kept := hk, tm := htm hc, obj := hobj hc, inj := hinj, lv := hlv, x0 := h.x0, gh := hc h.gh, xo := hxo }

theorem objLike_kept (h : Rel cx μ σ a w) {w' : World} (hk : ∀ b, b < w.heap.size → w'.heap[b]? = w.heap[b]?) (k : Nat) : ObjLike (σ.o k) (μ k) w (σ.o k) (μ k) w' :=
  ObjLike.same _ _ _ _ fun l E sz xs hx b hm cur hc => hk b (Array.getElem?_eq_some_iff.1 hc).1

theorem relO_kept (h : Rel cx μ σ a w) {w' : World} (hk : ∀ b, b < w.heap.size → w'.heap[b]? = w.heap[b]?) (hc : ∀ {c v}, RCl cx μ σ w c v → RCl cx μ σ w' c v) (k : Nat) : RelO σ.g σ.o μ w' (Xs cx.X0 σ.o μ) k := by
  have ho := h.obj k
  have lt : ∀ {b : Nat} {ob : Obj}, w.heap[b]? = some ob → b < w.heap.size := fun {b ob} hb => (Array.getElem?_eq_some_iff.1 hb).1
  unfold RelO at ho ⊢
  cases hx : σ.o k with
  | no => trivial
  | row l E sz xs =>
    rw [hx] at ho
    rcases ho with ho | ⟨b, cur, cap, h1, h2, h3, h4, h5, h6, h7, h8, h9⟩
    · exact .inl ho
    · exact .inr ⟨b, cur, cap, h1, by rw [hk b (lt h2)]; exact h2, h3, h4, h5, h6, h7, fun i x hi j c hj => let ⟨v, e1, e2⟩ := h8 i x hi j c hj; ⟨v, e1, hc e2⟩, h9⟩
  | map l ka va es =>
    rw [hx] at ho
    obtain ⟨b, me, clock, h1, h2, h3, h4⟩ := ho
    exact ⟨b, me, clock, h1, by rw [hk b (lt h2)]; exact h2, h3.mono (fun b hb _ => hk b hb) (fun _ _ hx => hx), h4⟩
  | iter ka va left cur =>
    rw [hx] at ho
    rcases ho with ⟨b, h1, h2, h3⟩ | ⟨b, m, seen, stepped, me, clock, es, ls, h1, h2, h3, h4, h5, h6⟩
    · exact .inl ⟨b, h1, by rw [hk b (lt h2)]; exact h2, h3⟩
    · exact .inr ⟨b, m, seen, stepped, me, clock, es, ls, h1, by rw [hk b (lt h2)]; exact h2, h3, by rw [hk m (lt h4)]; exact h4, h5.mono (fun b hb _ => hk b hb) (fun _ _ hx => hx), h6⟩

/-- The world has grown. -/
theorem Rel.world (h : Rel cx μ σ a w) {w' : World} (hk : Kept none w w') : Rel cx μ σ a w' := by
  have hb : ∀ b, b < w.heap.size → w'.heap[b]? = w.heap[b]? := fun b hb => hk.block b hb (by simp)
  refine h.big h.defers h.sz (h.kept.trans ⟨hk.os, hk.tape, hk.output, hk.size, fun b hb' _ => hb b hb'⟩) (fun _ => Nat.le_refl _) (fun k _ => objLike_kept h hb k) (fun b hb' _ => hb b hb') (fun _ _ hx => hx)
    (fun hc k => (h.tm k).mono fun _ _ hcv => hc hcv) (fun hc k => relO_kept h hb hc k) h.inj (fun k b h1 h2 => let ⟨e1, e2⟩ := h.lv k b h1 h2; ⟨e1, Nat.lt_of_lt_of_le e2 hk.size⟩) h.xo

theorem putO_app (o : Nat → AO) : ∀ (us vs : List (Nat × Nat × AO)), putO o (us ++ vs) = putO (putO o us) vs
  | [], vs => rfl
  | u :: us, vs => by simp only [List.cons_append, putO]; exact putO_app _ us vs
theorem putG_app (g : Nat → Nat) : ∀ (us vs : List (Nat × Nat × AO)), putG g (us ++ vs) = putG (putG g us) vs
  | [], vs => rfl
  | u :: us, vs => by simp only [List.cons_append, putG]; exact putG_app _ us vs


/-- An object is frozen. -/
theorem Rel.freeze (h : Rel cx μ σ a w) {k : Nat} (hx : isRowMap (σ.o k) = true) (hp : cx.pk ≠ some k) : Rel cx μ ⟨σ.t, upd σ.g k (σ.g k), upd σ.o k (freezeO (σ.o k))⟩ a w := by
  have hge : upd σ.g k (σ.g k) = σ.g := by funext j; unfold upd; split <;> simp_all
  rw [hge]
  have hl' : liveO (freezeO (σ.o k)) = false := by
    cases hk : σ.o k <;> rw [hk] at hx <;> first | rfl | cases hx
  have hlive : ∀ j, liveO (upd σ.o k (freezeO (σ.o k)) j) = true → j ≠ k ∧ liveO (σ.o j) = true := fun j hj => by
    by_cases e : j = k
    · subst e; rw [upd_same, hl'] at hj; cases hj
    · rw [upd_ne _ _ e] at hj; exact ⟨e, hj⟩
  have hX : ∀ b, ¬ Xs cx.X0 σ.o μ b → ¬ Xs cx.X0 (upd σ.o k (freezeO (σ.o k))) μ b := fun b hb hx => by
    rcases hx with hx | ⟨j, hj, hm⟩
    · exact hb (.inl hx)
    · exact hb (.inr ⟨j, (hlive j hj).2, hm⟩)
  have nX : ∀ b, μ k = some b → (liveO (σ.o k) = false → ¬ Xs cx.X0 σ.o μ b) → ¬ Xs cx.X0 (upd σ.o k (freezeO (σ.o k))) μ b := by
    intro b hb hn hxx
    cases hl : liveO (σ.o k) with
    | false => exact hX b (hn hl) hxx
    | true =>
      rcases hxx with hxx | ⟨j', hj', hm⟩
      · exact hp (h.xo k b hl hb hxx)
      · exact (hlive j' hj').1 (h.inj j' k b (hlive j' hj').2 hl hm hb)
  refine h.big (σ' := ⟨σ.t, σ.g, upd σ.o k (freezeO (σ.o k))⟩) h.defers h.sz h.kept (fun _ => Nat.le_refl _) (fun j _ => ?_) (fun _ _ _ => rfl) (fun b _ hb => hX b hb) (fun hc j => (h.tm j).mono fun _ _ hcv => hc hcv) (fun hc j => ?_)
    (fun j j' b h1 h2 h3 h4 => h.inj j j' b (hlive j h1).2 (hlive j' h2).2 h3 h4) (fun j b h1 h2 => h.lv j b (hlive j h1).2 h2) (fun j b h1 h2 h3 => h.xo j b (hlive j h1).2 h2 h3)
  · by_cases e : j = k
    · subst e
      simp only [upd_same]
      cases hk : σ.o j <;> rw [hk] at hx <;> first | (cases hx; done) | exact ⟨fun _ _ _ h => h, fun _ _ _ h => h, fun _ h => h, fun _ h => h⟩
    · simp only [upd_ne _ _ e]; exact ⟨fun _ _ _ h => h, fun _ _ _ h => h, fun _ h => h, fun _ h => h⟩
  · have ho := h.obj j
    unfold RelO at ho ⊢
    have lt : ∀ {b : Nat} {ob : Obj}, w.heap[b]? = some ob → b < w.heap.size := fun {b ob} hb => (Array.getElem?_eq_some_iff.1 hb).1
    by_cases e : j = k
    · subst e
      simp only [upd_same]
      cases hk : σ.o j with
      | no => rw [hk] at hx; cases hx
      | iter ka va left cur => rw [hk] at hx; cases hx
      | row l E sz xs =>
        rw [hk] at ho nX hc
        simp only [freezeO]
        rcases ho with ho | ⟨b, cur, cap, h1, h2, h3, h4, h5, h6, h7, h8, h9⟩
        · exact .inl ho
        · exact .inr ⟨b, cur, cap, h1, h2, h3, h4, h5, h6, h7, fun i x hi p c hp => let ⟨v, e1, e2⟩ := h8 i x hi p c hp; ⟨v, e1, hc e2⟩, fun _ => nX b h1 fun hl => h9 hl⟩
      | map l ka va es =>
        rw [hk] at ho nX hc
        simp only [freezeO]
        obtain ⟨b, me, clock, h1, h2, h3, h4⟩ := ho
        refine ⟨b, me, clock, h1, h2, h3.mono (fun _ _ _ => rfl) (fun b _ hb => ?_), fun _ => nX b h1 fun hl => h4 hl⟩
        have := hX b hb
        rwa [hk] at this
    · simp only [upd_ne _ _ e]
      cases hk : σ.o j with
      | no => trivial
      | row l E sz xs =>
        rw [hk] at ho
        rcases ho with ho | ⟨b, cur, cap, h1, h2, h3, h4, h5, h6, h7, h8, h9⟩
        · exact .inl ho
        · exact .inr ⟨b, cur, cap, h1, h2, h3, h4, h5, h6, h7, fun i x hi p c hp => let ⟨v, e1, e2⟩ := h8 i x hi p c hp; ⟨v, e1, hc e2⟩, fun hl => hX b (h9 hl)⟩
      | map l ka va es =>
        rw [hk] at ho
        obtain ⟨b, me, clock, h1, h2, h3, h4⟩ := ho
        exact ⟨b, me, clock, h1, h2, h3.mono (fun _ _ _ => rfl) (fun b _ hb => hX b hb), fun hl => hX b (h4 hl)⟩
      | iter ka va left cur =>
        rw [hk] at ho
        rcases ho with ⟨b, h1, h2, h3⟩ | ⟨b, m, seen, stepped, me, clock, es, ls, h1, h2, h3, h4, h5, h6⟩
        · exact .inl ⟨b, h1, h2, h3⟩
        · exact .inr ⟨b, m, seen, stepped, me, clock, es, ls, h1, h2, hX m h3, h4, h5.mono (fun _ _ _ => rfl) (fun b _ hb => hX b hb), h6⟩

theorem frozen_is {x : AO} (h : isRowMap x = true) : isRowMap (freezeO x) = true := by cases x <;> first | rfl | cases h
theorem frozen_twice (x : AO) : freezeO (freezeO x) = freezeO x := by cases x <;> rfl

/-- What a list of objects is, each frozen. -/
def frz_o (o : Nat → AO) (ks : List Nat) (k : Nat) : AO := if k ∈ ks then freezeO (o k) else o k

theorem putO_frozen (σ : ASt) : ∀ (ks : List Nat) (o : Nat → AO), (∀ k, o k = σ.o k ∨ o k = freezeO (σ.o k)) → ∀ k, putO o (frozenUpd σ ks) k = if k ∈ ks then freezeO (σ.o k) else o k
  | [], o, _, k => by simp [frozenUpd, putO]
  | j :: ks, o, ho, k => by
    have := putO_frozen σ ks (upd o j (freezeO (σ.o j))) (fun i => by
      by_cases e : i = j
      · subst e; rw [upd_same]; exact .inr rfl
      · rw [upd_ne _ _ e]; exact ho i) k
    simp only [frozenUpd, List.map_cons, putO] at this ⊢
    rw [this]
    by_cases e : k = j
    · subst e; simp
    · simp [e, upd_ne]

theorem putG_frozen (σ : ASt) : ∀ (ks : List Nat), putG σ.g (frozenUpd σ ks) = σ.g
  | [] => rfl
  | j :: ks => by
    have hge : upd σ.g j (σ.g j) = σ.g := by funext i; unfold upd; split <;> simp_all
    simp only [frozenUpd, List.map_cons, putG, hge]
    exact putG_frozen σ ks

/-- Many objects are frozen. -/
theorem Rel.freezes (h : Rel cx μ σ a w) : ∀ (ks : List Nat), (∀ k ∈ ks, isRowMap (σ.o k) = true ∧ cx.pk ≠ some k) → Rel cx μ ⟨σ.t, σ.g, frz_o σ.o ks⟩ a w := by
  intro ks
  induction ks with
  | nil =>
    intro _
    have : frz_o σ.o [] = σ.o := by funext k; simp [frz_o]
    rw [this]; exact h
  | cons k ks ih =>
    intro hk
    have h1 := ih fun j hj => hk j (by simp [hj])
    have hk1 := hk k (by simp)
    have h2 := h1.freeze (k := k) (by
      simp only [frz_o]
      split
      · exact frozen_is hk1.1
      · exact hk1.1) hk1.2
    have hge : upd σ.g k (σ.g k) = σ.g := by funext j; unfold upd; split <;> simp_all
    have ho : upd (frz_o σ.o ks) k (freezeO (frz_o σ.o ks k)) = frz_o σ.o (k :: ks) := by
      funext j
      by_cases e : j = k
      · subst e
        rw [upd_same]
        simp only [frz_o, List.mem_cons, true_or, if_true]
        split
        · exact frozen_twice _
        · rfl
      · rw [upd_ne _ _ e]
        simp [frz_o, e]
    dsimp only at h2
    rw [hge, ho] at h2
    exact h2

theorem putO_frz (σ : ASt) (ks : List Nat) : putO σ.o (frozenUpd σ ks) = frz_o σ.o ks := by
  funext k
  rw [putO_frozen σ ks σ.o (fun _ => .inl rfl)]
  rfl

theorem flat_rep {w w' : World} {X Y : Nat → Prop} {c : C} {v : Value} (hf : flatC c = true) (h : RepC w X c v) : RepC w' Y c v := by
  cases h with
  | bool b => exact .bool b
  | int k n => exact .int k n
  | str s => exact .str s
  | sl0 a cap => exact .sl0 a cap
  | sl xs ad n cap sz f hn =>
    cases xs with
    | nil => simp at hn; subst hn; exact .sl0 _ _
    | cons x xs => cases hf
  | ptr => cases hf
  | nilp => exact .nilp
  | nilf => exact .nilf
  | fn g caps vs f hl =>
    cases caps with
    | nil => exact .fn g [] vs f hl (by simp) (by simp)
    | cons x xs => cases hf
  | mp0 => cases hf
  | mp => cases hf

end
end Go.Proofs.Ytnpdeecoejabgaa
