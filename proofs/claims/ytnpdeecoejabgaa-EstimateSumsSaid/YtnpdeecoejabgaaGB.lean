/- THE ABSTRACT MACHINE, 27: the steps of a walk. -/
import Derived.Test.YtnpdeecoejabgaaGA
set_option linter.unusedSimpArgs false
set_option linter.unusedVariables false
namespace Go.Proofs.Ytnpdeecoejabgaa
open Go Go.RowKit

def stepsL (P : Program) (pk : Option Nat) (ops : List AR) (L : List (Nat × Option (List Nat))) (σ : ASt) (K : ASt → Prop) : Prop :=
  stepsA P pk (L.map fun p => (ops.getD p.1 default, p.2)) σ K

section
variable {P : Program} {pk : Option Nat} {n : Nat} {σ : ASt} {Q : AE → ASt → Prop} {K : ASt → Prop} {ops : List AR} {y : ACode} {L : List (Nat × Option (List Nat))} {A : Option (List Nat)} {i : Nat}

theorem stepsA_wp : ∀ (rs : List (AR × Option (List Nat))) {σ : ASt}, stepsA P pk rs σ K → stepsWp P pk (rs.map (·.1)) σ K
  | [], _, h => h
  | r :: rs, _, h => step_mono (fun σ' h' => stepsA_wp rs h') (stepA_wp h)

theorem AW.regL (L : List (Nat × Option (List Nat))) (hL : L.map (fun p => ops.getD p.1 default) = ops) (h : stepsL P pk ops L σ (Q .fall)) : AW P n pk (.reg ops false) σ Q := by
  refine AW.reg ?_
  have := stepsA_wp _ h
  rw [List.map_map] at this
  have e : (Prod.fst ∘ fun p : Nat × Option (List Nat) => (ops.getD p.1 default, p.2)) = fun p => ops.getD p.1 default := rfl
  rw [e, hL] at this
  exact this
theorem AW.sregL (L : List (Nat × Option (List Nat))) (hL : L.map (fun p => ops.getD p.1 default) = ops) (h : stepsL P pk ops L σ (fun σ' => AW P n pk y σ' Q)) : AW P n pk (.seq (.reg ops false) y) σ Q :=
  AW.seq (AW.regL L hL h)
theorem AW.regdL (hm : P.follows .mixedOrders = true) (clo : List (List Nat)) (L : List (Nat × Option (List Nat))) (hok : okOrd ops clo L = true) (h : stepsL P pk ops L σ (Q .fall)) : AW P n pk (.reg ops true) σ Q :=
  AW.regd hm clo L hok h
theorem AW.sregdL (hm : P.follows .mixedOrders = true) (clo : List (List Nat)) (L : List (Nat × Option (List Nat))) (hok : okOrd ops clo L = true) (h : stepsL P pk ops L σ (fun σ' => AW P n pk y σ' Q)) : AW P n pk (.seq (.reg ops true) y) σ Q :=
  AW.seq (AW.regdL hm clo L hok h)

theorem l_nil (h : K σ) : stepsL P pk ops [] σ K := h

/-- An operation of which the kernel sees the outcome. -/
def chk (A : Option (List Nat)) (σ : ASt) (r : AR) : Option (Option Nat × Eff) := if detOp r.op then (effA A σ r).map fun e => (r.dst, e) else none

theorem l_det (dst : Option Nat) (e : Eff) (h : chk A σ (ops.getD i default) = some (dst, e)) (hK : stepsL P pk ops L (σ.put dst e) K) : stepsL P pk ops ((i, A) :: L) σ K := by
  unfold chk at h
  split at h
  · rename_i hd
    obtain ⟨e', h1, h2⟩ := Option.map_eq_some_iff.1 h
    cases h2
    simp only [stepsL, List.map_cons, stepsA, stepA]
    rw [if_pos hd]
    exact ⟨_, h1, hK⟩
  · cases h
theorem l_ds (n : Nat) (v : AV) (hK : stepsL P pk ops L (σ.put (some n) (v, [])) K) (h : chk A σ (ops.getD i default) = some (some n, (v, [])) := by kernel_rfl) : stepsL P pk ops ((i, A) :: L) σ K := l_det _ _ h hK
theorem Lab.m {S : Type} {T : S → List (Nat × AV)} {O : S → List (Nat × LO)} {N : S → Prop} (s : S) (F : List (Nat × Option Nat)) (hN : N s)
    (h1 : (T s).map (fun p => some (nzV p.2 (σ.t p.1))) = (T s).map fun p => preV F σ.g p.2 := by kernel_rfl)
    (h2 : (O s).map (fun p => match look none F p.1 with | some j => some (nzO p.2 (σ.o j)) | none => if isNew p.2 then some .no else none) = (O s).map fun p => match look none F p.1 with | some _ => (preO F σ.g p.2).map (normP p.2) | none => some .no := by kernel_rfl)
    (h3 : σ.g ownP = 0 := by kernel_rfl) (h4 : (F.all (fun p => (p.1 == ownP) == (p.2 == some ownP)) && ndup (F.filterMap (·.2)) && ndup (F.map (·.1)) && (F.map (·.1) == (O s).map (·.1))) = true := by kernel_rfl) : Lab T O N σ := Lab.mk s F h1 h2 h3 h4 hN


def grdOk (σ : ASt) (r : AR) : Bool := match r.grd with
  | none => true
  | some (s, b) => match σ.t s with
    | .one (.d (.bool b')) => b' == b
    | _ => false
def detA (A : Option (List Nat)) (σ : ASt) (d : Nat) (op : AOp) : Option Eff :=
  match A with
  | none => det σ d op
  | some A => if d ∈ wrs A then match det ⟨σ.t, rg (vis A) σ.g, ro (vis A) σ.o⟩ d op with
      | some e => if e.2.all (fun u => decide (u.1 ∈ wrs A)) then some e else none
      | none => none
    else none

def chkOp (σ : ASt) (r : AR) : Option (Option Nat × AOp) := if detOp r.op && grdOk σ r then some (r.dst, r.op) else none

theorem eff_core {r : AR} (h : grdOk σ r = true) : effA A σ r = coreA A σ r := by
  unfold grdOk at h
  unfold effA
  split at h
  · rename_i hg; rw [hg]
  · rename_i s b hg
    rw [hg]
    dsimp only
    split at h
    · rename_i b' ht
      rw [ht]
      simp only [beq_iff_eq] at h
      rw [h]
      exact if_pos rfl
    · cases h

theorem l_spec (dst : Option Nat) (op : AOp) (e : Eff) (h1 : chkOp σ (ops.getD i default) = some (dst, op)) (h2 : detA A σ (dst.getD 999999) op = some e) (hK : stepsL P pk ops L (σ.put dst e) K) : stepsL P pk ops ((i, A) :: L) σ K := by
  unfold chkOp at h1
  split at h1
  · rename_i hd
    simp only [Bool.and_eq_true] at hd
    simp only [Option.some.injEq, Prod.mk.injEq] at h1
    refine l_det dst e ?_ hK
    unfold chk
    rw [if_pos hd.1, eff_core hd.2, ← h1.1]
    have : coreA A σ (ops.getD i default) = detA A σ (dst.getD 999999) op := by
      unfold coreA detA nmR
      rw [h1.1, h1.2]
      rfl
    rw [this, h2]
    rfl
  · cases h1

theorem detA_some {B : List Nat} {d : Nat} {op : AOp} {e : Eff} (h : det ⟨σ.t, rg (vis B) σ.g, ro (vis B) σ.o⟩ d op = some e) (hd : (decide (d ∈ wrs B) && e.2.all (fun u => decide (u.1 ∈ wrs B))) = true) : detA (some B) σ d op = some e := by
  simp only [Bool.and_eq_true, decide_eq_true_eq] at hd
  show (if d ∈ wrs B then match det ⟨σ.t, rg (vis B) σ.g, ro (vis B) σ.o⟩ d op with
      | some e => if e.2.all (fun u => decide (u.1 ∈ wrs B)) then some e else none
      | none => none
    else none) = some e
  rw [if_pos hd.1, h]
  exact if_pos hd.2

/-- What a slot holds is known from a test. -/
theorem l_split {s : Nat} {t : Bool} {B B' : Prop} (hs : σ.t s = .one (.d (.bool t))) (h : Cond t B B') (h1 : B → stepsL P pk ops L ⟨upd σ.t s (.one (.d (.bool true))), σ.g, σ.o⟩ K) (h2 : B' → stepsL P pk ops L ⟨upd σ.t s (.one (.d (.bool false))), σ.g, σ.o⟩ K) : stepsL P pk ops L σ K := by
  have key : ∀ b, t = b → σ = ⟨upd σ.t s (.one (.d (.bool b))), σ.g, σ.o⟩ := fun b hb => by
    cases σ with
    | mk t' g' o' =>
      congr 1
      funext k
      by_cases e : k = s
      · subst e; rw [upd_same]; rw [← hb]; exact hs
      · rw [upd_ne _ _ e]
  cases t with
  | true => rw [key true rfl]; exact h1 (h.1 rfl)
  | false => rw [key false rfl]; exact h2 (h.2 rfl)

/-- What a slot holds is said in other words. -/
theorem l_renorm (s : Nat) (v : AV) (hs : σ.t s = v) (h : stepsL P pk ops L ⟨upd σ.t s v, σ.g, σ.o⟩ K) : stepsL P pk ops L σ K := by
  have : σ = ⟨upd σ.t s v, σ.g, σ.o⟩ := by
    cases σ with
    | mk t' g' o' =>
      congr 1
      funext k
      by_cases e : k = s
      · subst e; rw [upd_same]; exact hs
      · rw [upd_ne _ _ e]
  rw [this]; exact h

/-- Calls. -/
def okCall (A : Option (List Nat)) (σ : ASt) (r : AR) : Bool := grdOk σ r && match A with
  | some B => (opsOf r.op).all (fun x => pureAV (σ.ev x)) && decide (nmR r ∈ wrs B)
  | none => true
def calleeOf (σ : ASt) (r : AR) : Option (Nat × List AV) := match r.op with
  | .call f xs => some (f, xs.map σ.ev)
  | .callv x xs => match σ.ev x with
    | .one (.fn f caps) => some (f, xs.map σ.ev ++ caps.map .one)
    | .one (.d (.fn f caps)) => some (f, xs.map σ.ev ++ caps.map fun c => .one (.d c))
    | _ => none
  | _ => none
def chkCall (A : Option (List Nat)) (σ : ASt) (r : AR) : Option (Option Nat × Nat × List AV) :=
  if okCall A σ r = true then (calleeOf σ r).map fun p => (r.dst, p.1, p.2) else none

theorem step_grd {r : AR} (h : grdOk σ r = true) (hw : opWp P pk σ (nmR r) r.op fun e => K (σ.put r.dst e)) : stepWp P pk σ r K := by
  unfold grdOk at h
  unfold stepWp
  split at h
  · rename_i hg; rw [hg]; exact hw
  · rename_i s b hg
    rw [hg]
    dsimp only
    split at h
    · rename_i b' ht
      rw [ht]
      simp only [beq_iff_eq] at h
      rw [h]
      dsimp only
      rw [if_pos rfl]
      exact hw
    · cases h

theorem l_callwp {f : Nat} {avs : List AV} (dst : Option Nat) (h1 : chkCall A σ (ops.getD i default) = some (dst, f, avs)) (he : enters P f = true) (hw : callWp P pk σ (dst.getD 999999) f avs fun e => stepsL P pk ops L (σ.put dst e) K) : stepsL P pk ops ((i, A) :: L) σ K := by
  unfold chkCall at h1
  split at h1
  · rename_i hg
    simp only [okCall, Bool.and_eq_true] at hg
    have key : detOp (ops.getD i default).op = false → stepWp P pk σ (ops.getD i default) (fun σ' => stepsL P pk ops L σ' K) → stepsL P pk ops ((i, A) :: L) σ K := fun hd hs => by
      simp only [stepsL, List.map_cons, stepsA, stepA]
      rw [if_neg (by rw [hd]; simp)]
      refine ⟨fun B hB _ => ?_, hs⟩
      have h2 := hg.2
      rw [hB] at h2
      simp only [Bool.and_eq_true, List.all_eq_true, decide_eq_true_eq] at h2
      exact h2
    obtain ⟨p, hp, e⟩ := Option.map_eq_some_iff.1 h1
    simp only [Prod.mk.injEq] at e
    obtain ⟨rfl, rfl, rfl⟩ := e
    unfold calleeOf at hp
    split at hp
    · rename_i f' xs hop
      cases hp
      exact key (by rw [hop]; rfl) (step_grd hg.1 (by rw [hop]; exact hw))
    · rename_i x xs hop
      split at hp
      · rename_i f' caps hev
        cases hp
        refine key (by rw [hop]; rfl) (step_grd hg.1 ?_)
        rw [hop]; simp only [opWp]; rw [hev]
        exact ⟨he, hw⟩
      · rename_i f' caps hev
        cases hp
        refine key (by rw [hop]; rfl) (step_grd hg.1 ?_)
        rw [hop]; simp only [opWp]; rw [hev]
        exact ⟨he, hw⟩
      · cases hp
    · cases hp
  · cases h1

/-- A call whose guard does not hold. -/
theorem l_skip (dst : Option Nat) (h : grdNo σ (ops.getD i default) = true) (hd : (ops.getD i default).dst = dst) (hdet : detOp (ops.getD i default).op = false) (hK : stepsL P pk ops L (σ.put dst (.tup [], [])) K) : stepsL P pk ops ((i, A) :: L) σ K := by
  subst hd
  simp only [stepsL, List.map_cons, stepsA, stepA]
  rw [if_neg (by rw [hdet]; simp)]
  refine ⟨fun B hB hno => (by rw [h] at hno; cases hno), ?_⟩
  unfold grdNo at h
  unfold stepWp
  split at h
  · cases h
  · rename_i s b hg
    rw [hg]
    dsimp only
    split at h
    · rename_i b' ht
      rw [ht]
      dsimp only
      rw [if_neg (by simpa using h)]
      exact hK
    · rename_i ht; rw [ht]; exact hK
    · cases h

/-- What a call leaves, by what its arguments lead to. -/
def retF (σ : ASt) (d : Nat) (fl : List Bool) (avs : List AV) (R : List Nat) (rv : V RC) (rows : List (List (List C))) : Option Eff :=
  match rows, (cellsV rv).filter isOwn with
  | [], [] => some (valA σ d rv, frozenUpd σ R)
  | [], [r] => some (valA σ d rv, frozenUpd σ R ++ [(d, σ.g d + 1, objR r)])
  | [xs], [] => match ownOf fl avs with
      | some k => (ownBack σ k xs).map fun u => (valA σ d rv, frozenUpd σ R ++ [u])
      | none => none
  | _, _ => none
theorem ret_R {d : Nat} {fl : List Bool} {avs : List AV} {R : List Nat} {rv : V RC} {rows : List (List (List C))} {e : Eff} (hR : reachArgs σ fl avs = R) (h : retF σ d fl avs R rv rows = some e) : retE σ d fl avs false rv rows = some e := by
  subst hR
  exact h

def ownFree (R : List Nat) : Option Nat → Bool
  | some k => !R.contains k
  | none => true

theorem l_call {f : Nat} {S : FSpec} (hc : COK P f S) (he : enters P f = true) (dst : Option Nat) (avs : List AV) (fl : List Bool) (args : List (V RC)) (R : List Nat) {K0 : V RC → List (List (List C)) → Prop} (h1 : chkCall A σ (ops.getD i default) = some (dst, f, avs))
    (hp : passArgs σ fl avs = some args ∧ reachArgs σ fl avs = R) (hn : decide ((args.map nOwn).sum ≤ 1) = true) (ho : ownFree R (ownOf fl avs) = true) (hm : R.all (fun k => isRowMap (σ.o k) && k != ownP) = true)
    (hS : S args K0) (hK : reachArgs σ fl avs = R → ∀ rv rows, K0 rv rows → ∃ z e, (z = true → (flatV rv && flatRows rows) = true) ∧ retE σ (dst.getD 999999) fl avs z rv rows = some e ∧ stepsL P (some ownP) ops L (σ.put dst e) K) : stepsL P (some ownP) ops ((i, A) :: L) σ K := by
  refine l_callwp dst h1 he ⟨S, fl, args, hc, hp.1, of_decide_eq_true hn, fun k hk hmem => ?_, fun k hk => ?_, K0, hS, hK hp.2⟩
  · rw [hp.2] at hmem
    rw [hk] at ho
    simp [ownFree, hmem] at ho
  · rw [hp.2] at hk
    have := List.all_eq_true.1 hm k hk
    simp only [Bool.and_eq_true, bne_iff_ne, ne_eq] at this
    exact ⟨this.1, fun e => this.2 (Option.some.inj e).symm⟩

/-- The function ends. -/
theorem q_end {rs : List AResult} {args : List (V RC)} {K : V RC → List (List (List C)) → Prop} (avs : List AV) (fl : List Bool) (rvs : List (V RC)) (rows : List (List (List C))) (R : List Nat) (h1 : allSome (rs.map (resV σ)) = some avs)
    (h2 : passArgs σ fl avs = some rvs ∧ reachArgs σ fl avs = R) (h3 : decide ((rvs.map nOwn).sum ≤ 1) = true) (h4 : (ownFree R (ownOf fl avs) && ownOf fl avs != some ownP) = true) (h5 : R.all (fun k => isRowMap (σ.o k) && k != ownP) = true)
    (h6 : backRows σ args = some rows) (hK : K (packV rvs) rows) {e : AE} (he : e = .fall ∨ e = .ret) : retPost rs args K e σ := by
  refine ⟨he, avs, fl, rvs, rows, h1, h2.1, of_decide_eq_true h3, fun k hk => ?_, fun k hk => ?_, h6, hK⟩
  · rw [h2.2]
    simp only [Bool.and_eq_true, bne_iff_ne, ne_eq] at h4
    rw [hk] at h4
    exact ⟨fun hm => by simp [ownFree, hm] at h4, fun e => h4.2 (by rw [e])⟩
  · rw [h2.2] at hk
    have := List.all_eq_true.1 h5 k hk
    simpa using this

theorem pure_dm : ∀ (y : List C), pureCells (dm y) = some y
  | [] => rfl
  | c :: y => by
    have h := pure_dm y
    simp only [pureCells, dm, List.map_cons, allSome, pureCell] at h ⊢
    rw [h]; rfl
theorem pure_dmm : ∀ (ys : List (List C)), pureRow (dmm ys) = some ys
  | [] => rfl
  | y :: ys => by
    have h := pure_dmm ys
    simp only [pureRow, dmm, List.map_cons, allSome, pure_dm] at h ⊢
    rw [h]; rfl

/-- What is handed over. -/
theorem ps_nil {fl : List Bool} : passArgs σ fl [] = some [] ∧ reachArgs σ fl [] = [] := ⟨rfl, rfl⟩
theorem ps_plain {fl : List Bool} {v : AV} {vs : List AV} {x : V RC} {xs : List (V RC)} {R R' : List Nat} (h : passPlain σ v = some x ∧ reachV σ v = R) (t : passArgs σ fl vs = some xs ∧ reachArgs σ fl vs = R') :
    passArgs σ (false :: fl) (v :: vs) = some (x :: xs) ∧ reachArgs σ (false :: fl) (v :: vs) = R ++ R' := by
  simp [passArgs, passOne, reachArgs, h, t]
theorem ps_own {fl : List Bool} {o g n E sz : Nat} {ys : List (List C)} {vs : List AV} {xs : List (V RC)} {R' : List Nat} (hg : σ.g o = g) (ho : σ.o o = .row true E sz (dmm ys)) (hn : n = ys.length) (t : passArgs σ fl vs = some xs ∧ reachArgs σ fl vs = R') :
    passArgs σ (true :: fl) (.one (.view o g 0 n) :: vs) = some (.one (.own E sz ys) :: xs) ∧ reachArgs σ (true :: fl) (.one (.view o g 0 n) :: vs) = R' := by
  subst hg hn
  have := pure_dmm ys
  simp [passArgs, passOne, passOwn, reachArgs, ho, this, t]
end
end Go.Proofs.Ytnpdeecoejabgaa
