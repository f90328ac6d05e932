/- THE ABSTRACT MACHINE, 22: regions that draw the order of their operations: one order stands for all. -/
import Derived.Test.YtnpdeecoejabgaaKV
import Derived.Orders
set_option linter.unusedSimpArgs false
set_option linter.unusedVariables false
namespace Go.Proofs.Ytnpdeecoejabgaa
open Go Go.RowKit

def pureAC : AC → Bool
  | .d _ => true
  | .nils => true
  | _ => false
/-- A value that leads to no object. -/
def pureAV : AV → Bool
  | .one (.fn _ caps) => caps.all pureAC
  | .one c => pureAC c
  | .agg cs => cs.all pureAC
  | _ => false

section
variable {P : Program} {pk : Option Nat} {σ σ' : ASt}

theorem frz_pure {c : AC} (h : pureAC c = true) (n : Nat) : frz σ (n + 1) c = frz σ' (n + 1) c ∧ reach σ (n + 1) c = [] := by
  cases c <;> first | (simp [pureAC] at h; done) | exact ⟨rfl, rfl⟩

theorem frzs_pure {cs : List AC} (h : cs.all pureAC = true) (n : Nat) : cs.map (frz σ (n + 1)) = cs.map (frz σ' (n + 1)) ∧ cs.flatMap (reach σ (n + 1)) = [] := by
  have h' := List.all_eq_true.1 h
  exact ⟨List.map_congr_left fun c hc => (frz_pure (h' c hc) n).1, List.flatMap_eq_nil_iff.2 fun c hc => (frz_pure (σ' := σ) (h' c hc) n).2⟩

theorem pass_pure {v : AV} (h : pureAV v = true) (b : Bool) : passOne σ b v = passOne σ' b v ∧ reachV σ v = [] ∧ ownName v = none := by
  have own : passOwn σ v = passOwn σ' v ∧ ownName v = none := by
    cases v with
    | one c => cases c <;> first | (simp [pureAV, pureAC] at h; done) | exact ⟨rfl, rfl⟩
    | _ => exact ⟨rfl, rfl⟩
  have plain : passPlain σ v = passPlain σ' v ∧ reachV σ v = [] := by
    cases v with
    | any => simp [pureAV] at h
    | tup vs => simp [pureAV] at h
    | agg cs =>
      obtain ⟨h1, h2⟩ := frzs_pure (σ := σ) (σ' := σ') h 7
      exact ⟨by simp only [passPlain, h1], h2⟩
    | one c =>
      by_cases hc : pureAC c = true
      · obtain ⟨h1, h2⟩ := frz_pure (σ := σ) (σ' := σ') hc 7
        exact ⟨by simp only [passPlain, h1], h2⟩
      · cases c with
        | fn f caps =>
          obtain ⟨h1, h2⟩ := frzs_pure (σ := σ) (σ' := σ') h 6
          exact ⟨by simp only [passPlain, frz, h1], by simp only [reachV, reach, h2]⟩
        | d c => simp [pureAC] at hc
        | nils => simp [pureAC] at hc
        | view => simp [pureAV, pureAC] at h
        | ref => simp [pureAV, pureAC] at h
        | mpr => simp [pureAV, pureAC] at h
        | itr => simp [pureAV, pureAC] at h
  refine ⟨?_, plain.2, own.2⟩
  cases b
  · exact plain.1
  · exact own.1

theorem passes_pure : ∀ (avs : List AV) (fl : List Bool), (∀ v ∈ avs, pureAV v = true) → passArgs σ fl avs = passArgs σ' fl avs ∧ reachArgs σ fl avs = [] ∧ ownOf fl avs = none
  | [], _, _ => ⟨rfl, rfl, rfl⟩
  | v :: avs, fl, h => by
    obtain ⟨h1, h2, h3⟩ := pass_pure (σ := σ) (σ' := σ') (h v (by simp)) (fl.headD false)
    obtain ⟨h4, h5, h6⟩ := passes_pure avs fl.tail fun w hw => h w (by simp [hw])
    refine ⟨by simp only [passArgs, h1, h4], ?_, ?_⟩
    · simp only [reachArgs, h2, h5, List.append_nil]
      split <;> rfl
    · simp only [ownOf, h3, h6]
      split <;> rfl

theorem ret_pure {d : Nat} {avs : List AV} {fl : List Bool} (h : ∀ v ∈ avs, pureAV v = true) (hg : σ.g d = σ'.g d) (z : Bool) (rv : V RC) (rows : List (List (List C))) : retE σ d fl avs z rv rows = retE σ' d fl avs z rv rows := by
  have h1 := passes_pure (σ := σ) (σ' := σ') avs fl h
  have h2 := passes_pure (σ := σ') (σ' := σ) avs fl h
  have hl : ledTo σ fl avs z = [] ∧ ledTo σ' fl avs z = [] := by
    simp only [ledTo, h1.2.1, h2.2.1]; exact ⟨by split <;> rfl, by split <;> rfl⟩
  have hc : cellA σ d = cellA σ' d := by funext c; cases c <;> simp only [cellA, hg]
  have hv1 : val1 σ d = val1 σ' d := by funext v; cases v <;> simp only [val1, hc]
  have hv : valA σ d rv = valA σ' d rv := by cases rv <;> simp only [valA, val1, hc, hv1]
  unfold retE
  rw [h1.2.2]
  simp only [hl.1, hl.2, hv, hg]
  rfl

theorem call_pure {d f : Nat} {avs : List AV} {K : Eff → Prop} (h : ∀ v ∈ avs, pureAV v = true) (hg : σ.g d = σ'.g d) (hc : callWp P pk σ d f avs K) : callWp P pk σ' d f avs K := by
  obtain ⟨S, fl, args, h1, h2, h3, h4, h5, K0, h6, h7⟩ := hc
  have p1 := passes_pure (σ := σ) (σ' := σ') avs fl h
  have p2 := passes_pure (σ := σ') (σ' := σ) avs fl h
  have g1 : ∀ k, ownOf fl avs = some k → k ∉ reachArgs σ' fl avs := by intro k hk; rw [p2.2.2] at hk; cases hk
  have g2 : ∀ k ∈ reachArgs σ' fl avs, isRowMap (σ'.o k) = true ∧ pk ≠ some k := by intro k hk; rw [p2.2.1] at hk; cases hk
  refine ⟨S, fl, args, h1, p2.1.trans h2, h3, g1, g2, K0, h6, fun rv rows hr => ?_⟩
  obtain ⟨z, e, hz, e1, e2⟩ := h7 rv rows hr
  exact ⟨z, e, hz, by rwa [ret_pure (σ' := σ') h hg] at e1, e2⟩

/-- What such a call turns. -/
theorem call_names {d f : Nat} {avs : List AV} {K : Eff → Prop} (h : ∀ v ∈ avs, pureAV v = true) (hc : callWp P pk σ d f avs K) : callWp P pk σ d f avs fun e => K e ∧ ∀ u ∈ e.2, u.1 = d := by
  obtain ⟨S, fl, args, h1, h2, h3, h4, h5, K0, h6, h7⟩ := hc
  have p1 := passes_pure (σ := σ) (σ' := σ) avs fl h
  refine ⟨S, fl, args, h1, h2, h3, h4, h5, K0, h6, fun rv rows hr => ?_⟩
  obtain ⟨z, e, hz, e1, e2⟩ := h7 rv rows hr
  refine ⟨z, e, hz, e1, e2, ?_⟩
  have hl : ledTo σ fl avs z = [] := by simp only [ledTo, p1.2.1]; split <;> rfl
  unfold retE at e1
  rw [p1.2.2] at e1
  simp only [hl, frozenUpd, List.map_nil, List.nil_append] at e1
  split at e1
  · cases e1; intro u hu; cases hu
  · cases e1; intro u hu; simp at hu; rw [hu]
  · cases e1
  · cases e1

/-- States that differ in their slots alone. -/
theorem frz_t {t t' : Nat → AV} {g : Nat → Nat} {o : Nat → AO} : ∀ (n : Nat) (c : AC), frz ⟨t, g, o⟩ n c = frz ⟨t', g, o⟩ n c ∧ reach ⟨t, g, o⟩ n c = reach ⟨t', g, o⟩ n c := by
  intro n
  induction n with
  | zero => intro c; exact ⟨rfl, rfl⟩
  | succ n ih =>
    intro c
    have h1 : frz ⟨t, g, o⟩ n = frz ⟨t', g, o⟩ n := funext fun c => (ih c).1
    have h2 : reach ⟨t, g, o⟩ n = reach ⟨t', g, o⟩ n := funext fun c => (ih c).2
    cases c <;> simp only [frz, reach, h1, h2] <;> trivial

theorem callWp_t {t t' : Nat → AV} {g : Nat → Nat} {o : Nat → AO} {d f : Nat} {avs : List AV} {K : Eff → Prop} (h : callWp P pk ⟨t, g, o⟩ d f avs K) : callWp P pk ⟨t', g, o⟩ d f avs K := by
  have h1 : ∀ n, frz ⟨t, g, o⟩ n = frz ⟨t', g, o⟩ n := fun n => funext fun c => (frz_t n c).1
  have h2 : ∀ n, reach ⟨t, g, o⟩ n = reach ⟨t', g, o⟩ n := fun n => funext fun c => (frz_t n c).2
  have h3 : ∀ b, passOne ⟨t, g, o⟩ b = passOne ⟨t', g, o⟩ b := fun b => funext fun v => by
    have e1 : passOwn ⟨t, g, o⟩ v = passOwn ⟨t', g, o⟩ v := by unfold passOwn; rfl
    have e2 : passPlain ⟨t, g, o⟩ v = passPlain ⟨t', g, o⟩ v := by cases v <;> simp only [passPlain, h1]
    simp only [passOne, e1, e2]
  have h4 : ∀ avs fl, passArgs ⟨t, g, o⟩ fl avs = passArgs ⟨t', g, o⟩ fl avs := fun avs => by
    induction avs with
    | nil => intro fl; rfl
    | cons v avs ih => intro fl; simp only [passArgs, h3, ih]
  have h5 : reachV ⟨t, g, o⟩ = reachV ⟨t', g, o⟩ := funext fun v => by cases v <;> simp only [reachV, h2]
  have h6 : ∀ avs fl, reachArgs ⟨t, g, o⟩ fl avs = reachArgs ⟨t', g, o⟩ fl avs := fun avs => by
    induction avs with
    | nil => intro fl; rfl
    | cons v avs ih => intro fl; simp only [reachArgs, h5, ih]
  have hc : cellA ⟨t, g, o⟩ d = cellA ⟨t', g, o⟩ d := by funext c; cases c <;> rfl
  have hv1 : val1 ⟨t, g, o⟩ d = val1 ⟨t', g, o⟩ d := by funext v; cases v <;> simp only [val1, hc]
  have hv : valA ⟨t, g, o⟩ d = valA ⟨t', g, o⟩ d := by funext v; cases v <;> simp only [valA, val1, hc, hv1]
  have h7 : ∀ fl z rv rows, retE ⟨t, g, o⟩ d fl avs z rv rows = retE ⟨t', g, o⟩ d fl avs z rv rows := fun fl z rv rows => by
    have e1 : ledTo ⟨t, g, o⟩ fl avs z = ledTo ⟨t', g, o⟩ fl avs z := by simp only [ledTo, h6]
    unfold retE
    simp only [e1, hv]
    rfl
  obtain ⟨S, fl, args, g1, g2, g3, g4, g5, K0, g6, g7⟩ := h
  refine ⟨S, fl, args, g1, (h4 _ _) ▸ g2, g3, fun k hk => (h6 avs fl) ▸ g4 k hk, fun k hk => g5 k ((h6 avs fl) ▸ hk), K0, g6, fun rv rows hr => ?_⟩
  obtain ⟨z, e, hz, e1, e2⟩ := g7 rv rows hr
  exact ⟨z, e, hz, by rwa [h7] at e1, e2⟩

/-- An operation whose guard does not hold. -/
def grdNo (σ : ASt) (r : AR) : Bool := match r.grd with
  | none => false
  | some (s, b) => match σ.t s with
    | .one (.d (.bool b')) => b' != b
    | .tup [] => true
    | _ => false

def stepA (P : Program) (pk : Option Nat) (A : Option (List Nat)) (σ : ASt) (r : AR) (K : ASt → Prop) : Prop :=
  if detOp r.op then ∃ e, effA A σ r = some e ∧ K (σ.put r.dst e)
  else (∀ B, A = some B → grdNo σ r = false → (∀ x ∈ opsOf r.op, pureAV (σ.ev x) = true) ∧ nmR r ∈ wrs B) ∧ stepWp P pk σ r K

theorem stepA_wp {A : Option (List Nat)} {r : AR} {K : ASt → Prop} (h : stepA P pk A σ r K) : stepWp P pk σ r K := by
  unfold stepA at h
  split at h
  · obtain ⟨e, h1, h3⟩ := h; exact eff_step h1 h3
  · exact h.2

def disj : Option (List Nat) → Option (List Nat) → Bool
  | some A, some B => ((wrs A).all fun k => !(vis B).contains k) && (wrs B).all fun k => !(vis A).contains k
  | _, _ => false

/-- The second may come first. -/
def canSwap (A : Option (List Nat)) (a : AR) (B : Option (List Nat)) (i : AR) : Bool :=
  detOp a.op && (match a.dst with | some d => !(rdS i).contains d && (match i.dst with | some d' => d' != d | none => true) | none => true) && (match i.dst with | some d => !(rdS a).contains d | none => true) &&
    (plainOp a.op || (quietOp a.op && quietOp i.op) || plainOp i.op || disj A B)

theorem plain_quiet {op : AOp} (h : plainOp op = true) : quietOp op = true := by cases op <;> first | rfl | (simp [plainOp] at h; done)
theorem quiet_det {op : AOp} (h : quietOp op = true) : detOp op = true := by cases op <;> first | rfl | (simp [quietOp, plainOp] at h; done)

theorem disj_spec {A B : Option (List Nat)} (h : disj A B = true) : ∃ a b, A = some a ∧ B = some b ∧ (∀ k ∈ wrs a, k ∉ vis b) ∧ ∀ k ∈ wrs b, k ∉ vis a := by
  unfold disj at h
  split at h
  · rename_i a b
    simp only [Bool.and_eq_true] at h
    refine ⟨a, b, rfl, rfl, fun k hk hb => ?_, fun k hk hb => ?_⟩
    · have := List.all_eq_true.1 h.1 k hk
      simp [hb] at this
    · have := List.all_eq_true.1 h.2 k hk
      simp [hb] at this
  · cases h

theorem put_t {σ : ASt} {d : Option Nat} {e : Eff} {k : Nat} (h : ∀ x, d = some x → k ≠ x) : (σ.put d e).t k = σ.t k := by
  cases d with
  | none => rfl
  | some d => exact upd_ne _ _ (h d rfl)

theorem op_swap {t : Nat → AV} {d : Nat} {op : AOp} (hop : detOp op = false) (he : ∀ x ∈ opsOf op, ASt.ev ⟨t, σ.g, σ.o⟩ x = σ.ev x) {K : Eff → Prop} (h : opWp P pk ⟨t, σ.g, σ.o⟩ d op K) : opWp P pk σ d op K := by
  cases op with
  | call f xs =>
    have := map_ev (fun (p : AX) v => v) (fun p => p) xs (by simpa [opsOf] using he)
    simp only [opWp] at h ⊢
    simp only [this] at h
    exact callWp_t h
  | callv f xs =>
    simp only [opsOf, List.mem_cons, forall_eq_or_imp] at he
    have := map_ev (fun (p : AX) v => v) (fun p => p) xs (by simpa using he.2)
    simp only [opWp, he.1, this] at h ⊢
    split at h
    · exact ⟨h.1, callWp_t h.2⟩
    · exact ⟨h.1, callWp_t h.2⟩
    · exact h.elim
  | cap x =>
    simp only [opsOf, List.mem_cons, List.not_mem_nil, or_false, forall_eq] at he
    simp only [opWp, he] at h ⊢
    exact h
  | isn x =>
    simp only [opsOf, List.mem_cons, List.not_mem_nil, or_false, forall_eq] at he
    simp only [opWp, he] at h ⊢
    exact h
  | nxt x =>
    simp only [opsOf, List.mem_cons, List.not_mem_nil, or_false, forall_eq] at he
    simp only [opWp, he] at h ⊢
    exact h
  | _ => simp [detOp] at hop

theorem op_mono {d : Nat} {op : AOp} {K K' : Eff → Prop} (hk : ∀ e, K e → K' e) (h : opWp P pk σ d op K) : opWp P pk σ d op K' := by
  have hdet : (∃ e, det σ d op = some e ∧ K e) → ∃ e, det σ d op = some e ∧ K' e := fun ⟨e, b, c⟩ => ⟨e, b, hk e c⟩
  cases op with
  | call f xs => exact callWp.mono h hk
  | callv f xs =>
    simp only [opWp] at h ⊢
    split at h
    · exact ⟨h.1, h.2.mono hk⟩
    · exact ⟨h.1, h.2.mono hk⟩
    · exact h.elim
  | cap x =>
    simp only [opWp] at h ⊢
    split at h
    · exact hk _ h
    · exact h.elim
  | isn x =>
    simp only [opWp] at h ⊢
    split at h
    · exact fun b => hk _ (h b)
    · exact fun b hb => hk _ (h b hb)
    · exact h.elim
  | nxt x =>
    simp only [opWp] at h ⊢
    split at h
    · obtain ⟨h1, ka, va, left, cur, h2, h3, h4⟩ := h
      exact ⟨h1, ka, va, left, cur, h2, fun hl => hk _ (h3 hl), fun i e hi => hk _ (h4 i e hi)⟩
    · exact h.elim
  | _ => exact hdet h

theorem step_mono {r : AR} {K K' : ASt → Prop} (hk : ∀ σ, K σ → K' σ) (h : stepWp P pk σ r K) : stepWp P pk σ r K' := by
  unfold stepWp at h ⊢
  split at h
  · rename_i hg; exact op_mono (fun e => hk _) h
  · rename_i s b hg
    split at h
    · split at h
      · rename_i hb; rw [if_pos hb]; exact op_mono (fun e => hk _) h
      · rename_i hb; rw [if_neg hb]; exact hk _ h
    · exact hk _ h
    · exact h.elim

/-- A call of pure data: it looks at no object, and makes its own. -/
theorem op_pure {d : Nat} {op : AOp} (hop : detOp op = false) (he : ∀ x ∈ opsOf op, σ'.ev x = σ.ev x) (hp : ∀ x ∈ opsOf op, pureAV (σ'.ev x) = true) (hg : σ'.g d = σ.g d) {K : Eff → Prop} (h : opWp P pk σ' d op K) : opWp P pk σ d op fun e => K e ∧ ∀ u ∈ e.2, u.1 = d := by
  cases op with
  | call f xs =>
    have := map_ev (fun (p : AX) v => v) (fun p => p) xs (by simpa [opsOf] using he)
    simp only [opWp] at h ⊢
    have hpv : ∀ v ∈ xs.map σ'.ev, pureAV v = true := fun v hv => by obtain ⟨x, hx, rfl⟩ := List.mem_map.1 hv; exact hp x hx
    have h1 := call_names (σ := σ) hpv (call_pure hpv hg h)
    simpa only [this] using h1
  | callv f xs =>
    simp only [opsOf, List.mem_cons, forall_eq_or_imp] at he hp
    have := map_ev (fun (p : AX) v => v) (fun p => p) xs (by simpa using he.2)
    have hpv : ∀ v ∈ xs.map σ'.ev, pureAV v = true := fun v hv => by obtain ⟨x, hx, rfl⟩ := List.mem_map.1 hv; exact hp.2 x hx
    simp only [opWp] at h ⊢
    have hp1 := hp.1
    rw [he.1] at h hp1
    split at h
    · rename_i f' caps hev
      rw [hev] at hp1
      have hpv' : ∀ v ∈ xs.map σ'.ev ++ caps.map .one, pureAV v = true := fun v hv => by
        rcases List.mem_append.1 hv with hv | hv
        · exact hpv v hv
        · obtain ⟨c, hc, rfl⟩ := List.mem_map.1 hv
          have := List.all_eq_true.1 hp1 c hc
          cases c <;> first | rfl | (simp [pureAC] at this; done)
      have h1 := call_names (σ := σ) hpv' (call_pure hpv' hg h.2)
      exact ⟨h.1, by simpa only [this] using h1⟩
    · rename_i f' caps hev
      have hpv' : ∀ v ∈ xs.map σ'.ev ++ caps.map (fun c => .one (.d c)), pureAV v = true := fun v hv => by
        rcases List.mem_append.1 hv with hv | hv
        · exact hpv v hv
        · obtain ⟨c, hc, rfl⟩ := List.mem_map.1 hv
          rfl
      have h1 := call_names (σ := σ) hpv' (call_pure hpv' hg h.2)
      exact ⟨h.1, by simpa only [this] using h1⟩
    · exact h.elim
  | cap x =>
    simp only [opsOf, List.mem_cons, List.not_mem_nil, or_false, forall_eq] at he
    simp only [opWp, he] at h ⊢
    split at h
    · rename_i hev; exact ⟨h, fun u hu => by cases hu⟩
    · exact h.elim
  | isn x =>
    simp only [opsOf, List.mem_cons, List.not_mem_nil, or_false, forall_eq] at he
    simp only [opWp, he] at h ⊢
    split at h
    · rename_i hev; exact fun b => ⟨h b, fun u hu => by cases hu⟩
    · rename_i hev; exact fun b hb => ⟨h b hb, fun u hu => by cases hu⟩
    · exact h.elim
  | nxt x =>
    simp only [opsOf, List.mem_cons, List.not_mem_nil, or_false, forall_eq] at hp
    simp only [opWp] at h
    split at h
    · rename_i hev; rw [hev] at hp; simp [pureAV, pureAC] at hp
    · exact h.elim
  | _ => simp [detOp] at hop

/-- The second of two operations may come first. -/
theorem swap {A B : Option (List Nat)} {a i : AR} (hc : canSwap A a B i = true) {K : ASt → Prop} (h : stepA P pk A σ a fun σ1 => stepA P pk B σ1 i K) : stepA P pk B σ i fun σ2 => stepA P pk A σ2 a K := by
  simp only [canSwap, Bool.and_eq_true, Bool.or_eq_true] at hc
  obtain ⟨⟨⟨hda, hs1⟩, hs2⟩, hk⟩ := hc
  unfold stepA at h
  rw [if_pos hda] at h
  obtain ⟨ea, ha, hi⟩ := h
  have hra : ∀ x, a.dst = some x → x ∉ rdS i := fun x hx => by
    rw [hx] at hs1
    simp only [Bool.and_eq_true, Bool.not_eq_true', List.contains_eq_mem, decide_eq_false_iff_not] at hs1
    exact hs1.1
  have hri : ∀ x, i.dst = some x → x ∉ rdS a := fun x hx => by
    rw [hx] at hs2
    simpa using hs2
  have hdd : a.dst = none ∨ i.dst = none ∨ a.dst ≠ i.dst := by
    cases h1 : a.dst with
    | none => exact .inl rfl
    | some x =>
      cases h2 : i.dst with
      | none => exact .inr (.inl rfl)
      | some y =>
        rw [h1, h2] at hs1
        simp only [Bool.and_eq_true, bne_iff_ne] at hs1
        exact .inr (.inr fun e => hs1.2 (Option.some.inj e).symm)
  have hti : ∀ k ∈ rdS i, (σ.put a.dst ea).t k = σ.t k := fun k hkk => put_t fun x hx e => hra x hx (e ▸ hkk)
  have hna := eff_names ha
  -- what i sees before and behind a
  have hq : (quietOp a.op = true ∨ disj A B = true) ∨ plainOp i.op = true := by
    rcases hk with ((h1 | h1) | h1) | h1
    · exact .inl (.inl (plain_quiet h1))
    · exact .inl (.inl h1.1)
    · exact .inr h1
    · exact .inl (.inr h1)
  have hobj : (quietOp a.op = true ∨ disj A B = true) → ((σ.put a.dst ea).g = σ.g ∧ (σ.put a.dst ea).o = σ.o) ∨ ∃ B', B = some B' ∧ ∀ k ∈ vis B', (σ.put a.dst ea).g k = σ.g k ∧ (σ.put a.dst ea).o k = σ.o k := fun hh => by
    rcases hh with hh | hh
    · have := hna.1 hh
      exact .inl ⟨by simp [ASt.put, this, putG], by simp [ASt.put, this, putO]⟩
    · obtain ⟨x, y, rfl, rfl, hxy, hyx⟩ := disj_spec hh
      refine .inr ⟨y, rfl, fun k hky => ⟨putG_ne _ _ fun u hu e => hxy _ (hna.2 x rfl u hu) (e ▸ hky), putO_ne _ _ fun u hu e => hxy _ (hna.2 x rfl u hu) (e ▸ hky)⟩⟩
  -- a behind i
  have hback : ∀ ei : Eff, (quietOp i.op = true → ei.2 = []) → (∀ B', B = some B' → ∀ u ∈ ei.2, u.1 ∈ wrs B') → (quietOp i.op = true ∨ plainOp a.op = true ∨ disj A B = true) → effA A (σ.put i.dst ei) a = some ea ∧ (σ.put i.dst ei).put a.dst ea = (σ.put a.dst ea).put i.dst ei := by
    intro ei h1 h2 h3
    have hta : ∀ k ∈ rdS a, (σ.put i.dst ei).t k = σ.t k := fun k hkk => put_t fun x hx e => hri x hx (e ▸ hkk)
    constructor
    · rw [← ha]
      refine eff_congr hta ?_
      rcases h3 with h3 | h3 | h3
      · have := h1 h3
        exact .inr (.inl ⟨by simp [ASt.put, this, putG], by simp [ASt.put, this, putO]⟩)
      · exact .inl h3
      · obtain ⟨x, y, rfl, rfl, hxy, hyx⟩ := disj_spec h3
        refine .inr (.inr ⟨x, rfl, fun k hkx => ⟨putG_ne _ _ fun u hu e => hyx _ (h2 y rfl u hu) (e ▸ hkx), putO_ne _ _ fun u hu e => hyx _ (h2 y rfl u hu) (e ▸ hkx)⟩⟩)
    · refine put_comm σ ?_ ?_
      · rcases hdd with h | h | h
        · exact .inr (.inl h)
        · exact .inl h
        · exact .inr (.inr (Ne.symm h))
      · intro u hu v hv
        rcases h3 with h3 | h3 | h3
        · rw [h1 h3] at hu; cases hu
        · rw [hna.1 (plain_quiet h3)] at hv; cases hv
        · obtain ⟨x, y, rfl, rfl, hxy, hyx⟩ := disj_spec h3
          exact fun e => hxy _ (hna.2 x rfl v hv) (wrs_vis (e ▸ h2 y rfl u hu))
  by_cases hdi : detOp i.op = true
  · -- both have one outcome
    rw [if_pos hdi] at hi
    obtain ⟨ei, hei, hK⟩ := hi
    have hei' : effA B σ i = some ei := by
      rw [← hei]
      refine (eff_congr hti ?_).symm
      rcases hq with hq | hq
      · rcases hobj hq with h1 | h1
        · exact .inr (.inl h1)
        · obtain ⟨B', h2, h3⟩ := h1
          exact .inr (.inr ⟨B', h2, h3⟩)
      · exact .inl hq
    have hni := eff_names hei'
    obtain ⟨h1, h2⟩ := hback ei hni.1 hni.2 (by
      rcases hk with ((h1 | h1) | h1) | h1
      · exact .inr (.inl h1)
      · exact .inl h1.2
      · exact .inl (plain_quiet h1)
      · exact .inr (.inr h1))
    unfold stepA
    rw [if_pos hdi]
    refine ⟨ei, hei', ?_⟩
    dsimp only
    rw [if_pos hda]
    exact ⟨ea, h1, by rw [h2]; exact hK⟩
  · have hdi' : detOp i.op = false := by simpa using hdi
    have hqi : quietOp i.op = false := by
      cases hh : quietOp i.op with
      | false => rfl
      | true => rw [quiet_det hh] at hdi'; cases hdi'
    have hpi : plainOp i.op = false := by
      cases hh : plainOp i.op with
      | false => rfl
      | true => rw [plain_quiet hh] at hqi; cases hqi
    unfold stepA
    rw [if_neg hdi] at hi ⊢
    obtain ⟨hann, hi⟩ := hi
    have hev : ∀ x ∈ opsOf i.op, (σ.put a.dst ea).ev x = σ.ev x := fun x hx => ev_slots fun k hkk => hti k (List.mem_append_left _ (List.mem_flatMap.2 ⟨x, hx, hkk⟩))
    have hgn : grdNo (σ.put a.dst ea) i = grdNo σ i := by
      unfold grdNo
      cases hg : i.grd with
      | none => rfl
      | some sb => dsimp only; rw [hti sb.1 (by simp [rdS, hg])]
    refine ⟨fun B' hB hno => ⟨fun x hx => by rw [← hev x hx]; exact (hann B' hB (hgn.trans hno)).1 x hx, (hann B' hB (hgn.trans hno)).2⟩, ?_⟩
    -- the step of the call
    have hop : ∀ {d : Nat} {K0 : ASt → Prop}, grdNo (σ.put a.dst ea) i = false → d = nmR i → opWp P pk (σ.put a.dst ea) d i.op (fun e => K0 ((σ.put a.dst ea).put i.dst e)) →
        opWp P pk σ d i.op fun e => ∃ e', effA A (σ.put i.dst e) a = some e' ∧ K0 ((σ.put i.dst e).put a.dst e') := by
      intro d K0 hgo hd hw
      rcases hk with ((h1 | h1) | h1) | h1
      · have hnil := hna.1 (plain_quiet h1)
        have hst : σ.put a.dst ea = ⟨putT σ.t a.dst ea.1, σ.g, σ.o⟩ := by simp [ASt.put, hnil, putG, putO]
        have hw' : opWp P pk ⟨putT σ.t a.dst ea.1, σ.g, σ.o⟩ d i.op (fun e => K0 ((σ.put a.dst ea).put i.dst e)) := by rw [← hst]; exact hw
        refine op_mono (fun e he => ?_) (op_swap hdi' (fun x hx => by rw [← hst]; exact hev x hx) hw')
        have hta : ∀ k ∈ rdS a, (σ.put i.dst e).t k = σ.t k := fun k hkk => put_t fun x hx e' => hri x hx (e' ▸ hkk)
        refine ⟨ea, by rw [← ha]; exact eff_congr hta (.inl h1), ?_⟩
        rw [put_comm σ (e := e) (e' := ea) ?_ ?_]
        · exact he
        · rcases hdd with h | h | h
          · exact .inr (.inl h)
          · exact .inl h
          · exact .inr (.inr (Ne.symm h))
        · intro u hu v hv; rw [hnil] at hv; cases hv
      · rw [hqi] at h1; exact absurd h1.2 (by simp)
      · rw [hpi] at h1; cases h1
      · obtain ⟨x, y, rfl, rfl, hxy, hyx⟩ := disj_spec h1
        obtain ⟨hp, hdy⟩ := hann y rfl hgo
        have hg : (σ.put a.dst ea).g d = σ.g d := putG_ne _ _ fun u hu e => hxy _ (hna.2 x rfl u hu) (by rw [e, hd]; exact wrs_vis hdy)
        refine op_mono (fun e he => ?_) (op_pure hdi' hev hp hg hw)
        obtain ⟨g1, g2⟩ := hback e (fun hh => by rw [hqi] at hh; cases hh) (fun B' hB u hu => by cases hB; rw [he.2 u hu, hd]; exact hdy) (.inr (.inr h1))
        exact ⟨ea, g1, by rw [g2]; exact he.1⟩
    unfold stepWp at hi ⊢
    have hsl : ∀ s b, i.grd = some (s, b) → (σ.put a.dst ea).t s = σ.t s := fun s b hg => hti s (by simp [rdS, hg])
    have hskip : ∀ {K0 : ASt → Prop}, K0 ((σ.put a.dst ea).put i.dst (.tup [], [])) → ∃ e', effA A (σ.put i.dst (.tup [], [])) a = some e' ∧ K0 ((σ.put i.dst (.tup [], [])).put a.dst e') := by
      intro K0 hw
      have hta : ∀ k ∈ rdS a, (σ.put i.dst (.tup [], [])).t k = σ.t k := fun k hkk => put_t fun x hx e' => hri x hx (e' ▸ hkk)
      refine ⟨ea, by rw [← ha]; exact eff_congr hta (.inr (.inl ⟨rfl, rfl⟩)), ?_⟩
      rw [put_comm σ (e := (.tup [], [])) (e' := ea) ?_ ?_]
      · exact hw
      · rcases hdd with h | h | h
        · exact .inr (.inl h)
        · exact .inl h
        · exact .inr (.inr (Ne.symm h))
      · intro u hu; cases hu
    cases hg : i.grd with
    | none =>
      rw [hg] at hi
      dsimp only at hi ⊢
      have := hop (d := i.dst.getD 999999) (by simp [grdNo, hg]) rfl hi
      simpa only [if_pos hda] using this
    | some sb =>
      obtain ⟨s, b⟩ := sb
      rw [hg] at hi
      dsimp only at hi ⊢
      rw [hsl s b hg] at hi
      split at hi
      · rename_i b' hsb
        split at hi
        · rename_i hb
          rw [if_pos hb]
          have := hop (d := i.dst.getD 999999) (by unfold grdNo; rw [hg]; dsimp only; rw [hsl s b hg, hsb, hb]; simp) rfl hi
          simpa only [if_pos hda] using this
        · rename_i hb
          rw [if_neg hb]
          simpa only [if_pos hda] using hskip hi
      · simpa only [if_pos hda] using hskip hi
      · exact hi.elim

def stepsA (P : Program) (pk : Option Nat) : List (AR × Option (List Nat)) → ASt → (ASt → Prop) → Prop
  | [], σ, K => K σ
  | r :: rs, σ, K => stepA P pk r.2 σ r.1 fun σ' => stepsA P pk rs σ' K

theorem stepA_mono {A : Option (List Nat)} {r : AR} {K K' : ASt → Prop} (hk : ∀ σ, K σ → K' σ) (h : stepA P pk A σ r K) : stepA P pk A σ r K' := by
  unfold stepA at h ⊢
  split at h
  · rename_i hd; rw [if_pos hd]; obtain ⟨e, h1, h3⟩ := h; exact ⟨e, h1, hk _ h3⟩
  · rename_i hd; rw [if_neg hd]; exact ⟨h.1, step_mono hk h.2⟩

/-- What is ready may come first. -/
theorem to_front {r : AR × Option (List Nat)} {rest : List (AR × Option (List Nat))} {K : ASt → Prop} : ∀ (pre : List (AR × Option (List Nat))) {σ : ASt}, (∀ a ∈ pre, canSwap a.2 a.1 r.2 r.1 = true) → stepsA P pk (pre ++ r :: rest) σ K → stepsA P pk (r :: (pre ++ rest)) σ K
  | [], σ, _, h => h
  | a :: pre, σ, hc, h => by
    simp only [List.cons_append, stepsA] at h ⊢
    have h1 : stepA P pk a.2 σ a.1 fun σ' => stepA P pk r.2 σ' r.1 fun σ'' => stepsA P pk (pre ++ rest) σ'' K := stepA_mono (fun σ' h' => to_front pre (fun x hx => hc x (by simp [hx])) h') h
    exact swap (hc a (by simp)) h1

def ndup : List Nat → Bool
  | [] => true
  | x :: xs => !xs.contains x && ndup xs

theorem ndup_spec : ∀ {xs : List Nat}, ndup xs = true → xs.Nodup
  | [], _ => List.nodup_nil
  | x :: xs, h => by
    simp only [ndup, Bool.and_eq_true, Bool.not_eq_true', List.contains_eq_mem, decide_eq_false_iff_not] at h
    exact List.nodup_cons.2 ⟨h.1, ndup_spec h.2⟩

/-- The check: clo: what comes before each operation; L: an order, and what each sees. -/
def okOrd (ops : List AR) (clo : List (List Nat)) (L : List (Nat × Option (List Nat))) : Bool :=
  (List.range ops.length).all (fun i => (L.map (·.1)).contains i && ((ops.getD i default).aft.all fun a => decide (a < i)) &&
    ((clo.getD i []).all fun a => (ops.getD i default).aft.contains a || (ops.getD i default).aft.any fun b => (clo.getD b []).contains a)) &&
  L.all (fun p => decide (p.1 < ops.length)) && decide (L.length = ops.length) && ndup (L.map (·.1)) && go ops clo L
where
  go (ops : List AR) (clo : List (List Nat)) : List (Nat × Option (List Nat)) → Bool
    | [] => true
    | p :: L => L.all (fun q => (clo.getD q.1 []).contains p.1 || canSwap p.2 (ops.getD p.1 default) q.2 (ops.getD q.1 default)) && go ops clo L

theorem go_split {ops : List AR} {clo : List (List Nat)} : ∀ (A : List (Nat × Option (List Nat))) (q : Nat × Option (List Nat)) (B : List (Nat × Option (List Nat))), okOrd.go ops clo (A ++ q :: B) = true →
    (∀ p ∈ A, (clo.getD q.1 []).contains p.1 = true ∨ canSwap p.2 (ops.getD p.1 default) q.2 (ops.getD q.1 default) = true) ∧ okOrd.go ops clo (A ++ B) = true
  | [], q, B, h => by
    simp only [List.nil_append, okOrd.go, Bool.and_eq_true] at h ⊢
    exact ⟨by simp, h.2⟩
  | p :: A, q, B, h => by
    simp only [List.cons_append, okOrd.go, Bool.and_eq_true, List.all_eq_true, Bool.or_eq_true] at h ⊢
    obtain ⟨h1, h2⟩ := go_split A q B h.2
    refine ⟨fun x hx => ?_, fun x hx => h.1 x ?_, h2⟩
    · rcases List.mem_cons.1 hx with rfl | hx
      · exact h.1 q (by simp)
      · exact h1 x hx
    · rcases List.mem_append.1 hx with hx | hx
      · exact List.mem_append_left _ hx
      · exact List.mem_append_right _ (List.mem_cons_of_mem _ hx)

section
variable {cx : Ctx} {ops : Array Oper} {Q : Exit → Act → World → Prop}

theorem comp_aft {n : Nat} (o : Oper) : (compR P n ops o).aft = compAft o := by
  unfold compR
  dsimp only
  cases o.guard with
  | none => rfl
  | some gb =>
    dsimp only
    cases (ops[gb.1]?).bind (·.dst) with
    | none => rfl
    | some s => dsimp only; split <;> rfl

theorem ready_spec {n : Nat} {listed : Array Bool} {i : Nat} (hi : i ∈ Region.ready .any ops listed) : i < ops.size ∧ listed.getD i true = false ∧ ∀ a ∈ (compR P n ops (ops.getD i default)).aft, listed.getD a false = true := by
  simp only [Region.ready, List.mem_filter, List.mem_range, Bool.and_eq_true, Bool.not_eq_true'] at hi
  obtain ⟨h1, h2, h3⟩ := hi
  refine ⟨h1, h2, fun a ha => ?_⟩
  rw [comp_aft] at ha
  simp only [compAft, List.mem_map, List.mem_filter] at ha
  obtain ⟨e, ⟨he1, he2⟩, rfl⟩ := ha
  have hget : ops[i]? = some (ops.getD i default) := by simp [h1]
  rw [hget] at h3
  simp only [Option.map_some, Option.getD_some, Array.all_eq_true'] at h3
  have := h3 e (Array.mem_toList_iff.1 he1)
  simp only [he2, Bool.not_true, Bool.false_or] at this
  exact this

theorem any_sound {acs : List AR} (hacs : acs = ops.toList.map (compR P cx.n ops)) {clo : List (List Nat)}
    (hlow : ∀ i, i < ops.size → ∀ a ∈ (acs.getD i default).aft, a < i) (hclo : ∀ i, i < ops.size → ∀ a ∈ clo.getD i [], a ∈ (acs.getD i default).aft ∨ ∃ b ∈ (acs.getD i default).aft, a ∈ clo.getD b [])
    {K : ASt → Prop} (hK : ∀ σ' μ' a' w', K σ' → Rel cx μ' σ' a' w' → Q .normal a' w') : ∀ (m : Nat) (L : List (Nat × Option (List Nat))) (listed : Array Bool) {μ : Nat → Option Nat} {σ : ASt} {a : Act} {w : World}, L.length = m → listed.size = ops.size →
      (∀ i, i < ops.size → (listed.getD i true = false ↔ i ∈ L.map (·.1))) → (L.map (·.1)).Nodup → (∀ p ∈ L, p.1 < ops.size) → okOrd.go acs clo L = true → (∀ j, j < ops.size → listed.getD j false = true → ∀ a ∈ (acs.getD j default).aft, listed.getD a false = true) →
      Rel cx μ σ a w → stepsA P cx.pk (L.map fun p => (acs.getD p.1 default, p.2)) σ K → wpAny P .any ops Q m listed a w := by
  have hac : ∀ i, i < ops.size → acs.getD i default = compR P cx.n ops (ops.getD i default) := fun i hi => by simp [hacs, hi]
  intro m
  induction m with
  | zero =>
    intro L listed μ σ a w hm hsz hlist _ _ _ _ hR hs
    have hL : L = [] := List.eq_nil_of_length_eq_zero hm
    subst hL
    refine ⟨?_, hK _ _ _ _ hs hR⟩
    cases hr : Region.ready .any ops listed with
    | nil => rfl
    | cons i rs =>
      obtain ⟨h1, h2, _⟩ := ready_spec (P := P) (n := cx.n) (i := i) (by rw [hr]; simp)
      have := (hlist i h1).1 h2
      simp at this
  | succ m ih =>
    intro L listed μ σ a w hm hsz hlist hnd hlt hgo hdc hR hs
    refine ⟨fun hr => ?_, fun i hi => ?_⟩
    · -- something is ready: the least that is left
      exfalso
      have hex : ∃ k, k ∈ L.map (·.1) := by
        cases L with
        | nil => simp at hm
        | cons p L => exact ⟨p.1, by simp⟩
      obtain ⟨k, hk, hmin⟩ := least hex
      have hkn : k < ops.size := by obtain ⟨p, hp, rfl⟩ := List.mem_map.1 hk; exact hlt p hp
      have : k ∈ Region.ready .any ops listed := by
        simp only [Region.ready, List.mem_filter, List.mem_range, Bool.and_eq_true, Bool.not_eq_true']
        refine ⟨hkn, (hlist k hkn).2 hk, ?_⟩
        have hget : ops[k]? = some (ops.getD k default) := by simp [hkn]
        rw [hget]
        simp only [Option.map_some, Option.getD_some, Array.all_eq_true']
        intro e he
        by_cases hb : Region.binds .any e = true
        · have hea : e.on ∈ (acs.getD k default).aft := by
            rw [hac k hkn, comp_aft]
            exact List.mem_map.2 ⟨e, List.mem_filter.2 ⟨Array.mem_toList_iff.2 he, hb⟩, rfl⟩
          have hlk := hlow k hkn _ hea
          have hen : e.on < ops.size := by omega
          have hnl : e.on ∉ L.map (·.1) := fun hin => by have := hmin _ hin; omega
          have : ¬ listed.getD e.on true = false := fun hh => hnl ((hlist _ hen).1 hh)
          have hes : e.on < listed.size := by omega
          simp only [Array.getD_eq_getD_getElem?, Array.getElem?_eq_getElem hes, Option.getD_some] at this ⊢
          simp [this]
        · simp [hb]
      rw [hr] at this
      cases this
    · obtain ⟨h1, h2, h3⟩ := ready_spec (P := P) (n := cx.n) hi
      rw [← hac i h1] at h3
      have hiL := (hlist i h1).1 h2
      obtain ⟨p, hp, hpi⟩ := List.mem_map.1 hiL
      obtain ⟨A, R, rfl⟩ := List.append_of_mem hp
      obtain ⟨hsw, hgo'⟩ := go_split A p R hgo
      -- what comes before i has been listed
      have hcl : ∀ j, j < ops.size → (∀ a ∈ (acs.getD j default).aft, listed.getD a false = true) → ∀ a ∈ clo.getD j [], listed.getD a false = true := by
        intro j
        induction j using Nat.strongRecOn with
        | _ j ihj =>
          intro hj haf a ha
          rcases hclo j hj a ha with h | ⟨b, hb, hab⟩
          · exact haf a h
          · have hbj := hlow j hj b hb
            exact ihj b hbj (by omega) (hdc b (by omega) (haf b hb)) a hab
      have hfront : ∀ q ∈ A, canSwap q.2 (acs.getD q.1 default) p.2 (acs.getD p.1 default) = true := fun q hq => by
        rcases hsw q hq with h | h
        · exfalso
          have hq1 : q.1 ∈ clo.getD i [] := by rw [← hpi]; simpa using h
          have := hcl i h1 h3 q.1 hq1
          have hqn := hlt q (by simp [hq])
          have hql := (hlist q.1 hqn).2 (List.mem_map.2 ⟨q, by simp [hq], rfl⟩)
          have hqs : q.1 < listed.size := by omega
          simp only [Array.getD_eq_getD_getElem?, Array.getElem?_eq_getElem hqs, Option.getD_some] at this hql
          rw [this] at hql; cases hql
        · exact h
      have hs1 : stepsA P cx.pk ((acs.getD p.1 default, p.2) :: (A.map (fun p => (acs.getD p.1 default, p.2)) ++ R.map (fun p => (acs.getD p.1 default, p.2)))) σ K := by
        refine to_front _ (fun x hx => ?_) (by simpa using hs)
        obtain ⟨q, hq, rfl⟩ := List.mem_map.1 hx
        exact hfront q hq
      simp only [stepsA] at hs1
      have hs2 := stepA_wp hs1
      rw [hpi, hac i h1] at hs2
      have hstep := step_sound (Q := Q) (Kw := wpAny P .any ops Q m (listed.setIfInBounds i true)) hR hs2 fun σ' μ' a' w' hk hr => by
        refine ih (A ++ R) _ (by simp at hm ⊢; omega) (by simpa using hsz) (fun j hj => ?_) ?_ (fun q hq => hlt q ?_) hgo' (fun j hj hjl b hb => ?_) hr (by simpa using hk)
        · have hnd' : i ∉ (A ++ R).map (·.1) := by
            intro hin
            rw [List.map_append, List.map_cons, hpi] at hnd
            have := (List.nodup_append.1 hnd)
            rw [List.map_append] at hin
            rcases List.mem_append.1 hin with h | h
            · exact this.2.2 i h i (by simp) rfl
            · exact (List.nodup_cons.1 this.2.1).1 h
          by_cases hji : j = i
          · subst hji
            have hjs : j < listed.size := by omega
            simp only [Array.getD_eq_getD_getElem?, Array.getElem?_setIfInBounds_self_of_lt hjs, Option.getD_some]
            constructor
            · intro h; cases h
            · intro h; exact absurd h hnd'
          · have hsame : (listed.setIfInBounds i true).getD j true = listed.getD j true := by
              simp only [Array.getD_eq_getD_getElem?, Array.getElem?_setIfInBounds_ne (Ne.symm hji)]
            rw [hsame, hlist j hj]
            simp only [List.map_append, List.map_cons, List.mem_append, List.mem_cons, hpi, hji, false_or]
        · rw [List.map_append, List.map_cons] at hnd
          rw [List.map_append]
          have := List.nodup_append.1 hnd
          exact List.nodup_append.2 ⟨this.1, (List.nodup_cons.1 this.2.1).2, fun x hx y hy => this.2.2 x hx y (List.mem_cons_of_mem _ hy)⟩
        · rcases List.mem_append.1 hq with h | h
          · exact List.mem_append_left _ h
          · exact List.mem_append_right _ (List.mem_cons_of_mem _ h)
        · have hbj := hlow j hj b hb
          have up : ∀ x, listed.getD x false = true → (listed.setIfInBounds i true).getD x false = true := fun x hx => by
            by_cases hxi : x = i
            · subst hxi
              have hxs : x < listed.size := by omega
              simp only [Array.getD_eq_getD_getElem?, Array.getElem?_setIfInBounds_self_of_lt hxs, Option.getD_some]
            · simp only [Array.getD_eq_getD_getElem?, Array.getElem?_setIfInBounds_ne (Ne.symm hxi)] at hx ⊢
              exact hx
          by_cases hji : j = i
          · subst hji; exact up b (h3 b hb)
          · refine up b (hdc j hj ?_ b hb)
            simpa only [Array.getD_eq_getD_getElem?, Array.getElem?_setIfInBounds_ne (Ne.symm hji)] using hjl
      have hget : ops[i]? = some (ops.getD i default) := by simp [h1]
      unfold wpOp
      rw [hget]
      dsimp only
      by_cases hw : Region.wanted (ops.getD i default) (yielded ops a.tmps) = true
      · rw [if_pos hw] at hstep ⊢; exact .inl hstep
      · rw [if_neg hw] at hstep ⊢; exact hstep
end

/-- A region that draws the order of its operations. -/
theorem AW.regd {n : Nat} {Q : AE → ASt → Prop} (hm : P.follows .mixedOrders = true) {ops : List AR} (clo : List (List Nat)) (L : List (Nat × Option (List Nat))) (hok : okOrd ops clo L = true)
    (h : stepsA P pk (L.map fun p => (ops.getD p.1 default, p.2)) σ (Q .fall)) : AW P n pk (.reg ops true) σ Q := by
  intro c hc cx μ a w h1 h2 h3 Qw hQ
  cases c <;> simp only [comp, reduceCtorEq, ACode.reg.injEq] at hc
  case cond => split at hc <;> cases hc
  rename_i id os draw
  obtain ⟨hops, rfl⟩ := hc
  subst h1; obtain ⟨rfl, _⟩ := h2
  have hlen : ops.length = os.size := by rw [← hops]; simp
  simp only [okOrd, Bool.and_eq_true, List.all_eq_true, List.mem_range, decide_eq_true_eq, Bool.or_eq_true, List.any_eq_true, List.contains_eq_mem] at hok
  obtain ⟨⟨⟨⟨ho1, ho2⟩, ho3⟩, ho4⟩, ho5⟩ := hok
  have hR : Rel cx μ σ a { w with drawn := w.drawn + 1 } := h3.world ⟨rfl, rfl, rfl, Nat.le_refl _, fun _ _ _ => rfl⟩
  refine wp_region_any hm ?_
  rw [← hlen, ← ho3]
  refine any_sound (acs := ops) hops.symm (fun i hi a ha => (ho1 i (by omega)).1.2 a ha) (fun i hi a ha => (ho1 i (by omega)).2 a ha) (K := Q .fall) (fun σ' μ' a' w' h4 h5 => hQ _ _ _ _ _ h4 h5) L.length L _ rfl (by simp; omega) (fun i hi => ?_) (ndup_spec ho4) (fun p hp => by have := ho2 p hp; omega) ho5 (fun j hj hjl => ?_) hR h
  · constructor
    · intro _; exact (ho1 i (by omega)).1.1
    · intro _
      have : i < L.length := by omega
      simp [this]
  · have : j < L.length := by omega
    simp [this] at hjl

end
end Go.Proofs.Ytnpdeecoejabgaa
