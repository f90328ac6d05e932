/- THE ABSTRACT MACHINE, 20: a function's contract out of its walk. -/
import Derived.Test.YtnpdeecoejabgaaKT
set_option linter.unusedSimpArgs false
set_option linter.unusedVariables false
namespace Go.Proofs.Ytnpdeecoejabgaa
open Go Go.RowKit

/-- The name of a function's own parameter. -/
abbrev ownP : Nat := 900000

def argOk : V RC → Bool
  | .one (.d _) => true
  | .one (.own _ _ _) => true
  | .agg cs => cs.all fun c => !isOwn c
  | _ => false

def initV : V RC → AV
  | .one (.d c) => .one (.d c)
  | .one (.own _ _ xs) => .one (.view ownP 0 0 xs.length)
  | .agg cs => .agg (cs.map (cellA ⟨fun _ => .any, fun _ => 0, fun _ => .no⟩ 0))
  | _ => .any

/-- The row that is the function's own. -/
def ownArg : List (V RC) → Option (Nat × Nat × List (List C))
  | [] => none
  | .one (.own E sz xs) :: _ => some (E, sz, xs)
  | _ :: as => ownArg as

/-- How a function begins. -/
def initS (args : List (V RC)) : ASt :=
  { t := fun k => match args[k]? with | some v => initV v | none => .tup []
    g := fun _ => 0
    o := fun k => if k = ownP then match ownArg args with | some (E, sz, xs) => .row true E sz (dmm xs) | none => .no else .no }

/-- A result. -/
inductive AResult where
  | s (t : Nat)
  | c (a : Nat) (agg : Bool) (n : Nat)

def compRes (P : Program) : ResultVar → Option AResult
  | .tmp t => some (.s t)
  | .cell a t => match P.info? t, P.underlying t with
    | some i, some d => if isAggB d || i.size == 1 then some (.c a (isAggB d) i.size) else none
    | _, _ => none

def resV (σ : ASt) : AResult → Option AV
  | .s t => some (σ.t t)
  | .c a agg n => match σ.t a with
    | .one (.ref o g i off) => if g = σ.g o then match σ.o o with
        | .row _ _ _ xs => match xs[i]? with
          | some cs => ldVal agg n (cs.drop off)
          | none => none
        | _ => none
      else none
    | _ => none

def packV {α : Type} : List (V α) → V α
  | [v] => v
  | vs => .tup vs

/-- What the own parameter holds at the end. -/
def backRows (σ : ASt) (args : List (V RC)) : Option (List (List (List C))) :=
  match ownArg args with
  | none => some []
  | some (E, sz, xs) => if σ.g ownP = 0 then match σ.o ownP with
      | .row true E' sz' ys => if E' = E ∧ sz' = sz ∧ ys.length = xs.length then (pureRow ys).map fun zs => [zs] else none
      | _ => none
    else none

/-- How a function must end. -/
def retPost (rs : List AResult) (args : List (V RC)) (K : V RC → List (List (List C)) → Prop) (e : AE) (σ : ASt) : Prop :=
  (e = .fall ∨ e = .ret) ∧ ∃ avs fl rvs rows, allSome (rs.map (resV σ)) = some avs ∧ passArgs σ fl avs = some rvs ∧ (rvs.map nOwn).sum ≤ 1 ∧ (∀ k, ownOf fl avs = some k → k ∉ reachArgs σ fl avs ∧ k ≠ ownP) ∧
    (∀ k ∈ reachArgs σ fl avs, isRowMap (σ.o k) = true ∧ k ≠ ownP) ∧ backRows σ args = some rows ∧ K (packV rvs) rows

section
variable {P : Program} {cx : Ctx} {μ : Nat → Option Nat} {σ : ASt} {a : Act} {w : World}

theorem nOwn_pack {rvs : List (V RC)} (h : ∀ v ∈ rvs, ∀ vs, v ≠ .tup vs) : nOwn (packV rvs) = (rvs.map nOwn).sum := by
  unfold packV
  split
  · simp
  · simp only [nOwn]
    congr 1
    apply List.map_congr_left
    intro v hv
    cases v with
    | tup vs => exact absurd rfl (h _ hv vs)
    | _ => rfl

theorem pass_not_tup : ∀ (fl : List Bool) (avs : List AV) (rvs : List (V RC)), passArgs σ fl avs = some rvs → ∀ v ∈ rvs, ∀ vs, v ≠ .tup vs := by
  intro fl avs
  induction avs generalizing fl with
  | nil => intro rvs h; simp only [passArgs, Option.some.injEq] at h; subst h; simp
  | cons x avs ih =>
    intro rvs h
    simp only [passArgs] at h
    split at h
    · rename_i y ys hy hys
      simp only [Option.some.injEq] at h
      subst h
      intro v hv vs
      rcases List.mem_cons.1 hv with rfl | hv
      · cases hf : fl.headD false with
        | true => rw [hf] at hy; obtain ⟨_, _, _, _, _, _, rfl⟩ := passOne_own hy; simp
        | false => rw [hf] at hy; rcases passOne_plain hy with ⟨_, _, _, _, rfl⟩ | ⟨_, _, _, _, rfl⟩ <;> simp
      · exact ih fl.tail ys hys v hv vs
    · cases h

/-- A result's value. -/
theorem res_run (h : Rel cx μ σ a w) {r : ResultVar} {ar : AResult} (hc : compRes P r = some ar) {v : AV} (hv : resV σ ar = some v) :
    ∃ u, ((match r with | .tmp t => (pure (a.tmps.getD t undef) : Sem Value) | .cell s t => do loadVar t (← asAddr (a.tmps.getD s undef)) : Sem Value)).run P w = .ok u w ∧ RV cx μ σ w v u := by
  cases r with
  | tmp t =>
    simp only [compRes, Option.some.injEq] at hc
    subst hc
    simp only [resV, Option.some.injEq] at hv
    subst hv
    exact ⟨_, by simp, h.tm t⟩
  | cell s t =>
    simp only [compRes] at hc
    split at hc
    · rename_i i u hi hu
      split at hc
      · rename_i hs
        simp only [Option.some.injEq] at hc
        subst hc
        simp only [resV] at hv
        split at hv
        · rename_i k q m off hst
          split at hv
          · rename_i hq
            split at hv
            · rename_i l E sz xs hrow
              split at hv
              · rename_i cs hcs
                have h1 := h.tm s
                rw [hst] at h1
                generalize hz : a.tmps.getD s undef = z at h1
                cases rv_one h1 with
                | ref hg hp hat =>
                  have h2 := hat hq
                  unfold RefAt at h2
                  rw [hrow] at h2
                  obtain ⟨b, hb, rfl⟩ := h2
                  have ho2 := h.obj k
                  unfold RelO at ho2
                  rw [hrow] at ho2
                  rcases ho2 with ⟨hn, _⟩ | ⟨b', cur, cap, h3, h4, h5, h6, h7, h8, h9, h10, h11⟩
                  · rw [hn] at hb; cases hb
                  · have : b' = b := by rw [h3] at hb; exact Option.some.inj hb
                    subst this
                    obtain ⟨y, h12, h13⟩ := load_run (P := P) (w := w) hi hu (by simpa using hs) (R := RCl cx μ σ w) (ad := ⟨b', m * sz + off, none⟩) (cs := cs.drop off) (f := fun j => cur.getD (m * sz + (off + j)) undef) (fun j c hj => by
                      rw [List.getElem?_drop] at hj
                      obtain ⟨y, hy1, hy2⟩ := h10 m cs hcs _ _ hj
                      have hy : cur.getD (m * sz + (off + j)) undef = y := by simp [hy1]
                      rw [add_mk, cell_of_row w b' _ cur E (0, 0) h4, Nat.add_assoc, hy1, hy]
                      exact ⟨rfl, hy2, hy2.one⟩) hv
                    refine ⟨y, ?_, h13⟩
                    dsimp only
                    rw [hz]
                    simpa [Instr.loadAt, Instr.sureAddr, asAddr] using h12
              · cases hv
            · cases hv
          · cases hv
        · cases hv
      · cases hc
    · cases hc

theorem mapM_run {α β : Type} {f : α → Sem β} {g : α → β → Prop} : ∀ (xs : List α), (∀ x ∈ xs, ∃ y, (f x).run P w = .ok y w ∧ g x y) → ∃ ys, (xs.mapM f).run P w = .ok ys w ∧ ys.length = xs.length ∧ ∀ (j : Nat) (x : α) (y : β), xs[j]? = some x → ys[j]? = some y → g x y
  | [], _ => ⟨[], by simp, rfl, by simp⟩
  | x :: xs, h => by
    obtain ⟨y, h1, h2⟩ := h x (by simp)
    obtain ⟨ys, h3, h4, h5⟩ := mapM_run xs fun z hz => h z (by simp [hz])
    refine ⟨y :: ys, by simp [List.mapM_cons, h1, h3], by simp [h4], fun j a b ha hb => ?_⟩
    cases j with
    | zero => simp at ha hb; subst ha; subst hb; exact h2
    | succ j => exact h5 j a b (by simpa using ha) (by simpa using hb)

theorem own_find : ∀ (args : List (V RC)), args.all argOk = true → (args.map nOwn).sum ≤ 1 → (ownArg args = none ∧ (args.map nOwn).sum = 0) ∨ ∃ (j : Nat) (E sz : Nat) (xs : List (List C)), ownArg args = some (E, sz, xs) ∧ args[j]? = some (.one (.own E sz xs)) ∧ ∀ (i : Nat) (v : V RC), args[i]? = some v → i ≠ j → nOwn v = 0
  | [], _, _ => .inl ⟨rfl, rfl⟩
  | v :: as, hok, hs => by
    simp only [List.all_cons, Bool.and_eq_true] at hok
    simp only [List.map_cons, List.sum_cons] at hs
    have zero : ∀ (l : List (V RC)), (l.map nOwn).sum = 0 → ∀ x ∈ l, nOwn x = 0 := fun l => by
      induction l with
      | nil => intro _ x hx; cases hx
      | cons y l ih =>
        intro h x hx
        simp only [List.map_cons, List.sum_cons] at h
        rcases List.mem_cons.1 hx with rfl | hx
        · omega
        · exact ih (by omega) x hx
    have skip : nOwn v = 0 → ownArg (v :: as) = ownArg as → (ownArg (v :: as) = none ∧ ((v :: as).map nOwn).sum = 0) ∨ ∃ (j : Nat) (E sz : Nat) (xs : List (List C)), ownArg (v :: as) = some (E, sz, xs) ∧ (v :: as)[j]? = some (.one (.own E sz xs)) ∧ ∀ (i : Nat) (x : V RC), (v :: as)[i]? = some x → i ≠ j → nOwn x = 0 := by
      intro h0 he
      rw [he]
      rcases own_find as hok.2 (by omega) with ⟨h1, h2⟩ | ⟨j, E, sz, xs, h1, h2, h3⟩
      · exact .inl ⟨h1, by simp [h0, h2]⟩
      · refine .inr ⟨j + 1, E, sz, xs, h1, by simpa using h2, fun i x hi hne => ?_⟩
        cases i with
        | zero => simp at hi; subst hi; exact h0
        | succ i => exact h3 i x (by simpa using hi) (by omega)
    cases v with
    | any => simp [argOk] at hok
    | tup vs => simp [argOk] at hok
    | agg cs =>
      refine skip ?_ rfl
      have h1 := hok.1
      simp only [argOk, List.all_eq_true, Bool.not_eq_true'] at h1
      simp only [nOwn, List.length_eq_zero_iff, List.filter_eq_nil_iff]
      intro c hc
      simp [h1 c hc]
    | one c =>
      cases c with
      | d c => exact skip rfl rfl
      | ownp E cs => simp [argOk] at hok
      | own E sz xs =>
        refine .inr ⟨0, E, sz, xs, rfl, rfl, fun i x hi hne => ?_⟩
        have : nOwn (.one (.own E sz xs)) = 1 := rfl
        cases i with
        | zero => omega
        | succ i =>
          simp only [List.getElem?_cons_succ] at hi
          exact zero as (by omega) x (List.mem_of_getElem? hi)

theorem rows_skip {w' : World} {Y : Nat → Prop} : ∀ (args : List (V RC)) (vs : List Value), args.length = vs.length → (∀ v ∈ args, nOwn v = 0) → RowsBack w' Y args vs []
  | [], [], _, _ => .nil
  | _ :: as, _ :: vs, hl, h => .skip (h _ (by simp)) (rows_skip as vs (by simpa using hl) fun v hv => h v (by simp [hv]))
  | [], _ :: _, hl, _ => by simp at hl
  | _ :: _, [], hl, _ => by simp at hl

theorem rows_one {w' : World} {Y : Nat → Prop} {E sz : Nat} {xs xs' : List (List C)} : ∀ (args : List (V RC)) (vs : List Value) (j : Nat) (v : Value), args.length = vs.length → args[j]? = some (.one (.own E sz xs)) → vs[j]? = some v → (∀ (i : Nat) (x : V RC), args[i]? = some x → i ≠ j → nOwn x = 0) →
    ((∃ ad, v = .slice ad 0 0) ∧ xs = [] ∧ xs' = [] ∨ xs'.length = xs.length ∧ ∃ b n cap, v = .slice (some ⟨b, 0, none⟩) n cap ∧ OwnRow w' Y b E sz cap xs') → RowsBack w' Y args vs [xs']
  | [], _, j, _, _, hj, _, _, _ => by simp at hj
  | _ :: _, [], _, _, hl, _, _, _, _ => by simp at hl
  | a :: as, u :: us, 0, v, hl, hj, hv, h0, h => by
    simp at hj hv
    subst hj; subst hv
    have ht : RowsBack w' Y as us [] := rows_skip as us (by simpa using hl) fun x hx => by
      obtain ⟨i, hi⟩ := List.getElem?_of_mem hx
      exact h0 (i + 1) x (by simpa using hi) (by omega)
    rcases h with ⟨⟨ad, rfl⟩, rfl, rfl⟩ | ⟨hlen, b, n, cap, rfl, hown⟩
    · exact .own0 ht
    · exact .own hlen hown ht
  | a :: as, u :: us, j + 1, v, hl, hj, hv, h0, h =>
    .skip (h0 0 a rfl (by omega)) (rows_one as us j v (by simpa using hl) (by simpa using hj) (by simpa using hv) (fun i x hi hne => h0 (i + 1) x (by simpa using hi) (by omega)) h)

theorem results_run {fn : Func} {rs : List AResult} (hr : allSome (fn.results.toList.map (compRes P)) = some rs) (h : Rel cx μ σ a w) {avs : List AV} (hv : allSome (rs.map (resV σ)) = some avs) :
    ∃ us : List Value, (results fn a.tmps).run P w = .ok (if h : us.toArray.size = 1 then us.toArray[0] else .tuple us.toArray) w ∧ avs.length = us.length ∧ ∀ (j : Nat) (x : AV) (u : Value), avs[j]? = some x → us[j]? = some u → RV cx μ σ w x u := by
  have h1 := allSome_get hr
  have h2 := allSome_get hv
  let vals : List (ResultVar × AV) := fn.results.toList.zip avs
  have hlen : fn.results.toList.length = avs.length := by rw [h2.1, h1.1]
  obtain ⟨ys, h3, h4, h5⟩ := mapM_run (P := P) (w := w) (f := fun r : ResultVar => (match r with | .tmp t => (pure (a.tmps.getD t undef) : Sem Value) | .cell s t => do loadVar t (← asAddr (a.tmps.getD s undef)) : Sem Value))
    (g := fun r u => ∀ ar v, compRes P r = some ar → resV σ ar = some v → RV cx μ σ w v u) fn.results.toList (fun r hrm => by
      obtain ⟨i, hi⟩ := List.getElem?_of_mem hrm
      obtain ⟨ar, e1, e2⟩ := h1.2 i r hi
      obtain ⟨v, e3, e4⟩ := h2.2 i ar e1
      obtain ⟨u, e5, e6⟩ := res_run h e2 e4
      exact ⟨u, e5, fun ar' v' g1 g2 => by rw [e2] at g1; cases g1; rw [e4] at g2; cases g2; exact e6⟩)
  refine ⟨ys, ?_, by omega, fun j x u hx hu => ?_⟩
  · unfold results
    rw [Array.mapM_eq_mapM_toList]
    simp only [Sem.run_bind, Sem.run_map]
    erw [h3]
    simp
  · have hj : j < fn.results.toList.length := by rw [hlen]; exact (List.getElem?_eq_some_iff.1 hx).1
    have hrj := List.getElem?_eq_getElem hj
    obtain ⟨ar, e1, e2⟩ := h1.2 j _ hrj
    obtain ⟨v, e3, e4⟩ := h2.2 j ar e1
    rw [hx] at e3; cases e3
    exact h5 j _ u hrj hu ar x e2 e4

theorem sum_zero : ∀ (l : List (V RC)), (l.map nOwn).sum = 0 → ∀ x ∈ l, nOwn x = 0
  | [], _, x, hx => by cases hx
  | y :: l, h, x, hx => by
    simp only [List.map_cons, List.sum_cons] at h
    rcases List.mem_cons.1 hx with rfl | hx
    · omega
    · exact sum_zero l (by omega) x hx

theorem rv_one' {R : RC → Value → Prop} {c : RC} {v : Value} (h : RepV R (.one c) v) : R c v := by cases h; assumption

theorem pack_rel {R : RC → Value → Prop} {rvs : List (V RC)} {us : List Value} (hl : rvs.length = us.length) (h : ∀ (j : Nat) (x : V RC) (v : Value), rvs[j]? = some x → us[j]? = some v → RepV R x v) :
    RepV R (packV rvs) (if h : us.toArray.size = 1 then us.toArray[0] else .tuple us.toArray) := by
  by_cases h1 : us.length = 1
  · match us, h1 with
    | [u], _ =>
      match rvs, hl with
      | [r], _ => simpa [packV] using h 0 r u rfl rfl
  · have hp : packV rvs = .tup rvs := by
      unfold packV
      split
      · simp at hl; omega
      · rfl
    rw [hp, dif_neg (by simpa using h1)]
    exact .tup _ _ (by simpa using hl) fun j x v hx hv => h j x v hx (by simpa using hv)

/-- A function's contract, out of its walk. -/
theorem COK_of_walk {f : FuncId} {fn : Func} {c : Code} {rs : List AResult} (hf : P.funcs[f]? = some fn) (hb : fn.body = some c) (hr : allSome (fn.results.toList.map (compRes P)) = some rs) {S : FSpec}
    (hS : ∀ args K, S args K → args.all argOk = true ∧ args.length ≤ fn.ntmps ∧ AW P fn.ntmps (some ownP) (comp P fn.ntmps c) (initS args) (retPost rs args K)) : COK P f S := by
  intro w X ob args vs K hX hob hsum hrel hSK
  obtain ⟨hok, hlen, hw⟩ := hS args K hSK
  obtain ⟨hl, hrel⟩ := hrel
  -- the own parameter
  obtain ⟨gc, gv, hown⟩ : ∃ (gc : AC) (gv : Value), (ownArg args = none ∧ (∀ v ∈ args, nOwn v = 0) ∧ gc = .d .nilp ∧ gv = .pointer none) ∨
      ∃ (j : Nat) (E sz : Nat) (xs : List (List C)), ownArg args = some (E, sz, xs) ∧ args[j]? = some (.one (.own E sz xs)) ∧ vs[j]? = some gv ∧ gc = .view ownP 0 0 xs.length ∧ (∀ (i : Nat) (v : V RC), args[i]? = some v → i ≠ j → nOwn v = 0) ∧ RepR w X ob (.own E sz xs) gv := by
    rcases own_find args hok hsum with ⟨h1, h2⟩ | ⟨j, E, sz, xs, h1, h2, h3⟩
    · refine ⟨_, _, .inl ⟨h1, fun v hv => ?_, rfl, rfl⟩⟩
      exact sum_zero args h2 v hv
    · have hjl : j < vs.length := by rw [← hl]; exact (List.getElem?_eq_some_iff.1 h2).1
      have hv := List.getElem?_eq_getElem hjl
      exact ⟨_, vs[j], .inr ⟨j, E, sz, xs, h1, h2, hv, rfl, h3, rv_one' (hrel j _ _ h2 hv)⟩⟩
  have hgc : gcOk gc := by
    rcases hown with ⟨_, _, h, _⟩ | ⟨j, E, sz, xs, _, _, _, h, _⟩
    · exact .inl ⟨_, h⟩
    · exact .inr ⟨_, h⟩
  let cx : Ctx := { w0 := w, X0 := X, ob := ob, n := fn.ntmps, pk := some ownP, gc := gc, gv := gv }
  let μ : Nat → Option Nat := fun k => if k = ownP then ob else none
  let σ := initS args
  let a : Act := { tmps := vs.toArray ++ Array.replicate (fn.ntmps - vs.toArray.size) undef, defers := [] }
  have hμ : ∀ k b, liveO (σ.o k) = true → μ k = some b → k = ownP ∧ ob = some b := fun k b h1 h2 => by
    by_cases e : k = ownP
    · exact ⟨e, by simpa [μ, e] using h2⟩
    · simp [σ, initS, e, liveO] at h1
  have hXs : ∀ b, Xs X σ.o μ b → X b := fun b hb => by
    rcases hb with hb | ⟨k, h1, h2⟩
    · exact hb
    · exact hob b (hμ k b h1 h2).2
  have hup : ∀ {c v}, RepC w X c v → RelC σ.g σ.o μ w (Xs X σ.o μ) (.d c) v := fun h => .d (h.mono (fun _ _ _ => rfl) fun b _ hb hx => hb (hXs b hx))
  have hview : ∀ (j E sz : Nat) (xs : List (List C)) (v : Value), ownArg args = some (E, sz, xs) → RepR w X ob (.own E sz xs) v → RelC σ.g σ.o μ w (Xs X σ.o μ) (.view ownP 0 0 xs.length) v := by
    intro j E sz xs v ho hv
    have hor : σ.o ownP = .row true E sz (dmm xs) := by simp [σ, initS, ho]
    have hm : μ ownP = ob := by simp [μ]
    rcases hv with ⟨rfl, rfl, ad, rfl⟩ | ⟨b, cap, rfl, rfl, cur, g, e1, e2, e3, _⟩
    · refine .view (Nat.le_refl _) ⟨_, _, rfl⟩ fun _ => ?_
      rw [hor, hm]
      exact .inl ⟨rfl, rfl, rfl, ad, rfl⟩
    · refine .view (Nat.le_refl _) ⟨_, _, rfl⟩ fun _ => ?_
      rw [hor, hm]
      exact .inr (.inr ⟨b, cap, cur, rfl, e1, by rw [Nat.zero_add]; exact e2, by rw [Nat.zero_mul], e3⟩)
  have hRel : Rel cx μ σ a w := by
    refine { defers := rfl, sz := ?_, kept := .refl _ _, tm := fun k => ?_, obj := fun k => ?_, inj := fun k k' b h1 h2 h3 h4 => ?_, lv := fun k b h1 h2 => ?_, x0 := hX, gh := ?_, xo := fun k b h1 h2 _ => ?_ }
    · simp [cx, a]; omega
    · by_cases hk : k < vs.length
      · have hka : k < args.length := by omega
        have hak := List.getElem?_eq_getElem hka
        have hvk := List.getElem?_eq_getElem hk
        have hr := hrel k _ _ hak hvk
        have ht : σ.t k = initV args[k] := by simp [σ, initS, hak]
        have hg : a.tmps.getD k undef = vs[k] := by
          have : k < a.tmps.size := by simp [a]; omega
          simp [a, Array.getElem?_append, hk]
        rw [ht, hg]
        have hoka := List.all_eq_true.1 hok _ (List.getElem_mem hka)
        revert hr hoka hak
        generalize args[k] = x
        generalize vs[k] = u
        intro hak hr hoka
        cases hr with
        | any => simp [argOk] at hoka
        | tup => simp [argOk] at hoka
        | one c u hc h1 =>
          cases c with
          | d c => exact .one _ _ (hup hc) h1
          | ownp E cs => simp [argOk] at hoka
          | own E sz xs =>
            rcases hown with ⟨_, h0, _⟩ | ⟨j, E', sz', xs', h2, h3, _, _, h4, _⟩
            · have := h0 _ (List.mem_of_getElem? hak)
              simp [nOwn, isOwn] at this
            · by_cases e : k = j
              · subst e
                rw [h3] at hak
                cases hak
                exact .one _ _ (hview k _ _ _ u h2 hc) h1
              · have := h4 k _ hak e
                simp [nOwn, isOwn] at this
        | agg cs us hlc hc =>
          refine .agg _ _ (by simpa using hlc) fun j b v hb hv => ?_
          rw [List.getElem?_map] at hb
          cases hj : cs[j]? with
          | none => rw [hj] at hb; cases hb
          | some c =>
            rw [hj] at hb; cases hb
            obtain ⟨e1, e2⟩ := hc j c v hj hv
            have hcn : isOwn c = false := by
              have := List.all_eq_true.1 hoka c (List.mem_of_getElem? hj)
              simpa using this
            cases c with
            | d c => exact ⟨hup e1, e2⟩
            | own E sz xs => simp [isOwn] at hcn
            | ownp E cs => simp [isOwn] at hcn
      · have hka : ¬ k < args.length := by omega
        have ht : σ.t k = .tup [] := by simp [σ, initS, List.getElem?_eq_none (Nat.le_of_not_lt hka)]
        have hg : a.tmps.getD k undef = undef := by
          simp only [a, Array.getD_eq_getD_getElem?, Array.getElem?_append, List.size_toArray, hk, if_false]
          by_cases hk2 : k - vs.length < fn.ntmps - vs.length
          · simp [hk2]
          · simp [hk2]
        rw [ht, hg]
        exact rv_undef
    · by_cases e : k = ownP
      · subst e
        rcases hown with ⟨h1, _⟩ | ⟨j, E, sz, xs, h1, _, _, _, _, h5⟩
        · unfold RelO
          simp only [σ, initS, h1, if_true]
        · have hor : σ.o ownP = .row true E sz (dmm xs) := by simp [σ, initS, h1]
          rcases h5 with ⟨rfl, rfl, _⟩ | ⟨b, cap, rfl, _, hrow⟩
          · unfold RelO
            rw [hor]
            exact .inl ⟨by simp [μ], rfl⟩
          · exact own_relO hor (by simp [μ]) hrow fun x u _ hu => hup hu
      · unfold RelO
        simp [σ, initS, e]
    · rw [(hμ k b h1 h3).1, (hμ k' b h2 h4).1]
    · exact ⟨.inr (hμ k b h1 h2).2, hX b (hob b (hμ k b h1 h2).2)⟩
    · rcases hown with ⟨_, _, rfl, rfl⟩ | ⟨j, E, sz, xs, h1, _, _, rfl, _, h5⟩
      · exact .d .nilp
      · exact hview j E sz xs gv h1 h5
    · rw [(hμ k b h1 h2).1]
  refine calls_of_wp hf hb (hw c rfl cx μ a w rfl ⟨rfl, hgc⟩ hRel _ fun e σ' μ' a' w' hpost hR => ?_)
  obtain ⟨he, avs, fl, rvs, rows, h1, h2, h3, h4, h5, h6, h7⟩ := hpost
  obtain ⟨us, g1, g2, g3⟩ := results_run hr hR h1
  have hfin : a'.defers = [] ∧ ∃ v, (results fn a'.tmps).run P w' = .ok v w' ∧ ∃ rv rows v' ob', Ending.returned v = Ending.returned v' ∧ K rv rows ∧ nOwn rv ≤ 1 ∧ Kept ob w w' ∧ (∀ b, ob' = some b → w.heap.size ≤ b ∧ b < w'.heap.size) ∧
      RepV (RepR w' (fun b => X b ∨ ob' = some b) ob') rv v' ∧ RowsBack w' (fun b => X b ∨ ob' = some b) args vs rows := by
    refine ⟨hR.defers, _, g1, packV rvs, rows, (if h : us.toArray.size = 1 then us.toArray[0] else .tuple us.toArray), ?_⟩
    let R := reachArgs σ' fl avs
    let ob' : Option Nat := match ownOf fl avs, ownV fl avs us with | some k, some u => obOf (μ' k) u | _, _ => none
    have hobk : ∀ k u, ownOf fl avs = some k → ownV fl avs us = some u → ob' = obOf (μ' k) u := fun k u e1 e2 => by simp only [ob', e1, e2]
    have hobX : ∀ b, ob' = some b → ∃ k, ownOf fl avs = some k ∧ liveO (σ'.o k) = true ∧ μ' k = some b := fun b hb => by
      simp only [ob'] at hb
      split at hb
      · rename_i k u e1 e2
        refine ⟨k, e1, own_live fl avs rvs h2 k e1, ?_⟩
        unfold obOf at hb
        split at hb
        · cases hb
        · exact hb
      · cases hb
    have hRc : ∀ k ∈ R, isRowMap (σ'.o k) = true ∧ cx.pk ≠ some k := fun k hk => ⟨(h5 k hk).1, fun e => (h5 k hk).2 (Option.some.inj e).symm⟩
    have hpr := pass_rel hR hRc ob' fl avs us rvs h2 (fun _ hk => hk) ⟨g2, g3⟩ h3 hobk
    let Y : Nat → Prop := fun b => X b ∨ ob' = some b
    have hYc : ∀ b, Y b → Xc cx σ' μ' R b := fun b hb => by
      rcases hb with hb | hb
      · exact .inl hb
      · obtain ⟨k, e1, e2, e3⟩ := hobX b hb
        exact .inr ⟨k, e2, e3, (h4 k e1).1⟩
    have hmono : ∀ {Z : Nat → Prop} {c v}, (∀ b, Y b → Z b) → RepC w' Z c v → RepC w' Y c v := fun hZ h => h.mono (fun _ _ _ => rfl) fun b _ hb hx => hb (hZ b hx)
    have hmonoR : ∀ c v, RepR w' (Xc cx σ' μ' R) ob' c v → RepR w' Y ob' c v := fun c v hc => by
      cases c with
      | d c => exact hmono hYc hc
      | own E sz xs =>
        rcases hc with hc | ⟨b, cap, e1, e2, cur, g, e3, e4, e5, e6, e7, e8, e9⟩
        · exact .inl hc
        · exact .inr ⟨b, cap, e1, e2, cur, g, e3, e4, e5, e6, e7, e8, fun i x hi j c hj => ⟨(e9 i x hi j c hj).1, hmono hYc (e9 i x hi j c hj).2⟩⟩
      | ownp E cs =>
        obtain ⟨b, e1, e2, cur, g, e3, e4, e5, e6, e7, e8, e9⟩ := hc
        exact ⟨b, e1, e2, cur, g, e3, e4, e5, e6, e7, e8, fun i x hi j c hj => ⟨(e9 i x hi j c hj).1, hmono hYc (e9 i x hi j c hj).2⟩⟩
    refine ⟨ob', rfl, h7, by rw [nOwn_pack (pass_not_tup fl avs rvs h2)]; exact h3, hR.kept, fun b hb => ?_, (pack_rel hpr.1 hpr.2).mono hmonoR, ?_⟩
    · obtain ⟨k, e1, e2, e3⟩ := hobX b hb
      obtain ⟨e4, e5⟩ := hR.lv k b e2 e3
      refine ⟨?_, e5⟩
      rcases e4 with e4 | e4
      · exact e4
      · have := hR.xo k b e2 e3 (hob b e4)
        exact absurd (Option.some.inj this).symm (h4 k e1).2
    · unfold backRows at h6
      rcases hown with ⟨k1, k2, _⟩ | ⟨j, E, sz, xs, k1, k2, k3, k4, k5, k6⟩
      · rw [k1] at h6
        simp only [Option.some.injEq] at h6
        subst h6
        exact rows_skip args vs hl k2
      · rw [k1] at h6
        simp only at h6
        split at h6
        case isFalse => cases h6
        rename_i hg0
        split at h6
        case h_2 => cases h6
        rename_i E' sz' ys hrow
        split at h6
        case isFalse => cases h6
        rename_i hcond
        obtain ⟨rfl, rfl, hyl⟩ := hcond
        obtain ⟨zs, hzs, rfl⟩ := Option.map_eq_some_iff.1 h6
        have := pureRow_spec hzs
        subst this
        rw [List.length_map] at hyl
        have hgh := hR.gh
        simp only [cx, k4] at hgh
        refine rows_one args vs j gv hl k2 k3 k5 ?_
        have ho2 := hR.obj ownP
        unfold RelO at ho2
        rw [hrow] at ho2
        rcases view_at hgh (by rw [hg0]) hrow with ⟨m1, _, m2, ad, rfl⟩ | ⟨m1, _⟩ | ⟨b, cap, cur, m1, m2, m3, rfl, m5⟩
        · exact .inl ⟨⟨ad, rfl⟩, List.eq_nil_of_length_eq_zero m2, List.eq_nil_of_length_eq_zero (by omega)⟩
        · exact absurd rfl m1
        · right
          refine ⟨hyl, b, _, cap, by rw [Nat.zero_mul], ?_⟩
          rcases ho2 with ⟨hn, _⟩ | ⟨b', cur', cap', e1, e2, e3, e4, e5, e6, e7, e8, e9⟩
          · rw [hn] at m1; cases m1
          have hbb : b' = b := by rw [e1] at m1; exact Option.some.inj m1
          subst hbb
          have hcc : cur' = cur := by rw [e2] at m2; cases m2; rfl
          subst hcc
          have hcap : cap = cap' := by
            rw [e3, Nat.zero_add] at m3
            exact (Nat.eq_of_mul_eq_mul_right e4 m3).symm
          subst hcap
          refine ⟨cur', fun i j => cur'.getD (i * sz' + j) undef, e2, e3, by simpa using e6, e4, e5, fun x hx => ?_, fun i x hi j c hj => ?_⟩
          · have := e7 (dm x) (List.mem_map_of_mem hx)
            simpa using this
          · obtain ⟨v, n1, n2⟩ := e8 i (dm x) (by simp [hi]) j (.d c) (by simp [hj])
            have : cur'.getD (i * sz' + j) undef = v := by simp [n1]
            show _ = some (cur'.getD (i * sz' + j) undef) ∧ RepC w' _ c (cur'.getD (i * sz' + j) undef)
            rw [this]
            refine ⟨n1, ?_⟩
            cases n2 with | d n3 => exact hmono (fun b hb => (hYc b hb).sub) n3
  rcases he with rfl | rfl <;> exact hfin

end
end Go.Proofs.Ytnpdeecoejabgaa
