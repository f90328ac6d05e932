/- THE ABSTRACT MACHINE, 23: for walks. -/
import Derived.Test.YtnpdeecoejabgaaKW
set_option linter.unusedSimpArgs false
set_option linter.unusedVariables false
namespace Go.Proofs.Ytnpdeecoejabgaa
open Go Go.RowKit

/-- A run of operations that have one outcome each. -/
def runR (σ : ASt) (r : AR) : Option ASt :=
  (effA none σ r).map fun e => σ.put r.dst e
def runRs : List AR → ASt → Option ASt
  | [], σ => some σ
  | r :: rs, σ => (runR σ r).bind (runRs rs)

section
variable {P : Program} {n : Nat} {pk : Option Nat} {σ σ' : ASt} {Q : AE → ASt → Prop}

theorem runR_wp {r : AR} {K : ASt → Prop} (h : runR σ r = some σ') (hK : K σ') : stepWp P pk σ r K := by
  obtain ⟨e, h1, rfl⟩ := Option.map_eq_some_iff.1 h
  exact eff_step h1 hK

theorem runRs_wp : ∀ (pre : List AR) {post : List AR} {σ : ASt} {K : ASt → Prop}, runRs pre σ = some σ' → stepsWp P pk post σ' K → stepsWp P pk (pre ++ post) σ K
  | [], _, σ, K, h, hp => by cases h; exact hp
  | r :: pre, post, σ, K, h, hp => by
    simp only [runRs, Option.bind_eq_some_iff] at h
    obtain ⟨σ1, h1, h2⟩ := h
    exact runR_wp h1 (runRs_wp pre h2 hp)

theorem AW.run {ops : List AR} (h : runRs ops σ = some σ') (hQ : Q .fall σ') : AW P n pk (.reg ops false) σ Q := by
  refine AW.reg ?_
  have := runRs_wp (P := P) (pk := pk) ops (post := []) (K := Q .fall) h hQ
  simpa using this

end

theorem ev_t (t g o n) : ASt.ev ⟨t, g, o⟩ (.t n) = t n := rfl
theorem ev_c (σ : ASt) (k) : σ.ev (.c k) = .one (kC k) := rfl
theorem ev_f (σ : ASt) (k) : σ.ev (.f k) = .one (.fn k []) := rfl
theorem upd_ap {α : Type} (f : Nat → α) (k j : Nat) (v : α) : upd f k v j = if j = k then v else f j := rfl

theorem of_body {P : Program} {f n : Nat} {fn : Func} {ac : ACode} {rs : List AResult} (hf : P.funcs[f]? = some fn) (hn : fn.ntmps = n) (hb : fn.body.map (comp P n) = some ac) (hr : allSome (fn.results.toList.map (compRes P)) = some rs) {S : FSpec}
    (hS : ∀ args K, S args K → args.all argOk = true ∧ args.length ≤ n ∧ AW P n (some ownP) ac (initS args) (retPost rs args K)) : COK P f S := by
  subst hn
  obtain ⟨c, h1, h2⟩ := Option.map_eq_some_iff.1 hb
  exact COK_of_walk hf h1 hr (by rw [h2]; exact hS)

end Go.Proofs.Ytnpdeecoejabgaa
