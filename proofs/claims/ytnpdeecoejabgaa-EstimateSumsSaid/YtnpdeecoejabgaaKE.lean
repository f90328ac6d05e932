/- THE ABSTRACT MACHINE, 5: operations that only compute stand to the model's. -/
import Derived.Test.YtnpdeecoejabgaaKD
import Derived.Laws.StructEq
import Derived.Laws.Slices
set_option linter.unusedSimpArgs false
set_option linter.unusedVariables false
namespace Go.Proofs.Ytnpdeecoejabgaa
open Go Go.RowKit

/-- The model's operation does what the abstract one does. -/
def Goes (P : Program) (o : Oper) (cx : Ctx) (σ : ASt) (a : Act) (w : World) (e : Eff) : Prop :=
  ∃ nx val w' μ', (execOp a.eval o).run P w = .ok nx w' ∧ (nx = .value val ∨ nx = .skip ∧ val = undef) ∧ Rel cx μ' (σ.put o.dst e) (a.put o.dst val) w'

section
variable {P : Program} {o : Oper} {cx : Ctx} {μ : Nat → Option Nat} {σ : ASt} {a : Act} {w : World}

abbrev RV (cx : Ctx) (μ : Nat → Option Nat) (σ : ASt) (w : World) : AV → Value → Prop := RepV (RelC σ.g σ.o μ w (Xs cx.X0 σ.o μ))
abbrev RCl (cx : Ctx) (μ : Nat → Option Nat) (σ : ASt) (w : World) : AC → Value → Prop := RelC σ.g σ.o μ w (Xs cx.X0 σ.o μ)

theorem goes_val (h : Rel cx μ σ a w) (hd : ∀ d, o.dst = some d → d < cx.n) {v : AV} {u : Value} (hr : (execOp a.eval o).run P w = .ok (.value u) w) (hv : RV cx μ σ w v u) : Goes P o cx σ a w (v, []) :=
  ⟨_, u, w, μ, hr, .inl rfl, h.val hd hv⟩

theorem kC_toK {v : Value} {k : K} (h : toK v = some k) : RCl cx μ σ w (kC k) v := by
  unfold toK at h
  split at h <;> simp at h <;> subst h <;> simp only [kC]
  · exact .d (.bool _)
  · exact .d (.int _ _)
  · exact .d (.str _)
  · exact .nils _
  · exact .d .nilp
  · exact .d (.mp0 _ _)
  · exact .d .nilf

theorem ev_toX (h : Rel cx μ σ a w) {x : Operand} {ax : AX} (hx : toX x = some ax) : RV cx μ σ w (σ.ev ax) (a.eval x) := by
  cases x with
  | tmp t => simp only [toX, Option.some.injEq] at hx; subst hx; exact h.tm t
  | const v =>
    simp only [toX, Option.map_eq_some_iff] at hx
    obtain ⟨k, hk, rfl⟩ := hx
    have := kC_toK (cx := cx) (μ := μ) (σ := σ) (w := w) hk
    exact .one _ _ this this.one
  | global g => simp [toX] at hx
  | func f =>
    simp only [toX, Option.some.injEq] at hx
    subst hx
    exact .one _ _ (.fn (fun _ => undef) rfl (by simp) (by simp)) rfl

theorem rv_one {R : AC → Value → Prop} {c : AC} {v : Value} (h : RepV R (.one c) v) : R c v := by cases h; assumption
theorem rv_agg {R : AC → Value → Prop} {cs : List AC} {v : Value} (h : RepV R (.agg cs) v) : ∃ vs : Array Value, v = .agg vs ∧ cs.length = vs.size ∧ ∀ (j : Nat) (a : AC) (u : Value), cs[j]? = some a → vs[j]? = some u → R a u ∧ u.oneCell' = true := by
  cases h with | agg as vs hl h => exact ⟨vs, rfl, hl, h⟩
theorem rv_tup {R : AC → Value → Prop} {cs : List AV} {v : Value} (h : RepV R (.tup cs) v) : ∃ vs : Array Value, v = .tuple vs ∧ cs.length = vs.size ∧ ∀ (j : Nat) (a : AV) (u : Value), cs[j]? = some a → vs[j]? = some u → RepV R a u := by
  cases h with | tup as vs hl h => exact ⟨vs, rfl, hl, h⟩

theorem rc_int {g o μ w X k n v} (h : RelC g o μ w X (.d (.int k n)) v) : v = .int k n := by cases h with | d h => cases h; rfl
theorem rc_bool {g o μ w X b v} (h : RelC g o μ w X (.d (.bool b)) v) : v = .bool b := by cases h with | d h => cases h; rfl
theorem rc_str {g o μ w X s v} (h : RelC g o μ w X (.d (.str s)) v) : v = .string s := by cases h with | d h => cases h; rfl

theorem ev_int (h : Rel cx μ σ a w) {x : Operand} {ax : AX} (hx : toX x = some ax) {k : IntKind} {n : Int} (he : σ.ev ax = .one (.d (.int k n))) : a.eval x = .int k n := by
  have := ev_toX h hx
  rw [he] at this
  exact rc_int (rv_one this)
theorem ev_bool (h : Rel cx μ σ a w) {x : Operand} {ax : AX} (hx : toX x = some ax) {b : Bool} (he : σ.ev ax = .one (.d (.bool b))) : a.eval x = .bool b := by
  have := ev_toX h hx
  rw [he] at this
  exact rc_bool (rv_one this)
theorem ev_str (h : Rel cx μ σ a w) {x : Operand} {ax : AX} (hx : toX x = some ax) {s : ByteArray} (he : σ.ev ax = .one (.d (.str s))) : a.eval x = .string s := by
  have := ev_toX h hx
  rw [he] at this
  exact rc_str (rv_one this)
theorem asI_some {v : AV} {n : Int} (h : asI v = some n) : ∃ k, v = .one (.d (.int k n)) := by
  unfold asI at h
  split at h <;> simp at h
  subst h
  exact ⟨_, rfl⟩
theorem asB_some {v : AV} {b : Bool} (h : asB v = some b) : v = .one (.d (.bool b)) := by
  unfold asB at h
  split at h <;> simp at h
  subst h
  rfl
theorem ev_asI (h : Rel cx μ σ a w) {x : Operand} {ax : AX} (hx : toX x = some ax) {n : Int} (he : asI (σ.ev ax) = some n) : ∃ k, a.eval x = .int k n := by
  obtain ⟨k, hk⟩ := asI_some he
  exact ⟨k, ev_int h hx hk⟩

theorem rint {k n} : RV cx μ σ w (.one (.d (.int k n))) (.int k n) := .one _ _ (.d (.int _ _)) rfl
theorem rbool {b} : RV cx μ σ w (.one (.d (.bool b))) (.bool b) := .one _ _ (.d (.bool _)) rfl
theorem rstr {s} : RV cx μ σ w (.one (.d (.str s))) (.string s) := .one _ _ (.d (.str _)) rfl

theorem go_mov (h : Rel cx μ σ a w) (hd : ∀ d, o.dst = some d → d < cx.n) {x : Operand} {ax : AX} (ho : o.op = .move x ∨ o.op = .assign x) (hx : toX x = some ax) : Goes P o cx σ a w (σ.ev ax, []) := by
  refine goes_val h hd ?_ (ev_toX h hx)
  rcases ho with ho | ho <;> simp [execOp, ho]

theorem go_pick (h : Rel cx μ σ a w) (hd : ∀ d, o.dst = some d → d < cx.n) {c x y : Operand} {ac ax ay : AX} (ho : o.op = .pick c x y) (hc : toX c = some ac) (hx : toX x = some ax) (hy : toX y = some ay)
    {t : Bool} (ht : asB (σ.ev ac) = some t) : Goes P o cx σ a w (if t then σ.ev ax else σ.ev ay, []) := by
  have h1 := ev_bool h hc (asB_some ht)
  refine goes_val h hd (u := if t then a.eval x else a.eval y) ?_ ?_
  · simp [execOp, ho, h1, asBool]
  · cases t
    · exact ev_toX h hy
    · exact ev_toX h hx

theorem int_beq (x y : Int) : (x == y) = decide (x = y) := by rw [Bool.eq_iff_iff]; simp
theorem int_bne (x y : Int) : (x != y) = !decide (x = y) := by rw [Bool.eq_iff_iff]; simp

theorem binInt_run {op : BinOp} {k : IntKind} {x y : Int} {c : AC} {t : TypeId} {p q : Operand} (hb : binInt op k x y = some c) (h1 : op ≠ .shl) (h2 : op ≠ .shr) :
    ∃ u, (eqGuard op t p q (.int k x) (.int k y) >>= fun _ => Go.binOp op t (.int k x) (.int k y)).run P w = .ok u w ∧ RV cx μ σ w (.one c) u := by
  rw [eqGuard_at_int]
  cases op <;> simp only [binInt, Option.some.injEq] at hb <;> first
    | (subst hb; exact ⟨_, by simp [Go.binOp, Op.intArith, Op.intCmp, Op.intBits], rint⟩)
    | (subst hb; exact ⟨_, by simp [Go.binOp, Op.intArith, Op.intCmp, Op.intBits, int_beq, int_bne], rbool⟩)
    | (split at hb <;> simp at hb; rename_i hy; subst hb; exact ⟨_, by simp [Go.binOp, Op.intDiv, hy], rint⟩)
    | simp at hb
    | exact (h1 rfl).elim
    | exact (h2 rfl).elim

theorem bytes_ext {x y : ByteArray} (h : x.toList = y.toList) : x = y := by
  rw [ByteArray.toList_eq, ByteArray.toList_eq] at h
  cases x; cases y
  exact congrArg _ (Array.toList_inj.1 h)
theorem bytes_beq (x y : ByteArray) : (x.toList == y.toList) = decide (x = y) := by
  by_cases h : x = y
  · subst h; simp
  · rw [decide_eq_false h, beq_eq_false_iff_ne]
    exact fun e => h (bytes_ext e)

theorem binStr_run {op : BinOp} {x y : ByteArray} {c : AC} {t : TypeId} {p q : Operand} (hb : binStr op x y = some c) :
    ∃ u, (eqGuard op t p q (.string x) (.string y) >>= fun _ => Go.binOp op t (.string x) (.string y)).run P w = .ok u w ∧ RV cx μ σ w (.one c) u := by
  rw [eqGuard_at_string]
  cases op <;> simp only [binStr, Option.some.injEq] at hb <;> first
    | (subst hb; exact ⟨_, by simp [Go.binOp, Op.stringOp, bytes_beq], rbool⟩)
    | (split at hb <;> simp at hb; rename_i hy; subst hb; refine ⟨.string (x ++ y), ?_, rstr⟩; simp [Go.binOp, Op.stringOp]; omega)
    | simp at hb

theorem shift_run {op : BinOp} {k k' : IntKind} {x y : Int} {c : AC} {t : TypeId} {p q : Operand} (hs : op = .shl ∨ op = .shr) (hb : shiftOp op k x y = some c) :
    ∃ u, (eqGuard op t p q (.int k x) (.int k' y) >>= fun _ => Go.binOp op t (.int k x) (.int k' y)).run P w = .ok u w ∧ RV cx μ σ w (.one c) u := by
  rw [eqGuard_at_int]
  unfold shiftOp at hb
  split at hb
  · simp at hb
  · rename_i hy
    rcases hs with rfl | rfl <;> simp only [Option.some.injEq] at hb <;> subst hb <;> exact ⟨_, by simp [Go.binOp, Op.shift, hy], rint⟩

theorem equalIn_bool (n : Nat) {t : TypeId} (hu : P.underlying t = some .bool) (p q : Bool) : (Op.equalIn (n + 1) t (.bool p) (.bool q)).run P w = .ok (p == q) w := by
  simp [Op.equalIn, run_underlying hu]
theorem equal_bool {t : TypeId} (hu : P.underlying t = some .bool) (p q : Bool) : (Op.equal t (.bool p) (.bool q)).run P w = .ok (p == q) w := equalIn_bool 9999 hu p q

theorem go_eqb (h : Rel cx μ σ a w) (hd : ∀ d, o.dst = some d → d < cx.n) {op : BinOp} {t t' : TypeId} {x y : Operand} {ax ay : AX} (ho : o.op = .binOp op t x y t') (hx : toX x = some ax) (hy : toX y = some ay)
    (hu : P.underlying t = some .bool) {neg : Bool} (hop : op = if neg then .neq else .eql) {p q : Bool} (hp : asB (σ.ev ax) = some p) (hq : asB (σ.ev ay) = some q) :
    Goes P o cx σ a w (.one (.d (.bool (if neg then !(p == q) else p == q))), []) := by
  have h1 := ev_bool h hx (asB_some hp)
  have h2 := ev_bool h hy (asB_some hq)
  have h3 := equal_bool (P := P) (w := w) hu p q
  refine goes_val h hd ?_ rbool
  cases neg
  · simp only [Bool.false_eq_true, if_false] at hop
    subst hop
    simp only [execOp, ho, h1, h2, eqGuard_at_bool, Go.binOp, Sem.run_bind, h3, Sem.run_pure, Result.andThen_ok]
    rfl
  · simp only [if_true] at hop
    subst hop
    simp only [execOp, ho, h1, h2, eqGuard_at_bool, Go.binOp, Sem.run_bind, h3, Sem.run_pure, Result.andThen_ok]
    rfl

theorem go_bin (h : Rel cx μ σ a w) (hd : ∀ d, o.dst = some d → d < cx.n) {op : BinOp} {t t' : TypeId} {x y : Operand} {ax ay : AX} (ho : o.op = .binOp op t x y t') (hx : toX x = some ax) (hy : toX y = some ay)
    {v : AV} (hb : binOp op (σ.ev ax) (σ.ev ay) = some v) : Goes P o cx σ a w (v, []) := by
  have go : ∀ {u1 u2 : Value}, a.eval x = u1 → a.eval y = u2 → (∃ u, (eqGuard op t x y u1 u2 >>= fun _ => Go.binOp op t u1 u2).run P w = .ok u w ∧ RV cx μ σ w v u) → Goes P o cx σ a w (v, []) := by
    rintro u1 u2 h1 h2 ⟨u, hr, hv⟩
    refine goes_val h hd (u := u) ?_ hv
    simp only [execOp, ho, h1, h2, Sem.run_bind] at hr ⊢
    rw [hr]
    simp
  unfold binOp at hb
  split at hb
  · rename_i k p k' q e1 e2
    have h1 := ev_int h hx e1
    have h2 := ev_int h hy e2
    refine go h1 h2 ?_
    split at hb
    · obtain ⟨c, hc, rfl⟩ := Option.map_eq_some_iff.1 hb; exact shift_run (.inl rfl) hc
    · obtain ⟨c, hc, rfl⟩ := Option.map_eq_some_iff.1 hb; exact shift_run (.inr rfl) hc
    · rename_i n1 n2
      split at hb
      · rename_i hk
        subst hk
        obtain ⟨c, hc, rfl⟩ := Option.map_eq_some_iff.1 hb
        exact binInt_run hc (fun e => n1 e) (fun e => n2 e)
      · simp at hb
  · rename_i p q e1 e2
    obtain ⟨c, hc, rfl⟩ := Option.map_eq_some_iff.1 hb
    exact go (ev_str h hx e1) (ev_str h hy e2) (binStr_run hc)
  · simp at hb

end
end Go.Proofs.Ytnpdeecoejabgaa
