/- THE ABSTRACT MACHINE, 18: one operation of a region, whatever it is. -/
import Derived.Test.YtnpdeecoejabgaaKR
set_option linter.unusedSimpArgs false
set_option linter.unusedVariables false
namespace Go.Proofs.Ytnpdeecoejabgaa
open Go Go.RowKit

/-- A function that is entered when it is called. -/
def enters (P : Program) (f : Nat) : Bool := match P.funcs[f]? with
  | some fn => fn.body.isSome && !(fn.name == "runtime.NumGoroutine")
  | none => false

/-- What an operation needs, so that K holds of its effect. -/
def opWp (P : Program) (pk : Option Nat) (σ : ASt) (d : Nat) (op : AOp) (K : Eff → Prop) : Prop :=
  match op with
  | .call f xs => callWp P pk σ d f (xs.map σ.ev) K
  | .callv x xs => match σ.ev x with
    | .one (.fn f caps) => enters P f = true ∧ callWp P pk σ d f (xs.map σ.ev ++ caps.map .one) K
    | .one (.d (.fn f caps)) => enters P f = true ∧ callWp P pk σ d f (xs.map σ.ev ++ caps.map fun c => .one (.d c)) K
    | _ => False
  | .cap x => match σ.ev x with
    | .one .nils => K (.one (.d (.int .i64 0)), [])
    | _ => False
  | .isn x => match σ.ev x with
    | .one .nils => ∀ b : Bool, K (.one (.d (.bool b)), [])
    | .one (.d (.sl xs)) => ∀ b : Bool, (b = true → xs = []) → K (.one (.d (.bool b)), [])
    | _ => False
  | .nxt x => match σ.ev x with
    | .one (.itr o g) => g = σ.g o ∧ ∃ ka va left cur, σ.o o = .iter ka va left cur ∧ (left = [] → K (.tup [.one (.d (.bool false))], [])) ∧ ∀ i e, left[i]? = some e → K (.tup [.one (.d (.bool true)), .any, .any], [(o, g, .iter ka va (left.eraseIdx i) (some e))])
    | _ => False
  | op => ∃ e, det σ d op = some e ∧ K e

def stepWp (P : Program) (pk : Option Nat) (σ : ASt) (r : AR) (K : ASt → Prop) : Prop :=
  match r.grd with
  | none => opWp P pk σ (r.dst.getD 999999) r.op fun e => K (σ.put r.dst e)
  | some (s, b) => match σ.t s with
    | .one (.d (.bool b')) => if b' = b then opWp P pk σ (r.dst.getD 999999) r.op fun e => K (σ.put r.dst e) else K (σ.put r.dst (.tup [], []))
    | .tup [] => K (σ.put r.dst (.tup [], []))
    | _ => False

def stepsWp (P : Program) (pk : Option Nat) : List AR → ASt → (ASt → Prop) → Prop
  | [], σ, K => K σ
  | r :: rs, σ, K => stepWp P pk σ r fun σ' => stepsWp P pk rs σ' K

section
variable {P : Program} {o : Oper} {cx : Ctx} {μ : Nat → Option Nat} {σ : ASt} {a : Act} {w : World}

def callTag : AOp → Nat
  | .call .. | .callv .. | .cap _ | .isn _ | .nxt _ => 1
  | _ => 0

theorem map_tag {α : Type} {x : Option α} {f : α → AOp} {aop : AOp} (h : x.map f = some aop) (hf : ∀ y, callTag (f y) = 0) : callTag aop = 0 := by
  obtain ⟨y, _, rfl⟩ := Option.map_eq_some_iff.1 h
  exact hf y
theorem bind_tag {α : Type} {x : Option α} {f : α → Option AOp} {aop : AOp} (h : x.bind f = some aop) (hf : ∀ y, f y = some aop → callTag aop = 0) : callTag aop = 0 := by
  obtain ⟨y, _, h⟩ := bind_some' h
  exact hf y h
theorem some_tag {x aop : AOp} (h : some x = some aop) (hf : callTag x = 0) : callTag aop = 0 := by cases h; exact hf
theorem none_tag {aop : AOp} (h : none = some aop) : callTag aop = 0 := by cases h

theorem bin_tag {op : BinOp} {t : Nat} {x y : AX} {aop : AOp} (h : compBin P op t x y = some aop) : callTag aop = 0 ∨ (∃ e, P.underlying t = some (.slice e)) ∧ op = .eql ∧ y = .c .nils ∧ aop = .isn x := by
  unfold compBin at h
  repeat' split at h
  all_goals first | exact .inl (some_tag h rfl) | exact .inl (none_tag h) | exact .inr ⟨⟨_, by assumption⟩, rfl, rfl, by cases h; rfl⟩

theorem tag_zero {op : Op} {aop : AOp} (h : compOp P op = some aop) (hop : ∀ c, op ≠ .call c) (hnx : ∀ x b, op ≠ .next x b) (hbn : ∀ op' t x y t', op ≠ .binOp op' t x y t') : callTag aop = 0 := by
  cases op with
  | call c => exact absurd rfl (hop c)
  | next x b => exact absurd rfl (hnx x b)
  | binOp op t x y t' => exact absurd rfl (hbn _ _ _ _ _)
  | _ =>
    simp only [compOp, reduceCtorEq] at h
    try (repeat' split at h)
    all_goals try first
      | contradiction
      | exact none_tag h
      | (rename_i hx _; cases hx; done)
      | exact some_tag h rfl
      | exact map_tag h fun _ => rfl
      | (refine bind_tag h fun _ h => ?_; (repeat' split at h) <;> first | exact none_tag h | exact some_tag h rfl | exact map_tag h fun _ => rfl | (refine bind_tag h fun _ h => ?_; (repeat' split at h) <;> first | exact none_tag h | exact some_tag h rfl | exact map_tag h fun _ => rfl))

theorem Goes.wp {e : Eff} (h : Goes P o cx σ a w e) {Kw : Act → World → Prop} {Q : Exit → Act → World → Prop} (hK : ∀ μ' a' w', Rel cx μ' (σ.put o.dst e) a' w' → Kw a' w') : o.wp P a w Kw Q := by
  obtain ⟨nx, val, w', μ', h1, h2, h3⟩ := h
  unfold Oper.wp
  rw [h1]
  rcases h2 with rfl | ⟨rfl, rfl⟩
  · exact hK _ _ _ h3
  · exact hK _ _ _ h3

theorem args_rel (h : Rel cx μ σ a w) {xs : Array Operand} {l : List AX} (hx : compArgs xs = some l) : (l.map σ.ev).length = (xs.map a.eval).toList.length ∧
    ∀ (j : Nat) (x : AV) (v : Value), (l.map σ.ev)[j]? = some x → (xs.map a.eval).toList[j]? = some v → RepV (RCl cx μ σ w) x v := by
  have hs := compArgs_spec hx
  have hl : xs.size = l.length := by simpa using congrArg List.length hs
  refine ⟨by simp [hl], fun j x v h1 h2 => ?_⟩
  have h3 := congrArg (·[j]?) hs
  simp only [List.getElem?_map, Array.getElem?_toList, Array.toList_map] at h1 h2 h3
  cases hxj : xs[j]? with
  | none => rw [hxj] at h2; cases h2
  | some y =>
    cases hlj : l[j]? with
    | none => rw [hlj] at h1; cases h1
    | some z =>
      rw [hxj] at h2 h3; rw [hlj] at h1 h3
      simp only [Option.map_some, Option.some.injEq] at h1 h2 h3
      subst h1; subst h2
      exact ev_toX h h3

theorem run_callFunc {f : Nat} (hf : enters P f = true) (args : Array Value) : (callFunc f args).run P w = .ok (.enter f args) w := by
  unfold enters at hf
  split at hf
  · rename_i fn hfn
    simp only [Bool.and_eq_true, Bool.not_eq_true', Option.isSome_iff_exists] at hf
    obtain ⟨⟨b, hb⟩, hn⟩ := hf
    simp [callFunc, hfn, hb, hn]
    simpa using hn
  · cases hf

theorem calls_wp (h : Rel cx μ σ a w) (hd : ∀ d, o.dst = some d → d < cx.n) {f : Nat} {args : Array Value} (hr : (execOp a.eval o).run P w = .ok (.enter f args) w) {d : Nat} {avs : List AV}
    (hv : avs.length = args.toList.length ∧ ∀ (j : Nat) (x : AV) (v : Value), avs[j]? = some x → args.toList[j]? = some v → RepV (RCl cx μ σ w) x v) {K : Eff → Prop} (hc : callWp P cx.pk σ d f avs K)
    {Kw : Act → World → Prop} {Q : Exit → Act → World → Prop} (hK : ∀ e μ' a' w', K e → Rel cx μ' (σ.put o.dst e) a' w' → Kw a' w') : o.wp P a w Kw Q := by
  unfold Oper.wp
  rw [hr]
  have := call_sound h hd hv hc
  simp only [Array.toArray_toList] at this
  refine Calls.mono this ?_
  rintro e w' ⟨v, ef, μ', rfl, h1, h2⟩
  exact hK _ _ _ _ h1 h2

theorem op_sound (h : Rel cx μ σ a w) (hd : ∀ d, o.dst = some d → d < cx.n) {aop : AOp} (hc : compOp P o.op = some aop) {d : Nat} {K : Eff → Prop} (hs : opWp P cx.pk σ d aop K)
    {Kw : Act → World → Prop} {Q : Exit → Act → World → Prop} (hK : ∀ e μ' a' w', K e → Rel cx μ' (σ.put o.dst e) a' w' → Kw a' w') : o.wp P a w Kw Q := by
  by_cases hmap : callTag aop = 0
  · have hs' : ∃ e, det σ d aop = some e ∧ K e := by
      cases aop <;> first | exact hs | simp [callTag] at hmap
    obtain ⟨e, h1, h2⟩ := hs'
    exact (det_all h hd hc h1).wp fun μ' a' w' h3 => hK e μ' a' w' h2 h3
  · -- calls
    have hcall : ∀ c : Call, o.op = .call c → compCall P c = some aop → o.wp P a w Kw Q := by
      intro c ho hc
      unfold compCall at hc
      split at hc
      · rename_i b hb
        -- builtins
        unfold compBuiltin at hc
        split at hc
        · split at hc <;> first
            | (simp only [Option.some.injEq] at hc; subst hc; simp [callTag] at hmap; done)
            | (split at hc <;> first | (simp only [Option.some.injEq] at hc; subst hc; simp [callTag] at hmap; done) | cases hc)
            | (simp only [Option.some.injEq] at hc; subst hc; skip)
            | cases hc
        · rename_i x t hxs hts
          split at hc
          · rename_i e ht
            simp only [Option.some.injEq] at hc
            subst hc
            simp only [opWp] at hs
            split at hs
            · rename_i hev
              obtain ⟨y, hy, hyx⟩ := args1 hxs
              have hty : c.argTypes = #[t] := arr1 hts
              have h1 := ev_toX h hyx
              rw [hev] at h1
              generalize hz : a.eval y = z at h1
              have hcc : c = { callee := .builtin .cap, args := #[y], argTypes := #[t] } := by
                cases c; simp only at hb hy hty; subst hb; subst hy; subst hty; rfl
              subst hcc
              cases rv_one h1 with
              | nils ad =>
                refine (goes_val (P := P) h hd (v := .one (.d (.int .i64 0))) (u := .int .i64 0) ?_ rint).wp fun μ' a' w' h3 => hK _ μ' a' w' hs h3
                simp [execOp, ho, resolve, invoke, builtin, hz, Builtin.cap_, run_underlying ht, goInt]
            · exact hs.elim
          · cases hc
        · split at hc
          · split at hc
            · obtain ⟨i, _, h1⟩ := bind_some' hc
              split at h1
              · simp only [Option.some.injEq] at h1; subst h1; simp [callTag] at hmap
              · cases h1
            · cases hc
          · cases hc
        · simp only [Option.some.injEq] at hc; subst hc; simp [callTag] at hmap
        · simp only [Option.some.injEq] at hc; subst hc; simp [callTag] at hmap
        · cases hc
      · rename_i f hf
        split at hc
        · rename_i fn hfn
          split at hc
          · rename_i hen
            obtain ⟨l, hl, rfl⟩ := Option.map_eq_some_iff.1 hc
            have he : enters P f = true := by simp only [enters, hfn]; exact hen
            refine calls_wp h hd (f := f) (args := c.args.map a.eval) ?_ (args_rel h hl) hs hK
            have := run_callFunc (w := w) he (c.args.map a.eval)
            simp [execOp, ho, resolve, hf, Act.eval, Deferred.ofValue, invoke, this]
          · cases hc
        · cases hc
      · rename_i t hf
        obtain ⟨l, hl, rfl⟩ := Option.map_eq_some_iff.1 hc
        have h1 := ev_toX h (x := .tmp t) (ax := .t t) rfl
        simp only [opWp] at hs
        split at hs
        · rename_i f caps hev
          rw [hev] at h1
          generalize hz : a.eval (.tmp t) = z at h1
          cases rv_one h1 with
          | fn fv hlc hcc hcr =>
            rename_i vs
            obtain ⟨a1, a2⟩ := args_rel h hl
            refine calls_wp h hd (f := f) (args := c.args.map a.eval ++ vs) ?_ ?_ hs.2 hK
            · have := run_callFunc (w := w) hs.1 (c.args.map a.eval ++ vs)
              simp [execOp, ho, resolve, hf, hz, Deferred.ofValue, invoke, this]
            · refine ⟨by simp only [List.length_append, List.length_map, Array.toList_append, Array.length_toList, hlc] at a1 ⊢; omega, fun j x v hj hv => ?_⟩
              rw [Array.toList_append] at hv
              rcases Nat.lt_or_ge j (l.map σ.ev).length with hlt | hge
              · rw [List.getElem?_append_left hlt] at hj
                rw [List.getElem?_append_left (by omega)] at hv
                exact a2 j x v hj hv
              · rw [List.getElem?_append_right hge] at hj
                rw [List.getElem?_append_right (by omega), ← a1] at hv
                rw [List.getElem?_map] at hj
                cases hcj : caps[j - (l.map σ.ev).length]? with
                | none => rw [hcj] at hj; cases hj
                | some cc =>
                  rw [hcj] at hj; cases hj
                  have h5 := hcc _ cc hcj
                  have h6 := hcr _ cc hcj
                  rw [Array.getElem?_toList, h5] at hv
                  cases hv
                  exact .one _ _ h6 h6.one
        · rename_i f caps hev
          rw [hev] at h1
          generalize hz : a.eval (.tmp t) = z at h1
          cases rv_one h1 with
          | d hd2 =>
            cases hd2 with
            | fn _ _ vs fv hlc hcc hcr =>
              obtain ⟨a1, a2⟩ := args_rel h hl
              refine calls_wp h hd (f := f) (args := c.args.map a.eval ++ vs) ?_ ?_ hs.2 hK
              · have := run_callFunc (w := w) hs.1 (c.args.map a.eval ++ vs)
                simp [execOp, ho, resolve, hf, hz, Deferred.ofValue, invoke, this]
              · refine ⟨by simp only [List.length_append, List.length_map, Array.toList_append, Array.length_toList, hlc] at a1 ⊢; omega, fun j x v hj hv => ?_⟩
                rw [Array.toList_append] at hv
                rcases Nat.lt_or_ge j (l.map σ.ev).length with hlt | hge
                · rw [List.getElem?_append_left hlt] at hj
                  rw [List.getElem?_append_left (by omega)] at hv
                  exact a2 j x v hj hv
                · rw [List.getElem?_append_right hge] at hj
                  rw [List.getElem?_append_right (by omega), ← a1] at hv
                  rw [List.getElem?_map] at hj
                  cases hcj : caps[j - (l.map σ.ev).length]? with
                  | none => rw [hcj] at hj; cases hj
                  | some cc =>
                    rw [hcj] at hj; cases hj
                    have h5 := hcc _ cc hcj
                    have h6 := hcr _ cc hcj
                    rw [Array.getElem?_toList, h5] at hv
                    cases hv
                    exact .one _ _ (.d h6) h6.one
        · exact hs.elim
      · cases hc
    by_cases hop : ∃ c, o.op = .call c
    · obtain ⟨c, ho⟩ := hop
      exact hcall c ho (by rw [ho] at hc; exact hc)
    by_cases hnx : ∃ x b, o.op = .next x b
    · obtain ⟨x, b, ho⟩ := hnx
      rw [ho] at hc
      cases b with
      | true => simp [compOp] at hc
      | false =>
        simp only [compOp] at hc
        obtain ⟨ax, hx, rfl⟩ := Option.map_eq_some_iff.1 hc
        simp only [opWp] at hs
        split at hs
        · rename_i k q hev
          obtain ⟨hq, ka, va, left, cur, hit, h1, h2⟩ := hs
          rcases go_nxt (P := P) h hd ho hx hev hq hit with ⟨h3, h4⟩ | ⟨i, e, h3, h4⟩
          · exact h4.wp fun μ' a' w' h5 => hK _ μ' a' w' (h1 h3) h5
          · exact h4.wp fun μ' a' w' h5 => hK _ μ' a' w' (h2 i e h3) h5
        · exact hs.elim
    by_cases hbn : ∃ op' t x y t', o.op = .binOp op' t x y t'
    · obtain ⟨op', t, x, y, t', ho⟩ := hbn
      rw [ho] at hc
      simp only [compOp] at hc
      split at hc
      · rename_i ax ay hx hy
        rcases bin_tag hc with h0 | ⟨⟨e, ht⟩, rfl, rfl, rfl⟩
        · exact absurd h0 hmap
        have hyv : a.eval y = .slice none 0 0 := by
          cases y with
          | const v =>
            simp only [toX, Option.map_eq_some_iff, AX.c.injEq, exists_eq_right] at hy
            show v = _
            unfold toK at hy
            split at hy <;> first | (cases hy; done) | rfl
          | _ => simp [toX] at hy
        have key : ∀ (ad : Option Addr) (n cap : Nat), a.eval x = .slice ad n cap → Goes P o cx σ a w (.one (.d (.bool ad.isNone)), []) := fun ad n cap hxv => by
          refine goes_val (P := P) h hd (v := .one (.d (.bool ad.isNone))) (u := .bool ad.isNone) ?_ rbool
          have eN : ∀ N : Nat, (Op.equalIn (N + 1) t (.slice ad n cap) (.slice none 0 0)).run P w = .ok ad.isNone w := fun N => by
            cases ad <;> simp [Op.equalIn, run_underlying ht]
          have e2 : (Op.equal t (.slice ad n cap) (.slice none 0 0)).run P w = .ok ad.isNone w := eN 9999
          have e3 : (eqGuard .eql t x y (.slice ad n cap) (.slice none 0 0)).run P w = .ok () w := by
            simp [eqGuard]
          simp only [execOp, ho, hxv, hyv, Sem.run_bind, e3, Go.binOp, e2, Sem.run_pure, Result.andThen_ok]
        have h1 := ev_toX h hx
        simp only [opWp] at hs
        split at hs
        · rename_i hev
          rw [hev] at h1
          generalize hz : a.eval x = z at h1
          cases rv_one h1 with
          | nils ad => exact (key _ _ _ hz).wp fun μ' a' w' h3 => hK _ μ' a' w' (hs _) h3
        · rename_i xs hev
          rw [hev] at h1
          generalize hz : a.eval x = z at h1
          cases rv_one h1 with
          | d hd2 =>
            cases hd2 with
            | sl0 ad cap => exact (key _ _ _ hz).wp fun μ' a' w' h3 => hK _ μ' a' w' (hs _ fun _ => rfl) h3
            | sl _ ad n cap sz f => exact (key _ _ _ hz).wp fun μ' a' w' h3 => hK _ μ' a' w' (hs _ fun hb => by simp at hb) h3
        · exact hs.elim
      · cases hc
    · exact absurd (tag_zero hc (fun c hcc => hop ⟨c, hcc⟩) (fun x b hxb => hnx ⟨x, b, hxb⟩) fun op' t x y t' hb => hbn ⟨op', t, x, y, t', hb⟩) hmap

theorem rv_undef {R : AC → Value → Prop} : RepV R (.tup []) undef := .tup [] #[] rfl (by simp)

theorem tup_nil {R : AC → Value → Prop} {v : Value} (h : RepV R (.tup []) v) : v = .tuple #[] := by
  cases h with
  | tup _ vs hl _ =>
    have : vs.size = 0 := by simpa using hl.symm
    rw [Array.eq_empty_of_size_eq_zero this]

/-- One step of a region, wanted or not. -/
theorem step_sound (h : Rel cx μ σ a w) {ops : Array Oper} {K : ASt → Prop} (hs : stepWp P cx.pk σ (compR P cx.n ops o) K) {Kw : Act → World → Prop} {Q : Exit → Act → World → Prop}
    (hK : ∀ σ' μ' a' w', K σ' → Rel cx μ' σ' a' w' → Kw a' w') : if Region.wanted o (yielded ops a.tmps) then o.wp P a w Kw Q else Kw (a.put o.dst undef) w := by
  have hop : ∀ K', opWp P cx.pk σ (o.dst.getD 999999) (if dstOk cx.n o.dst then (compOp P o.op).getD (.bad 0) else .bad 2) K' → (∀ e, K' e → K (σ.put o.dst e)) → o.wp P a w Kw Q := by
    intro K' hw hk
    by_cases hd : dstOk cx.n o.dst = true
    · rw [if_pos hd] at hw
      have hd' : ∀ d, o.dst = some d → d < cx.n := fun d hdd => by rw [hdd] at hd; simpa [dstOk] using hd
      cases hc : compOp P o.op with
      | none =>
        rw [hc] at hw
        obtain ⟨e, he, _⟩ := hw
        cases he
      | some aop =>
        rw [hc] at hw
        exact op_sound h hd' hc hw fun e μ' a' w' h1 h2 => hK _ _ _ _ (hk e h1) h2
    · rw [if_neg hd] at hw
      obtain ⟨e, he, _⟩ := hw
      cases he
  unfold compR at hs
  cases hg : o.guard with
  | none =>
    simp only [hg, stepWp] at hs
    have hw : Region.wanted o (yielded ops a.tmps) = true := by simp [Region.wanted, hg]
    rw [if_pos hw]
    exact hop _ hs fun e he => he
  | some gb =>
    obtain ⟨g, b⟩ := gb
    simp only [hg] at hs
    cases hsl : (ops[g]?).bind (·.dst) with
    | none =>
      simp only [hsl, stepWp] at hs
      obtain ⟨e, he, _⟩ := hs
      cases he
    | some s =>
      simp only [hsl] at hs
      by_cases hd : (decide (s < cx.n) && dstOk cx.n o.dst) = true
      · rw [if_pos hd] at hs
        simp only [Bool.and_eq_true, decide_eq_true_eq] at hd
        have hslt : s < a.tmps.size := Nat.lt_of_lt_of_le hd.1 h.sz
        have hts := h.tm s
        have hgd : a.tmps.getD s undef = a.tmps[s] := by simp [hslt]
        have hyd : yielded ops a.tmps g = match a.tmps[s] with | .bool b => some b | _ => none := by
          simp only [yielded, hsl, Option.bind_some, Array.getElem?_eq_getElem hslt]
          cases a.tmps[s] <;> rfl
        have hdd : ∀ d, o.dst = some d → d < cx.n := fun d hdd => by have := hd.2; rw [hdd] at this; simpa [dstOk] using this
        simp only [stepWp] at hs
        rw [hgd] at hts
        split at hs
        · rename_i b' hev
          rw [hev] at hts
          have hv := rc_bool (rv_one hts)
          rw [hv] at hyd
          simp only at hyd
          by_cases hbb : b' = b
          · rw [if_pos hbb] at hs
            have hw : Region.wanted o (yielded ops a.tmps) = true := by simp [Region.wanted, hg, hyd, hbb]
            rw [if_pos hw]
            exact hop _ hs fun e he => he
          · rw [if_neg hbb] at hs
            have hw : ¬ Region.wanted o (yielded ops a.tmps) = true := by simp [Region.wanted, hg, hyd, hbb]
            rw [if_neg hw]
            exact hK _ _ _ _ hs (h.val hdd rv_undef)
        · rename_i hev
          rw [hev] at hts
          rw [tup_nil hts] at hyd
          simp only at hyd
          have hw : ¬ Region.wanted o (yielded ops a.tmps) = true := by simp [Region.wanted, hg, hyd]
          rw [if_neg hw]
          exact hK _ _ _ _ hs (h.val hdd rv_undef)
        · exact hs.elim
      · rw [if_neg hd] at hs
        simp only [stepWp] at hs
        obtain ⟨e, he, _⟩ := hs
        cases he

theorem steps_sound {ops : Array Oper} {Q : Exit → Act → World → Prop} {K : ASt → Prop} (hK : ∀ σ' μ' a' w', K σ' → Rel cx μ' σ' a' w' → Q .normal a' w') : ∀ (l : List Nat) {μ : Nat → Option Nat} {σ : ASt} {a : Act} {w : World}, (∀ i ∈ l, i < ops.size) → Rel cx μ σ a w →
    stepsWp P cx.pk (l.map fun i => compR P cx.n ops (ops.getD i default)) σ K → wpOps P ops Q l a w := by
  intro l
  induction l with
  | nil => intro μ σ a w _ h hs; exact hK _ _ _ _ hs h
  | cons i l ih =>
    intro μ σ a w hl h hs
    have hi : i < ops.size := hl i (by simp)
    simp only [List.map_cons, stepsWp] at hs
    have := step_sound (Q := Q) (Kw := wpOps P ops Q l) h hs fun σ' μ' a' w' h1 h2 => ih (fun j hj => hl j (by simp [hj])) h2 h1
    have hget : ops[i]? = some (ops.getD i default) := by simp [hi]
    generalize ops.getD i default = r at this hget
    simp only [wpOps, hget]
    by_cases hw : Region.wanted r (yielded ops a.tmps) = true
    · rw [if_pos hw] at this ⊢; exact .inl this
    · rw [if_neg hw] at this ⊢; exact this

end
end Go.Proofs.Ytnpdeecoejabgaa
