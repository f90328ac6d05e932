/- THE ABSTRACT MACHINE, 14: every operation that has one outcome. -/
import Derived.Test.YtnpdeecoejabgaaKL
set_option linter.unusedSimpArgs false
set_option linter.unusedVariables false
namespace Go.Proofs.Ytnpdeecoejabgaa
open Go Go.RowKit

section
variable {P : Program} {o : Oper} {cx : Ctx} {μ : Nat → Option Nat} {σ : ASt} {a : Act} {w : World}

theorem bind_some' {α β : Type} {x : Option α} {f : α → Option β} {b : β} (h : x.bind f = some b) : ∃ a, x = some a ∧ f a = some b := Option.bind_eq_some_iff.1 h

theorem parts_struct {fs : Array Field} {ps : Array (Nat × Operand)} {l : List (Nat × Nat × AX)}
    (h : allSome (ps.toList.map fun p => match fs[p.1]?, toX p.2 with | some f, some x => (P.info? f.type).map fun j => (f.offset, j.size, x) | _, _ => none) = some l) :
    ps.size = l.length ∧ ∀ (j : Nat) (p : Nat × Operand) (q : Nat × Nat × AX), ps[j]? = some p → l[j]? = some q → ∃ f i, fs[p.1]? = some f ∧ P.info? f.type = some i ∧ q.1 = f.offset ∧ q.2.1 = i.size ∧ toX p.2 = some q.2.2 := by
  have hs := allSome_spec h
  have hl : ps.size = l.length := by simpa using congrArg List.length hs
  refine ⟨hl, fun j p q hp hq => ?_⟩
  have h1 := congrArg (·[j]?) hs
  simp only [List.getElem?_map, Array.getElem?_toList, hp, hq, Option.map_some, Option.some.injEq] at h1
  split at h1
  · rename_i f x hf hx
    simp only [Option.map_eq_some_iff] at h1
    obtain ⟨i, hi, rfl⟩ := h1
    exact ⟨f, i, hf, hi, rfl, rfl, hx⟩
  · simp at h1

theorem parts_arr {n : Nat} {ps : Array (Nat × Operand)} {l : List (Nat × Nat × AX)} (h : allSome (ps.toList.map fun p => (toX p.2).map fun x => (p.1 * n, n, x)) = some l) :
    ps.size = l.length ∧ ∀ (j : Nat) (p : Nat × Operand) (q : Nat × Nat × AX), ps[j]? = some p → l[j]? = some q → q.1 = p.1 * n ∧ q.2.1 = n ∧ toX p.2 = some q.2.2 := by
  have hs := allSome_spec h
  have hl : ps.size = l.length := by simpa using congrArg List.length hs
  refine ⟨hl, fun j p q hp hq => ?_⟩
  have h1 := congrArg (·[j]?) hs
  simp only [List.getElem?_map, Array.getElem?_toList, hp, hq, Option.map_some, Option.some.injEq, Option.map_eq_some_iff] at h1
  obtain ⟨x, hx, rfl⟩ := h1
  exact ⟨rfl, rfl, hx⟩

theorem parts_bsl {ps : Array (Nat × Operand)} {l : List (Nat × AX)} (h : allSome (ps.toList.map fun p => (toX p.2).map fun x => (p.1, x)) = some l) :
    ps.size = l.length ∧ ∀ (j : Nat) (p : Nat × Operand) (q : Nat × AX), ps[j]? = some p → l[j]? = some q → p.1 = q.1 ∧ toX p.2 = some q.2 := by
  have hs := allSome_spec h
  have hl : ps.size = l.length := by simpa using congrArg List.length hs
  refine ⟨hl, fun j p q hp hq => ?_⟩
  have h1 := congrArg (·[j]?) hs
  simp only [List.getElem?_map, Array.getElem?_toList, hp, hq, Option.map_some, Option.some.injEq, Option.map_eq_some_iff] at h1
  obtain ⟨x, hx, rfl⟩ := h1
  exact ⟨rfl, hx⟩

theorem mapM_places : ∀ (fs : List Field), (∀ f ∈ fs, (P.info? f.type).isSome = true) → ∃ ps, fs.mapM (fun f => (P.info? f.type).map fun i => (f.offset, i.size)) = some ps ∧ ps.length = fs.length ∧
    ∀ (j : Nat) (f : Field) (i : TypeInfo), fs[j]? = some f → P.info? f.type = some i → ps[j]? = some (f.offset, i.size)
  | [], _ => ⟨[], rfl, rfl, by simp⟩
  | f :: fs, h => by
    obtain ⟨i, hi⟩ := Option.isSome_iff_exists.1 (h f (by simp))
    obtain ⟨ps, h1, h2, h3⟩ := mapM_places fs fun g hg => h g (by simp [hg])
    refine ⟨(f.offset, i.size) :: ps, by simp [List.mapM_cons, hi, h1], by simp [h2], fun j g i' hj hi' => ?_⟩
    cases j with
    | zero => simp at hj; subst hj; rw [hi] at hi'; cases hi'; rfl
    | succ j => simpa using h3 j g i' (by simpa using hj) hi'

theorem go_build (h : Rel cx μ σ a w) (hd : ∀ d, o.dst = some d → d < cx.n) {t : TypeId} {ps : Array (Nat × Operand)} (ho : o.op = .build t ps) {aop : AOp} (hc : compOp P (.build t ps) = some aop) {d : Nat} {e : Eff} (he : det σ d aop = some e) : Goes P o cx σ a w e := by
  simp only [compOp] at hc
  split at hc
  · rename_i i fs hi hu
    obtain ⟨l, h1, h2⟩ := bind_some' hc
    split at h2
    · rename_i hcond
      simp only [Option.some.injEq] at h2
      subst h2
      simp only [det, Option.map_eq_some_iff] at he
      obtain ⟨cs, h3, rfl⟩ := he
      rw [Bool.and_eq_true, List.all_eq_true] at hcond
      obtain ⟨pl, h4, h5, h6⟩ := mapM_places fs.toList hcond.2
      obtain ⟨h7, h8⟩ := parts_struct h1
      refine go_bld h hd ho hi (fun k => pl[k]?) (fun z j hj hz vs => ?_) h7 (fun j p q hp hq => ?_) h3
      · simp only [Program.built, hj, hu, hz, h4]
        simp
      · obtain ⟨f, i', e1, e2, e3, e4, e5⟩ := h8 j p q hp hq
        exact ⟨by rw [h6 p.1 f i' (by simpa using e1) e2, e3, e4], e5⟩
    · simp at h2
  · rename_i i len e' hi hu
    obtain ⟨j', hj', h1⟩ := bind_some' hc
    obtain ⟨l, h2, h3⟩ := bind_some' h1
    split at h3
    · simp only [Option.some.injEq] at h3
      subst h3
      simp only [det, Option.map_eq_some_iff] at he
      obtain ⟨cs, h3, rfl⟩ := he
      obtain ⟨h7, h8⟩ := parts_arr h2
      refine go_bld h hd ho hi (fun k => some (k * j'.size, j'.size)) (fun z j hj hz vs => ?_) h7 (fun j p q hp hq => ?_) h3
      · simp only [Program.built, hj, hu, hz, hj']
      · obtain ⟨e1, e2, e3⟩ := h8 j p q hp hq
        exact ⟨by rw [e1, e2], e3⟩
    · simp at h3
  · simp at hc


theorem arr1 {α : Type} {xs : Array α} {a : α} (h : xs.toList = [a]) : xs = #[a] := by cases xs; simp at h; subst h; rfl
theorem arr2 {α : Type} {xs : Array α} {a b : α} (h : xs.toList = [a, b]) : xs = #[a, b] := by cases xs; simp at h; subst h; rfl

theorem args1 {xs : Array Operand} {ax : AX} (hx : compArgs xs = some [ax]) : ∃ x, xs = #[x] ∧ toX x = some ax := by
  have h1 := compArgs_spec hx
  obtain ⟨xs⟩ := xs
  cases xs with
  | nil => simp at h1
  | cons x r =>
    simp only [List.map_cons, List.map_nil, List.cons.injEq, List.map_eq_nil_iff] at h1
    obtain ⟨h2, rfl⟩ := h1
    exact ⟨x, rfl, h2⟩
theorem args2 {xs : Array Operand} {ax ay : AX} (hx : compArgs xs = some [ax, ay]) : ∃ x y, xs = #[x, y] ∧ toX x = some ax ∧ toX y = some ay := by
  have h1 := compArgs_spec hx
  obtain ⟨xs⟩ := xs
  cases xs with
  | nil => simp at h1
  | cons x r =>
    cases r with
    | nil => simp at h1
    | cons y r =>
      simp only [List.map_cons, List.map_nil, List.cons.injEq, List.map_eq_nil_iff] at h1
      obtain ⟨h2, h3, rfl⟩ := h1
      exact ⟨x, y, rfl, h2, h3⟩

theorem go_builtin (h : Rel cx μ σ a w) (hd : ∀ d, o.dst = some d → d < cx.n) {b : Builtin} {xs : Array Operand} {ts : Array TypeId} (ho : o.op = .call { callee := .builtin b, args := xs, argTypes := ts }) {aop : AOp}
    (hc : compBuiltin P b xs ts = some aop) (hm : ∀ x, aop ≠ .lenm x) (hcp : ∀ x, aop ≠ .cap x) {d : Nat} {e : Eff} (he : det σ d aop = some e) : Goes P o cx σ a w e := by
  unfold compBuiltin at hc
  split at hc
  · -- len
    rename_i ax t hx hts
    obtain ⟨x, rfl, hx'⟩ := args1 hx
    have := arr1 hts
    subst this
    split at hc
    · rename_i ht
      simp only [Option.some.injEq] at hc; subst hc
      simp only [det] at he
      split at he
      · rename_i s hs
        simp only [Option.some.injEq] at he; subst he
        exact go_lent h hd ho hx' hs ht
      · simp at he
    · rename_i el ht
      simp only [Option.some.injEq] at hc; subst hc
      simp only [det] at he
      split at he
      · rename_i xs hs
        simp only [Option.some.injEq] at he; subst he
        exact go_lens h hd ho hx' (.inl ⟨xs, hs, rfl⟩) ht
      · rename_i k q lo n hs
        simp only [Option.some.injEq] at he; subst he
        exact go_lens h hd ho hx' (.inr (.inl ⟨_, _, _, hs⟩)) ht
      · rename_i hs
        simp only [Option.some.injEq] at he; subst he
        exact go_lens h hd ho hx' (n := 0) (.inr (.inr ⟨hs, rfl⟩)) ht
      · simp at he
    · rename_i n el ht
      simp only [Option.some.injEq] at hc; subst hc
      simp only [det, Option.some.injEq] at he
      subst he
      exact go_lenc h hd ho (.inl ht)
    · rename_i p ht
      split at hc
      · rename_i n el hp
        simp only [Option.some.injEq] at hc; subst hc
        simp only [det, Option.some.injEq] at he
        subst he
        exact go_lenc h hd ho (.inr ⟨p, ht, hp⟩)
      · simp at hc
    · simp only [Option.some.injEq] at hc; subst hc
      exact absurd rfl (hm ax)
    · simp at hc
  · -- cap
    rename_i ax t hx hts
    split at hc
    · simp only [Option.some.injEq] at hc; subst hc
      exact absurd rfl (hcp ax)
    · simp at hc
  · -- append
    rename_i as ax t u hx hts
    obtain ⟨s, x, rfl, hs, hx'⟩ := args2 hx
    have := arr2 hts
    subst this
    split at hc
    · rename_i el ht
      split at hc
      · rename_i htu
        have htu' : t = u := by simpa using htu
        subst htu'
        obtain ⟨i, hi, h1⟩ := bind_some' hc
        split at h1
        · rename_i hpos
          simp only [Option.some.injEq] at h1; subst h1
          simp only [det] at he
          split at he
          · rename_i xc hx1
            split at he
            case h_2 => simp at he
            rename_i new hnew
            split at he
            · rename_i hsv
              split at he
              · rename_i hbb
                simp only [Option.some.injEq] at he; subst he
                have := go_app h hd ho hs hx' ht hi hpos hx1 hnew (d := d) (q := σ.g d) (n := 0) (old := []) (.inl ⟨hsv, rfl, rfl, rfl⟩) (by simpa using hbb.1) (by simpa using hbb.2)
                simpa using this
              · simp at he
            · rename_i k q n hsv
              split at he
              · rename_i hq
                split at he
                · rename_i E' sz' xs hrow
                  split at he
                  · rename_i hcond
                    simp only [Option.some.injEq] at he; subst he
                    obtain ⟨rfl, rfl, hle, hbb, h63⟩ := hcond
                    exact go_app h hd ho hs hx' ht hi hpos hx1 hnew (.inr ⟨xs, hsv, hq, hrow, hle, rfl⟩) hbb h63
                  · simp at he
                · simp at he
              · simp at he
            · simp at he
          · simp at he
        · simp at h1
      · simp at hc
    · simp at hc
  · -- min
    rename_i ax l hx
    simp only [Option.some.injEq] at hc; subst hc
    simp only [det, List.map_cons] at he
    obtain ⟨v, hv, rfl⟩ := Option.map_eq_some_iff.1 he
    exact go_mm h hd (m := false) ho hx rfl hv
  · rename_i ax l hx
    simp only [Option.some.injEq] at hc; subst hc
    simp only [det, List.map_cons] at he
    obtain ⟨v, hv, rfl⟩ := Option.map_eq_some_iff.1 he
    exact go_mm h hd (m := true) ho hx rfl hv
  · simp at hc


theorem ldv {agg : Bool} {n : Nat} {cs : List AC} {e : Eff} (h : (ldVal agg n cs).map (fun v => (v, ([] : List (Nat × Nat × AO)))) = some e) : ∃ v, ldVal agg n cs = some v ∧ e = (v, []) := by
  obtain ⟨v, h1, rfl⟩ := Option.map_eq_some_iff.1 h
  exact ⟨v, h1, rfl⟩

/-- The operations on maps, and those that are asked elsewhere. -/
def isMapOp : AOp → Bool
  | .lkp .. | .mup .. | .mkm _ | .rng _ | .nxt _ | .ent _ | .lenm _ | .cap _ | .call .. | .callv .. => true
  | _ => false

theorem det_sound (h : Rel cx μ σ a w) (hd : ∀ d, o.dst = some d → d < cx.n) {aop : AOp} (hc : compOp P o.op = some aop) (hm : isMapOp aop = false) {d : Nat} {e : Eff} (he : det σ d aop = some e) : Goes P o cx σ a w e := by
  cases ho : o.op with
  | move x =>
    rw [ho] at hc
    simp only [compOp, Option.map_eq_some_iff] at hc
    obtain ⟨ax, hx, rfl⟩ := hc
    simp only [det, Option.some.injEq] at he; subst he
    exact go_mov h hd (.inl ho) hx
  | assign x =>
    rw [ho] at hc
    simp only [compOp, Option.map_eq_some_iff] at hc
    obtain ⟨ax, hx, rfl⟩ := hc
    simp only [det, Option.some.injEq] at he; subst he
    exact go_mov h hd (.inr ho) hx
  | pick c x y =>
    rw [ho] at hc
    simp only [compOp] at hc
    split at hc
    · rename_i ac ax ay h1 h2 h3
      simp only [Option.some.injEq] at hc; subst hc
      simp only [det, Option.map_eq_some_iff] at he
      obtain ⟨t, ht, rfl⟩ := he
      exact go_pick h hd ho h1 h2 h3 ht
    · simp at hc
  | alloc el =>
    rw [ho] at hc
    simp only [compOp] at hc
    obtain ⟨i, hi, h1⟩ := bind_some' hc
    split at h1
    · rename_i hpos
      simp only [Option.some.injEq] at h1; subst h1
      simp only [det] at he
      simp only [Option.some.injEq] at he; subst he
      exact go_alloc h hd ho hi hpos
    · simp at h1
  | box el x =>
    rw [ho] at hc
    simp only [compOp] at hc
    split at hc
    · rename_i ax i hx hi
      split at hc
      · rename_i hpos
        simp only [Option.some.injEq] at hc; subst hc
        simp only [det] at he
        split at he
        · rename_i cs hcs
          split at he
          · rename_i hcond
            simp only [Option.some.injEq] at he; subst he
            exact go_box h hd ho hx hpos hcs hcond.1
          · simp at he
        · simp at he
      · simp at hc
    · simp at hc
  | build t ps =>
    rw [ho] at hc
    exact go_build h hd ho hc he
  | buildSlice t n ps =>
    rw [ho] at hc
    simp only [compOp] at hc
    split at hc
    · rename_i el ht
      obtain ⟨i, hi, h1⟩ := bind_some' hc
      split at h1
      · rename_i hcond
        simp only [Bool.and_eq_true, decide_eq_true_eq] at hcond
        obtain ⟨l, hl, rfl⟩ := Option.map_eq_some_iff.1 h1
        simp only [det] at he
        obtain ⟨xs, hxs, rfl⟩ := Option.map_eq_some_iff.1 he
        obtain ⟨h7, h8⟩ := parts_bsl hl
        exact go_bsl h hd ho ht hi hcond.1 hcond.2 h7 h8 hxs
      · simp at h1
    · simp at hc
  | load t x =>
    rw [ho] at hc
    simp only [compOp] at hc
    split at hc
    · rename_i ax i u hx hi hu
      split at hc
      · rename_i hs
        simp only [Bool.or_eq_true, beq_iff_eq] at hs
        simp only [Option.some.injEq] at hc; subst hc
        simp only [det] at he
        split at he
        · rename_i cs hcs
          obtain ⟨v, hv, rfl⟩ := ldv he
          exact go_ld h hd ho hx hi hu hs (.inl ⟨cs, hcs, hv⟩)
        · rename_i k q m off hr
          split at he
          · rename_i hq
            split at he
            · rename_i l E sz xs hrow
              split at he
              · rename_i cs hcs
                obtain ⟨v, hv, rfl⟩ := ldv he
                exact go_ld h hd ho hx hi hu hs (.inr ⟨_, _, _, _, _, _, _, _, cs, hr, hq, hrow, hcs, hv⟩)
              · simp at he
            · simp at he
          · simp at he
        · simp at he
      · simp at hc
    · simp at hc
  | store t x y =>
    rw [ho] at hc
    simp only [compOp] at hc
    split at hc
    · rename_i ax ay i hx hy hi
      simp only [Option.some.injEq] at hc; subst hc
      simp only [det] at he
      split at he
      · rename_i k q m off vs hr hvs
        split at he
        · rename_i hq
          split at he
          · rename_i E sz xs hrow
            split at he
            · rename_i cs hcs
              split at he
              · rename_i hcond
                simp only [Option.some.injEq] at he; subst he
                exact go_st h hd ho hx hy hi hr hvs hq hrow hcs hcond.1 hcond.2
              · simp at he
            · simp at he
          · simp at he
        · simp at he
      · simp at he
    · simp at hc
  | nilCheck x =>
    rw [ho] at hc
    simp only [compOp, Option.map_eq_some_iff] at hc
    obtain ⟨ax, hx, rfl⟩ := hc
    simp only [det] at he
    split at he
    · rename_i cs hv
      simp only [Option.some.injEq] at he; subst he
      rw [← hv]; exact go_nck h hd ho hx (.inl ⟨cs, hv⟩)
    · rename_i k q i n hv
      simp only [Option.some.injEq] at he; subst he
      rw [← hv]; exact go_nck h hd ho hx (.inr (.inl ⟨_, _, _, _, hv⟩))
    · rename_i f cs hv
      simp only [Option.some.injEq] at he; subst he
      rw [← hv]; exact go_nck h hd ho hx (.inr (.inr (.inl ⟨_, _, hv⟩)))
    · rename_i f cs hv
      simp only [Option.some.injEq] at he; subst he
      rw [← hv]; exact go_nck h hd ho hx (.inr (.inr (.inr ⟨_, _, hv⟩)))
    · simp at he
  | binOp op t x y t' =>
    rw [ho] at hc
    simp only [compOp] at hc
    split at hc
    · rename_i ax ay hx hy
      unfold compBin at hc
      split at hc
      · simp only [Option.some.injEq] at hc; subst hc
        simp only [det, Option.map_eq_some_iff] at he
        obtain ⟨v, hv, rfl⟩ := he
        exact go_bin h hd ho hx hy hv
      · simp only [Option.some.injEq] at hc; subst hc
        simp only [det, Option.map_eq_some_iff] at he
        obtain ⟨v, hv, rfl⟩ := he
        exact go_bin h hd ho hx hy hv
      · rename_i hu
        split at hc
        all_goals first
          | (simp only [Option.some.injEq] at hc; subst hc
             simp only [det] at he
             split at he
             · rename_i p q hp hq
               simp only [Option.some.injEq] at he; subst he
               first | exact go_eqb (neg := false) h hd ho hx hy hu rfl hp hq | exact go_eqb (neg := true) h hd ho hx hy hu rfl hp hq
             · simp at he)
          | simp at hc
      · rename_i fs hu
        split at hc
        all_goals first
          | (rename_i ks hk
             split at hc
             · simp at hc
             · rename_i hg
               simp only [Option.some.injEq] at hc; subst hc
               simp only [det] at he
               split at he
               · rename_i cs ds hcs hds
                 split at he
                 · rename_i p q hp hq
                   obtain ⟨r, hr, rfl⟩ := Option.map_eq_some_iff.1 he
                   first | exact go_eqs (neg := false) h hd ho hx hy ⟨_, hu, rfl⟩ hk (by simpa using hg) rfl hcs hds hp hq hr | exact go_eqs (neg := true) h hd ho hx hy ⟨_, hu, rfl⟩ hk (by simpa using hg) rfl hcs hds hp hq hr
                 · simp at he
               · simp at he)
          | simp at hc
      · rename_i n el hu
        split at hc
        all_goals first
          | (rename_i ks hk
             split at hc
             · simp at hc
             · rename_i hg
               simp only [Option.some.injEq] at hc; subst hc
               simp only [det] at he
               split at he
               · rename_i cs ds hcs hds
                 split at he
                 · rename_i p q hp hq
                   obtain ⟨r, hr, rfl⟩ := Option.map_eq_some_iff.1 he
                   first | exact go_eqs (neg := false) h hd ho hx hy ⟨_, hu, rfl⟩ hk (by simpa using hg) rfl hcs hds hp hq hr | exact go_eqs (neg := true) h hd ho hx hy ⟨_, hu, rfl⟩ hk (by simpa using hg) rfl hcs hds hp hq hr
                 · simp at he
               · simp at he)
          | simp at hc
      · rename_i el hu
        split at hc
        · rename_i i hi
          split at hc
          · simp at hc
          · simp only [Option.some.injEq] at hc; subst hc
            simp only [det] at he
            split at he
            · rename_i e1 e2
              simp only [Option.some.injEq] at he; subst he
              exact go_eqp h hd (neg := false) ho hx hy hu (by simp) (r := true) (.inl ⟨e1, e2, rfl⟩)
            · rename_i e1 e2
              simp only [Option.some.injEq] at he; subst he
              exact go_eqp h hd (neg := false) ho hx hy hu (by simp) (r := false) (.inr (.inl ⟨e1, .inl ⟨_, _, _, _, e2⟩, rfl⟩))
            · rename_i e1 e2
              simp only [Option.some.injEq] at he; subst he
              exact go_eqp h hd (neg := false) ho hx hy hu (by simp) (r := false) (.inr (.inr ⟨.inl ⟨_, _, _, _, e1⟩, e2, rfl⟩))
            · rename_i e1 e2
              simp only [Option.some.injEq] at he; subst he
              exact go_eqp h hd (neg := false) ho hx hy hu (by simp) (r := false) (.inr (.inl ⟨e1, .inr ⟨_, e2⟩, rfl⟩))
            · rename_i e1 e2
              simp only [Option.some.injEq] at he; subst he
              exact go_eqp h hd (neg := false) ho hx hy hu (by simp) (r := false) (.inr (.inr ⟨.inr ⟨_, e1⟩, e2, rfl⟩))
            · simp at he
        · rename_i i hi
          split at hc
          · simp at hc
          · simp only [Option.some.injEq] at hc; subst hc
            simp only [det] at he
            split at he
            · rename_i e1 e2
              simp only [Option.some.injEq] at he; subst he
              exact go_eqp h hd (neg := true) ho hx hy hu (by simp) (r := true) (.inl ⟨e1, e2, rfl⟩)
            · rename_i e1 e2
              simp only [Option.some.injEq] at he; subst he
              exact go_eqp h hd (neg := true) ho hx hy hu (by simp) (r := false) (.inr (.inl ⟨e1, .inl ⟨_, _, _, _, e2⟩, rfl⟩))
            · rename_i e1 e2
              simp only [Option.some.injEq] at he; subst he
              exact go_eqp h hd (neg := true) ho hx hy hu (by simp) (r := false) (.inr (.inr ⟨.inl ⟨_, _, _, _, e1⟩, e2, rfl⟩))
            · rename_i e1 e2
              simp only [Option.some.injEq] at he; subst he
              exact go_eqp h hd (neg := true) ho hx hy hu (by simp) (r := false) (.inr (.inl ⟨e1, .inr ⟨_, e2⟩, rfl⟩))
            · rename_i e1 e2
              simp only [Option.some.injEq] at he; subst he
              exact go_eqp h hd (neg := true) ho hx hy hu (by simp) (r := false) (.inr (.inr ⟨.inr ⟨_, e1⟩, e2, rfl⟩))
            · simp at he
        · simp at hc
      · split at hc
        · simp only [Option.some.injEq] at hc; subst hc
          simp [det] at he
        · simp at hc
      · simp at hc
    · simp at hc
  | unOp op t x =>
    rw [ho] at hc
    simp only [compOp, Option.map_eq_some_iff] at hc
    obtain ⟨ax, hx, rfl⟩ := hc
    simp only [det] at he
    split at he
    · rename_i b hb
      simp only [Option.some.injEq] at he; subst he
      exact go_not h hd ho hx hb
    · rename_i k n hb
      simp only [Option.some.injEq] at he; subst he
      exact go_neg h hd ho hx hb
    · simp at he
  | convert s t x =>
    rw [ho] at hc
    simp only [compOp] at hc
    split at hc
    · rename_i ax k' k hx hs ht
      simp only [Option.some.injEq] at hc; subst hc
      simp only [det, Option.map_eq_some_iff] at he
      obtain ⟨n, hn, rfl⟩ := he
      exact go_cvi h hd ho hx hs ht hn
    · rename_i ax hx hs ht
      simp only [Option.some.injEq] at hc; subst hc
      simp only [det] at he
      split at he
      · rename_i b hb
        simp only [Option.some.injEq] at he; subst he
        exact go_cvs h hd ho hx hs ht hb
      · simp at he
    · simp at hc
  | makeFunc fn first cs =>
    rw [ho] at hc
    cases fn with
    | func f =>
      simp only [compOp] at hc
      split at hc
      · rename_i hf
        obtain ⟨l, hl, rfl⟩ := Option.map_eq_some_iff.1 hc
        simp only [det, Option.map_eq_some_iff] at he
        obtain ⟨r, hr, rfl⟩ := he
        have hr' := allSome_spec hr
        have hf' : first = #[] := by simpa using hf
        refine go_mkf h hd ho hf' hl ?_
        apply List.ext_getElem?
        intro j
        have h1 := congrArg (·[j]?) hr'
        simp only [List.getElem?_map] at h1 ⊢
        cases hlj : l[j]? with
        | none => rw [hlj] at h1; cases hrj : r[j]? with
          | none => rfl
          | some c => rw [hrj] at h1; simp at h1
        | some x =>
          rw [hlj] at h1
          cases hrj : r[j]? with
          | none => rw [hrj] at h1; simp at h1
          | some c =>
            rw [hrj] at h1
            simp only [Option.map_some, Option.some.injEq] at h1 ⊢
            unfold oneCell? at h1
            split at h1
            · rename_i e1; simp only [Option.some.injEq] at h1; subst h1; exact e1
            · simp at h1
      · simp at hc
    | _ => simp [compOp] at hc
  | makeSlice t x y =>
    rw [ho] at hc
    simp only [compOp] at hc
    split at hc
    · rename_i ax ay el hx hy ht
      obtain ⟨i, hi, h1⟩ := bind_some' hc
      split at h1
      · rename_i hpos
        simp only [Option.some.injEq] at h1; subst h1
        simp only [det] at he
        split at he
        · rename_i n c hn hcc
          split at he
          · rename_i hcond
            simp only [Option.some.injEq] at he; subst he
            obtain ⟨h0, rfl, hb, h63, _⟩ := hcond
            exact go_msl h hd ho hx hy ht hi hpos hn hcc h0 hb h63
          · simp at he
        · simp at he
      · simp at h1
    · simp at hc
  | slice t x lo hi mx =>
    rw [ho] at hc
    simp only [compOp] at hc
    split at hc
    · rename_i el ax alo ahi amx ht hx hlo hhi hmx
      obtain ⟨j, hj, rfl⟩ := Option.map_eq_some_iff.1 hc
      simp only [det] at he
      split at he
      · rename_i l hh hl hhh
        have := optX_none hmx
        subst this
        split at he
        · rename_i xs hxs
          split at he
          · simp at he
          · rename_i hall
            obtain ⟨p, hp, rfl⟩ := Option.map_eq_some_iff.1 he
            exact go_slc h hd ho hx hlo hhi ht hj hl hhh (.inl ⟨xs, p, hxs, allLen (by simpa using hall), hp, rfl⟩)
        · rename_i k q m n hv
          split at he
          · rename_i hq
            split at he
            · rename_i f E s xs hrow
              split at he
              · rename_i hs
                subst hs
                obtain ⟨p, hp, rfl⟩ := Option.map_eq_some_iff.1 he
                exact go_slc h hd ho hx hlo hhi ht hj hl hhh (.inr (.inl ⟨_, _, _, _, _, _, _, p, hv, hq, hrow, hp, rfl⟩))
              · simp at he
            · simp at he
          · simp at he
        · rename_i hv
          obtain ⟨p, hp, rfl⟩ := Option.map_eq_some_iff.1 he
          exact go_slc h hd ho hx hlo hhi ht hj hl hhh (.inr (.inr ⟨p, hv, hp, rfl⟩))
        · simp at he
      · rename_i amx' l hh hl hhh
        split at he
        · rename_i xs hxs hm0
          simp only [Option.some.injEq] at he; subst he
          exact go_slc0 h hd ho hx hlo hhi hmx ht hj hl (.inr rfl) hhh hm0 (.inl ⟨_, hxs⟩)
        · rename_i hxs hm0
          simp only [Option.some.injEq] at he; subst he
          exact go_slc0 h hd ho hx hlo hhi hmx ht hj hl (.inr rfl) hhh hm0 (.inr (.inl ⟨_, _, _, _, hxs⟩))
        · rename_i hxs hm0
          simp only [Option.some.injEq] at he; subst he
          exact go_slc0 h hd ho hx hlo hhi hmx ht hj hl (.inr rfl) hhh hm0 (.inr (.inr hxs))
        · simp at he
      · simp at he
    · rename_i ax alo ahi ht hx hlo hhi hmx
      simp only [Option.some.injEq] at hc; subst hc
      have := optX_none hmx
      subst this
      simp only [det] at he
      split at he
      · rename_i l hh s hl hhh hs
        obtain ⟨p, hp, rfl⟩ := Option.map_eq_some_iff.1 he
        exact go_slt h hd ho hx hlo hhi ht hs hl hhh hp
      · simp at he
    · obtain ⟨j, hj, rfl⟩ := Option.map_eq_some_iff.1 hc
      simp [det] at he
    · simp at hc
  | fieldAddr s x f =>
    rw [ho] at hc
    simp only [compOp] at hc
    split at hc
    · rename_i fs ax hs hx
      obtain ⟨fd, hf, h1⟩ := bind_some' hc
      obtain ⟨i, hi, h2⟩ := bind_some' h1
      split at h2
      · rename_i hpos
        simp only [Option.some.injEq] at h2; subst h2
        simp only [det] at he
        split at he
        · rename_i cs hcs
          split at he
          · simp only [Option.some.injEq] at he; subst he
            exact go_fad h hd ho hx hs hf hi hpos (.inl ⟨cs, hcs, rfl⟩)
          · simp at he
        · rename_i k q j n hr
          simp only [Option.some.injEq] at he; subst he
          exact go_fad h hd ho hx hs hf hi hpos (.inr ⟨_, _, _, _, hr, rfl⟩)
        · simp at he
      · simp at h2
    · simp at hc
  | field s x f =>
    rw [ho] at hc
    simp only [compOp] at hc
    split at hc
    · rename_i fs ax hs hx
      obtain ⟨fd, hf, h1⟩ := bind_some' hc
      split at h1
      · rename_i i dd hi hdd
        split at h1
        · rename_i hsz
          simp only [Option.some.injEq] at h1; subst h1
          simp only [det] at he
          split at he
          · rename_i cs hcs
            obtain ⟨v, hv, rfl⟩ := ldv he
            exact go_fld h hd ho hx hs hf hi hdd (by simpa using hsz) hcs hv
          · simp at he
        · simp at h1
      · simp at h1
    · simp at hc
  | indexAddr t x y =>
    rw [ho] at hc
    simp only [compOp] at hc
    split at hc
    · rename_i el ax ay ht hx hy
      obtain ⟨j, hj, rfl⟩ := Option.map_eq_some_iff.1 hc
      simp only [det] at he
      split at he
      · rename_i xs i hxs hi
        split at he
        · rename_i k hk
          split at he
          · rename_i cs hcs
            split at he
            · rename_i hlen
              simp only [Option.some.injEq] at he; subst he
              exact go_iad h hd ho hx hy ht hj hi (.inl ⟨xs, k, cs, hxs, hk, hcs, hlen, rfl⟩)
            · simp at he
          · simp at he
        · simp at he
      · rename_i k q lo n i hv hi
        split at he
        · rename_i hq
          split at he
          · rename_i l E s xs hrow
            split at he
            · rename_i hs
              subst hs
              obtain ⟨m, hm', rfl⟩ := Option.map_eq_some_iff.1 he
              exact go_iad h hd ho hx hy ht hj hi (.inr ⟨_, _, _, _, _, _, _, m, hv, hq, hrow, hm', rfl⟩)
            · simp at he
          · simp at he
        · simp at he
      · simp at he
    · rename_i len el ax ay ht hx hy
      obtain ⟨j, hj, rfl⟩ := Option.map_eq_some_iff.1 hc
      simp only [det] at he
      split at he
      · rename_i cs i hcs hi
        split at he
        · rename_i k hk
          split at he
          · simp only [Option.some.injEq] at he; subst he
            exact go_iaa h hd ho hx hy ht hj hi hk (.inl ⟨cs, hcs, rfl⟩)
          · simp at he
        · simp at he
      · rename_i k q p off i hr hi
        obtain ⟨m, hm', rfl⟩ := Option.map_eq_some_iff.1 he
        exact go_iaa h hd ho hx hy ht hj hi hm' (.inr ⟨_, _, _, _, hr, rfl⟩)
      · simp at he
    · simp at hc
  | index t x y =>
    rw [ho] at hc
    simp only [compOp] at hc
    split at hc
    · rename_i ax ay ht hx hy
      simp only [Option.some.injEq] at hc; subst hc
      simp only [det] at he
      split at he
      · rename_i s i hs hi
        split at he
        · rename_i k hk
          obtain ⟨b, hb, rfl⟩ := Option.map_eq_some_iff.1 he
          exact go_ixs h hd ho hx hy ht hs hi hk hb
        · simp at he
      · simp at he
    · rename_i len el ax ay ht hx hy
      split at hc
      · rename_i j dd hj hdd
        split at hc
        · rename_i hsz
          simp only [Option.some.injEq] at hc; subst hc
          simp only [det] at he
          split at he
          · rename_i cs i hcs hi
            split at he
            · rename_i k hk
              obtain ⟨v, hv, rfl⟩ := ldv he
              exact go_ixa h hd ho hx hy ht hj hdd (by simpa using hsz) hcs hi hk hv
            · simp at he
          · simp at he
        · simp at hc
      · simp at hc
    · simp at hc
  | extract x i =>
    rw [ho] at hc
    simp only [compOp, Option.map_eq_some_iff] at hc
    obtain ⟨ax, hx, rfl⟩ := hc
    simp only [det] at he
    split at he
    · rename_i vs hvs
      obtain ⟨v, hv, rfl⟩ := Option.map_eq_some_iff.1 he
      exact go_ext h hd ho hx hvs hv
    · simp at he
  | call c =>
    rw [ho] at hc
    simp only [compOp] at hc
    obtain ⟨cal, args, tys⟩ := c
    unfold compCall at hc
    split at hc
    · rename_i b hb
      simp only at hb
      subst hb
      exact go_builtin h hd ho hc (fun x e => by subst e; simp [isMapOp] at hm) (fun x e => by subst e; simp [isMapOp] at hm) he
    · split at hc
      · split at hc
        · obtain ⟨l, hl, rfl⟩ := Option.map_eq_some_iff.1 hc
          simp [isMapOp] at hm
        · simp at hc
      · simp at hc
    · obtain ⟨l, hl, rfl⟩ := Option.map_eq_some_iff.1 hc
      simp [isMapOp] at hm
    · simp at hc
  | lookup t x k ok =>
    rw [ho] at hc
    simp only [compOp] at hc
    repeat' split at hc
    all_goals first | (simp only [Option.some.injEq] at hc; subst hc; simp [isMapOp] at hm; done) | simp at hc
  | mapUpdate t m k x =>
    rw [ho] at hc
    simp only [compOp] at hc
    repeat' split at hc
    all_goals first | (simp only [Option.some.injEq] at hc; subst hc; simp [isMapOp] at hm; done) | simp at hc
  | makeMap t r =>
    rw [ho] at hc
    cases r <;> simp only [compOp, Option.some.injEq] at hc
    · subst hc; simp [isMapOp] at hm
    · simp at hc
  | range t x =>
    rw [ho] at hc
    simp only [compOp] at hc
    split at hc
    · simp only [Option.some.injEq] at hc; subst hc; simp [isMapOp] at hm
    · simp at hc
  | next x b =>
    rw [ho] at hc
    cases b <;> simp only [compOp, Option.map_eq_some_iff] at hc
    · obtain ⟨ax, hx, rfl⟩ := hc; simp [isMapOp] at hm
    · simp at hc
  | entry x =>
    rw [ho] at hc
    simp only [compOp, Option.map_eq_some_iff] at hc
    obtain ⟨ax, hx, rfl⟩ := hc; simp [isMapOp] at hm
  | _ => rw [ho] at hc; simp [compOp] at hc

end
end Go.Proofs.Ytnpdeecoejabgaa
