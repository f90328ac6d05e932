/- THE ABSTRACT MACHINE, 8: values built of parts, closures, comparisons of structs. -/
import Derived.Test.YtnpdeecoejabgaaKG
import Derived.Laws.Tables
set_option linter.unusedSimpArgs false
set_option linter.unusedVariables false
namespace Go.Proofs.Ytnpdeecoejabgaa
open Go Go.RowKit

section
variable {P : Program} {o : Oper} {cx : Ctx} {μ : Nat → Option Nat} {σ : ASt} {a : Act} {w : World}

/-- Cells stand to values, one by one. -/
def CellsRel (R : AC → Value → Prop) (cs : List AC) (vs : Array Value) : Prop :=
  cs.length = vs.size ∧ ∀ (j : Nat) (a : AC) (u : Value), cs[j]? = some a → vs[j]? = some u → R a u ∧ u.oneCell' = true

theorem cells_one {v : Value} (h : v.oneCell' = true) : v.cells = #[v] := by cases v <;> first | rfl | (simp [Value.oneCell'] at h)

theorem cells_rel {R : AC → Value → Prop} {x : AV} {v : Value} (h : RepV R x v) {cs : List AC} (hc : cellsOf x = some cs) : CellsRel R cs v.cells := by
  cases h with
  | any v => simp [cellsOf] at hc
  | one c v hr h1 =>
    simp only [cellsOf, Option.some.injEq] at hc
    subst hc
    rw [cells_one h1]
    refine ⟨rfl, fun j a u h2 h3 => ?_⟩
    cases j with
    | zero => simp at h2 h3; subst h2; subst h3; exact ⟨hr, h1⟩
    | succ j => simp at h2
  | agg as vs hl h => simp only [cellsOf, Option.some.injEq] at hc; subst hc; exact ⟨hl, h⟩
  | tup => simp [cellsOf] at hc

theorem setAll_get (l : List Value) (off : Nat) : ∀ (i : Nat) (cs : Array Value) (k : Nat), off + i + l.length ≤ cs.size →
    ((l.zipIdx i).foldl (fun cs (p : Value × Nat) => cs.setIfInBounds (off + p.2) p.1) cs).size = cs.size ∧
    ((l.zipIdx i).foldl (fun cs (p : Value × Nat) => cs.setIfInBounds (off + p.2) p.1) cs)[k]? = if off + i ≤ k ∧ k < off + i + l.length then l[k - (off + i)]? else cs[k]? := by
  induction l with
  | nil => intro i cs k h; simp; omega
  | cons v l ih =>
    intro i cs k h
    simp only [List.zipIdx_cons, List.foldl_cons, List.length_cons] at h ⊢
    obtain ⟨h1, h2⟩ := ih (i + 1) (cs.setIfInBounds (off + i) v) k (by simp; omega)
    refine ⟨by rw [h1]; simp, ?_⟩
    rw [h2]
    by_cases hk : k = off + i
    · subst hk
      have : off + i < cs.size := by omega
      simp [this]
      omega
    · by_cases hr : off + (i + 1) ≤ k ∧ k < off + (i + 1) + l.length
      · rw [if_pos hr, if_pos (by omega)]
        have : k - (off + i) = (k - (off + (i + 1))) + 1 := by omega
        rw [this, List.getElem?_cons_succ]
      · rw [if_neg hr, if_neg (by omega), Array.getElem?_setIfInBounds_ne (by omega)]

theorem splice_get {α : Type} (cs vs : List α) (off n : Nat) (hn : vs.length = n) (hl : off + n ≤ cs.length) (k : Nat) :
    (cs.take off ++ vs ++ cs.drop (off + n))[k]? = if off ≤ k ∧ k < off + n then vs[k - off]? else cs[k]? := by
  by_cases h1 : k < off
  · rw [if_neg (by omega), List.append_assoc, List.getElem?_append_left (by simp; omega), List.getElem?_take, if_pos h1]
  · by_cases h2 : k < off + n
    · rw [if_pos ⟨by omega, h2⟩, List.getElem?_append_left (by simp; omega), List.getElem?_append_right (by simp; omega)]
      simp
      congr 1
      omega
    · rw [if_neg (by omega), List.getElem?_append_right (by simp; omega), List.getElem?_drop]
      congr 1
      simp
      omega

theorem splice_rel {R : AC → Value → Prop} {cs vs : List AC} {cells us : Array Value} (hc : CellsRel R cs cells) (hv : CellsRel R vs us) {off n : Nat} (hn : vs.length = n) (hl : off + n ≤ cs.length) :
    CellsRel R (cs.take off ++ vs ++ cs.drop (off + n)) (us.zipIdx.foldl (fun cs (p : Value × Nat) => cs.setIfInBounds (off + p.2) p.1) cells) := by
  have hus : us.size = n := by rw [← hv.1, hn]
  have hsz : off + 0 + us.toList.length ≤ cells.size := by rw [← hc.1]; simp; omega
  rw [← Array.foldl_toList, Array.toList_zipIdx]
  have hg := fun k => setAll_get us.toList off 0 cells k hsz
  refine ⟨?_, fun k a u h1 h2 => ?_⟩
  · rw [(hg 0).1, ← hc.1]
    simp [List.length_take, List.length_drop]
    omega
  · rw [splice_get cs vs off n hn hl] at h1
    rw [(hg k).2] at h2
    simp only [Nat.add_zero, Array.length_toList, hus] at h2
    split at h1
    · rename_i hk
      rw [if_pos hk] at h2
      exact hv.2 _ _ _ h1 (by simpa using h2)
    · rename_i hk
      rw [if_neg hk] at h2
      exact hc.2 _ _ _ h1 h2

theorem fill_rel {R : AC → Value → Prop} {place : Nat → Option (Nat × Nat)} : ∀ (ps : List (Nat × Value)) (aps : List (Nat × Nat × AV)) (cells : Array Value) (cs r : List AC), ps.length = aps.length →
    (∀ (j : Nat) (p : Nat × Value) (q : Nat × Nat × AV), ps[j]? = some p → aps[j]? = some q → place p.1 = some (q.1, q.2.1) ∧ RepV R q.2.2 p.2) → CellsRel R cs cells → fillParts cs aps = some r →
    ∃ cells', Instr.fill place cells ps = some cells' ∧ CellsRel R r cells'
  | [], [], cells, cs, r, _, _, hc, hf => by simp only [fillParts, Option.some.injEq] at hf; subst hf; exact ⟨cells, rfl, hc⟩
  | p :: ps, q :: aps, cells, cs, r, hl, hp, hc, hf => by
    obtain ⟨h1, h2⟩ := hp 0 p q rfl rfl
    obtain ⟨off, n, v⟩ := q
    obtain ⟨i, u⟩ := p
    simp only at h1 h2
    simp only [fillParts] at hf
    split at hf
    · rename_i vs hvs
      split at hf
      · rename_i hcond
        have hv := cells_rel h2 hvs
        obtain ⟨cells', h3, h4⟩ := fill_rel ps aps _ _ r (by simpa using hl) (fun j p' q' hp' hq' => hp (j + 1) p' q' hp' hq') (splice_rel hc hv hcond.1 hcond.2) hf
        refine ⟨cells', ?_, h4⟩
        have e1 : u.cells.size = n := by rw [← hv.1, hcond.1]
        have e2 : ¬ (u.cells.size ≠ n || decide (off + u.cells.size > cells.size)) = true := by
          have := hc.1
          simp [e1]
          omega
        simp only [Instr.fill, h1]
        rw [if_neg (by simpa using e2)]
        exact h3
      · simp at hf
    · simp at hf
  | [], _ :: _, _, _, _, hl, _, _, _ => by simp at hl
  | _ :: _, [], _, _, _, hl, _, _, _ => by simp at hl

theorem tinfo_spec {e : Nat} {i : TI} (h : tinfo P e = some i) : ∃ (j : TypeInfo) (d : TypeDesc) (z : Value), P.info? e = some j ∧ P.underlying e = some d ∧ j.zero = some z ∧ j.size = i.size ∧ j.bytes = i.bytes ∧ i.agg = isAggB d ∧
    (isAggVal z = i.agg) ∧ i.zero.length = i.size ∧ z.cells.size = i.size ∧ (i.agg = false → i.size = 1) ∧ ∀ {cx : Ctx} {μ : Nat → Option Nat} {σ : ASt} {w : World}, CellsRel (RCl cx μ σ w) (i.zero.map kC) z.cells := by
  unfold tinfo at h
  split at h
  · rename_i j d hj hd
    split at h
    · rename_i z hz
      split at h
      · rename_i ks hks
        split at h
        · rename_i hc
          simp only [Option.some.injEq] at h
          subst h
          rw [Bool.and_eq_true] at hc
          have hlen : ks.length = j.size := by simpa using hc.1
          have hm := allSome_spec hks
          have hzl : z.cells.size = ks.length := by
            have := congrArg List.length hm
            simpa using this
          have hag : isAggVal z = isAggB d ∧ (isAggB d = false → j.size = 1) := by
            have h2 := hc.2
            cases z <;> simp_all [isAggVal, zOk]
          refine ⟨j, d, z, hj, hd, hz, rfl, rfl, rfl, hag.1, hlen, by rw [hzl, hlen], hag.2, ?_⟩
          intro cx μ σ w
          refine ⟨by simp [hzl], fun k a u h1 h2 => ?_⟩
          have h3 : (z.cells.toList.map toK)[k]? = (ks.map some)[k]? := by rw [hm]
          rw [List.getElem?_map, List.getElem?_map] at h3
          rw [List.getElem?_map] at h1
          have h2' : z.cells.toList[k]? = some u := by simpa using h2
          rw [h2'] at h3
          cases hk : ks[k]? with
          | none => rw [hk] at h1; cases h1
          | some q =>
            rw [hk] at h1 h3
            simp only [Option.map_some, Option.some.injEq] at h1 h3
            subst h1
            have := kC_toK (cx := cx) (μ := μ) (σ := σ) (w := w) h3
            exact ⟨this, this.one⟩
        · simp at h
      · simp at h
    · simp at h
  · simp at h

/-- A struct or an array, built of its parts. -/
theorem go_bld (h : Rel cx μ σ a w) (hd : ∀ d, o.dst = some d → d < cx.n) {t : TypeId} {ps : Array (Nat × Operand)} (ho : o.op = .build t ps) {i : TI} (hi : tinfo P t = some i) (place : Nat → Option (Nat × Nat))
    (hb : ∀ z j, P.info? t = some j → j.zero = some z → ∀ vs, P.built t vs = Instr.fill place z.cells vs) {l : List (Nat × Nat × AX)} (hl : ps.size = l.length)
    (hp : ∀ (j : Nat) (p : Nat × Operand) (q : Nat × Nat × AX), ps[j]? = some p → l[j]? = some q → place p.1 = some (q.1, q.2.1) ∧ toX p.2 = some q.2.2)
    {cs : List AC} (hf : fillParts (i.zero.map kC) (l.map fun p => (p.1, p.2.1, σ.ev p.2.2)) = some cs) : Goes P o cx σ a w (.agg cs, []) := by
  obtain ⟨j, d, z, h1, h2, h3, h4, h5, h6, h7, h8, h9, h10, h11⟩ := tinfo_spec hi
  obtain ⟨cells, h12, h13⟩ := fill_rel (R := RCl cx μ σ w) (place := place) (ps.toList.map fun p => (p.1, a.eval p.2)) (l.map fun p => (p.1, p.2.1, σ.ev p.2.2)) z.cells _ cs (by simp [hl]) (fun k p q hp' hq' => by
    rw [List.getElem?_map] at hp' hq'
    cases hpk : ps[k]? with
    | none => rw [show ps.toList[k]? = none by simpa using hpk] at hp'; cases hp'
    | some p0 =>
      cases hqk : l[k]? with
      | none => rw [hqk] at hq'; cases hq'
      | some q0 =>
        rw [show ps.toList[k]? = some p0 by simpa using hpk] at hp'
        rw [hqk] at hq'
        simp only [Option.map_some, Option.some.injEq] at hp' hq'
        subst hp'; subst hq'
        obtain ⟨e1, e2⟩ := hp k p0 q0 hpk hqk
        exact ⟨e1, ev_toX h e2⟩) h11 hf
  refine goes_val h hd (u := .agg cells) ?_ (.agg _ _ h13.1 h13.2)
  have hbb : P.built t (ps.map fun (i, x) => (i, a.eval x)).toList = some cells := by
    rw [hb z j h1 h3]
    simpa using h12
  simp [execOp, ho, run_build w t _ cells hbb]

end
end Go.Proofs.Ytnpdeecoejabgaa
