/- THE ABSTRACT MACHINE, 14b: maps. -/
import Derived.Test.YtnpdeecoejabgaaKN
import Derived.Maps.RangeRun
set_option linter.unusedSimpArgs false
set_option linter.unusedVariables false
namespace Go.Proofs.Ytnpdeecoejabgaa
open Go Go.RowKit

section
variable {P : Program} {o : Oper} {cx : Ctx} {μ : Nat → Option Nat} {σ : ASt} {a : Act} {w : World}

theorem rgetm {b : Nat} {me : Array MapEntry} {clock : Nat} (hh : w.heap[b]? = some (.map me clock)) : (getObj b).run P w = .ok (.map me clock) w := by simp [getObj, Sem.run, hh]
theorem rgeti {b : Nat} {m : Option Nat} {c n : Nat} {s : Array Nat} (hh : w.heap[b]? = some (.mapIter m c s n)) : (getObj b).run P w = .ok (.mapIter m c s n) w := by simp [getObj, Sem.run, hh]

theorem go_mkm (h : Rel cx μ σ a w) (hd : ∀ d, o.dst = some d → d < cx.n) {t : TypeId} {d : Nat} (ho : o.op = .makeMap t none) :
    Goes P o cx σ a w (.one (.mpr d (σ.g d + 1)), [(d, σ.g d + 1, .map true false false [])]) := by
  let w' := w.alloc (.map #[] 0)
  have hw : w'.heap = w.heap.push (.map #[] 0) := rfl
  have hsize : w'.heap.size = w.heap.size + 1 := by rw [hw]; simp
  have hold : ∀ b, b < w.heap.size → w'.heap[b]? = w.heap[b]? := fun b hb => by rw [hw, Array.getElem?_push, if_neg (by omega)]
  have hnew : w'.heap[w.heap.size]? = some (.map #[] 0) := by rw [hw]; simp
  have hrun : (execOp a.eval o).run P w = .ok (.value (.map (some w.heap.size))) w' := by
    simp [execOp, ho, Instr.makeMap, w']
  refine ⟨_, _, w', upd μ d (some w.heap.size), hrun, .inl rfl, ?_⟩
  refine h.turn d (σ.g d + 1) (.map true false false []) (some w.heap.size) w' (by omega) (fun e => by omega) (fun b hb _ => hold b hb) (h.kept.trans ⟨rfl, rfl, rfl, by omega, fun b hb _ => hold b hb⟩) (by omega)
    (fun _ b hb => by cases hb; exact ⟨.inl (Nat.le_refl _), by omega⟩) (fun hc _ => ?_) hd (fun hc => ?_)
  · unfold RelO
    rw [upd_same]
    exact ⟨w.heap.size, #[], 0, by rw [upd_same], hnew, ⟨rfl, by simp, by simp, by simp, by simp⟩, fun e => by cases e⟩
  · refine .one _ _ (.mpr (by rw [upd_same]; exact Nat.le_refl _) ⟨_, rfl⟩ fun _ => ?_) rfl
    unfold MprAt
    rw [upd_same, upd_same]
    exact ⟨_, rfl, rfl⟩

/-- A map's value, and what it holds. -/
theorem map_at (h : Rel cx μ σ a w) {x : AV} {v : Value} (hv : RV cx μ σ w x v) {ka va : Bool} {es : List (List C × List C)} (hm : mapOf σ x = some (ka, va, es)) :
    (v = .map none ∧ es = []) ∨ ∃ b me clock, v = .map (some b) ∧ w.heap[b]? = some (.map me clock) ∧ MapRel w (Xs cx.X0 σ.o μ) ka va es me clock := by
  unfold mapOf at hm
  split at hm
  · rename_i ka' va' es'
    simp only [Option.some.injEq, Prod.mk.injEq] at hm
    obtain ⟨rfl, rfl, rfl⟩ := hm
    cases rv_one hv with
    | d h1 =>
      cases h1 with
      | mp0 => exact .inl ⟨rfl, rfl⟩
      | mp _ _ _ b clock me f g hX hb hh hl hbo hdi hk hvv hrk hrv =>
        refine .inr ⟨b, me, clock, rfl, hh, hl, hbo, hdi, fun i e m he hm => ?_, fun i e m he hm => ?_⟩
        · obtain ⟨k1, k2, k3⟩ := hk i e m he hm
          refine ⟨k1, ?_, k3, fun j c u hj hu => ?_⟩
          · have := congrArg List.length k2; simpa using this
          · have h2 := congrArg (·[j]?) k2
            have hlt : j < e.1.length := (List.getElem?_eq_some_iff.1 hj).1
            simp only [Array.getElem?_toList, hu, List.getElem?_map, List.getElem?_range hlt, Option.map_some, Option.some.injEq] at h2
            rw [h2]
            exact hrk i e he j c hj
        · obtain ⟨k1, k2, k3⟩ := hvv i e m he hm
          refine ⟨k1, ?_, k3, fun j c u hj hu => ?_⟩
          · have := congrArg List.length k2; simpa using this
          · have h2 := congrArg (·[j]?) k2
            have hlt : j < e.2.length := (List.getElem?_eq_some_iff.1 hj).1
            simp only [Array.getElem?_toList, hu, List.getElem?_map, List.getElem?_range hlt, Option.map_some, Option.some.injEq] at h2
            rw [h2]
            exact hrv i e he j c hj
  · rename_i k q
    split at hm
    · rename_i hq
      split at hm
      · rename_i l ka' va' es' hrow
        simp only [Option.some.injEq, Prod.mk.injEq] at hm
        obtain ⟨rfl, rfl, rfl⟩ := hm
        cases rv_one hv with
        | mpr hg hp hat =>
          have h2 := hat hq
          unfold MprAt at h2
          rw [hrow] at h2
          obtain ⟨b, hb, rfl⟩ := h2
          have ho2 := h.obj k
          unfold RelO at ho2
          rw [hrow] at ho2
          obtain ⟨b', me, clock, g1, g2, g3, g4⟩ := ho2
          have hbb : b' = b := by rw [g1] at hb; exact Option.some.inj hb
          subst hbb
          exact .inr ⟨b', me, clock, rfl, g2, g3⟩
      · cases hm
    · cases hm
  · cases hm

theorem go_lenm (h : Rel cx μ σ a w) (hd : ∀ d, o.dst = some d → d < cx.n) {x : Operand} {ax : AX} {t k e : TypeId} (ho : o.op = .call { callee := .builtin .len, args := #[x], argTypes := #[t] }) (ht : P.underlying t = some (.map k e)) (hx : toX x = some ax)
    {ka va : Bool} {es : List (List C × List C)} (hm : mapOf σ (σ.ev ax) = some (ka, va, es)) : Goes P o cx σ a w (.one (.d (.int .i64 es.length)), []) := by
  have h1 := ev_toX h hx
  rcases map_at h h1 hm with ⟨hv, rfl⟩ | ⟨b, me, clock, hv, hh, hr⟩
  · exact goes_val h hd (by simp [execOp, ho, resolve, invoke, builtin, hv, Builtin.len_, run_underlying ht, goInt]) rint
  · refine goes_val h hd (u := .int .i64 me.size) (by simp [execOp, ho, resolve, invoke, builtin, hv, Builtin.len_, run_underlying ht, goInt, rgetm hh]) (by rw [hr.len]; exact rint)

theorem go_rng (h : Rel cx μ σ a w) (hd : ∀ d, o.dst = some d → d < cx.n) {x : Operand} {ax : AX} {t k e : TypeId} (ho : o.op = .range t x) (ht : P.underlying t = some (.map k e)) (hx : toX x = some ax) {ka va : Bool} {es : List (List C × List C)} (hm : σ.ev ax = .one (.d (.mp ka va es))) {d : Nat} :
    Goes P o cx σ a w (.one (.itr d (σ.g d + 1)), [(d, σ.g d + 1, .iter ka va es none)]) := by
  have h1 := ev_toX h hx
  rw [hm] at h1
  have go : ∀ (it : Obj), (execOp a.eval o).run P w = .ok (.value (.pointer (some ⟨w.heap.size, 0, none⟩))) (w.alloc it) →
      (∀ g' o' μ' w' X', μ' d = some w.heap.size → o' d = .iter ka va es none → w'.heap[w.heap.size]? = some it → (∀ b, b < w.heap.size → ¬ Xs cx.X0 σ.o μ b → w'.heap[b]? = w.heap[b]? ∧ ¬ X' b) → RelO g' o' μ' w' X' d) →
      Goes P o cx σ a w (.one (.itr d (σ.g d + 1)), [(d, σ.g d + 1, .iter ka va es none)]) := by
    intro it hrun hobj
    let w' := w.alloc it
    have hw : w'.heap = w.heap.push it := rfl
    have hsize : w'.heap.size = w.heap.size + 1 := by rw [hw]; simp
    have hold : ∀ b, b < w.heap.size → w'.heap[b]? = w.heap[b]? := fun b hb => by rw [hw, Array.getElem?_push, if_neg (by omega)]
    have hnew : w'.heap[w.heap.size]? = some it := by rw [hw]; simp
    refine ⟨_, _, w', upd μ d (some w.heap.size), hrun, .inl rfl, ?_⟩
    refine h.turn d (σ.g d + 1) (.iter ka va es none) (some w.heap.size) w' (by omega) (fun e => by omega) (fun b hb _ => hold b hb) (h.kept.trans ⟨rfl, rfl, rfl, by omega, fun b hb _ => hold b hb⟩) (by omega)
      (fun _ b hb => by cases hb; exact ⟨.inl (Nat.le_refl _), by omega⟩) (fun hc hpast => hobj _ _ _ _ _ (by rw [upd_same]) (by rw [upd_same]) hnew hpast) hd (fun hc => ?_)
    refine .one _ _ (.itr (by rw [upd_same]; exact Nat.le_refl _) ⟨_, rfl⟩ fun _ => ?_) rfl
    unfold ItrAt
    rw [upd_same, upd_same]
    exact ⟨_, rfl, rfl⟩
  have hmap := map_at h (x := .one (.d (.mp ka va es))) h1 rfl
  generalize hz : a.eval x = z at h1 hmap
  cases rv_one h1 with
  | d h2 =>
    cases h2 with
    | mp0 =>
      refine go (.mapIter none 0 #[] 0) ?_ ?_
      · simp [execOp, ho, Instr.range, hz, run_underlying ht]
      · intro g' o' μ' w' X' e1 e2 e3 _
        unfold RelO
        rw [e2]
        exact .inl ⟨_, e1, e3, rfl, rfl⟩
    | mp _ _ _ m clock me f g hX hb hh =>
      refine go (.mapIter (some m) clock #[] clock) ?_ ?_
      · simp [execOp, ho, Instr.range, hz, run_underlying ht, rgetm hh]
      · intro g' o' μ' w' X' e1 e2 e3 hp
        rcases hmap with ⟨hv, _⟩ | ⟨b', me', clock', hv, hh', hr⟩
        · cases hv
        · cases hv
          rw [hh] at hh'
          cases hh'
          obtain ⟨p1, p2⟩ := hp m hb hX
          unfold RelO
          rw [e2]
          refine .inr ⟨_, m, #[], clock, me, clock, es, List.range es.length, e1, e3, p2, by rw [p1]; exact hh, hr.mono (fun b hb hx => (hp b hb hx).1) (fun b hb hx => (hp b hb hx).2), rfl, ?_, List.nodup_range, fun i => ?_, by simp⟩
          · apply List.ext_getElem?
            intro i
            have : ∀ (l : List (List C × List C)), (List.range l.length).filterMap (l[·]?) = l := fun l => by
              induction l with
              | nil => rfl
              | cons x l ih =>
                rw [List.length_cons, List.range_succ_eq_map, List.filterMap_cons]
                simp only [List.getElem?_cons_zero, List.filterMap_map]
                congr 1
            rw [this]
          · rw [List.mem_range, hr.len]
            constructor
            · intro hi; exact ⟨me[i], by simp [hi], by simp⟩
            · rintro ⟨e, he, _⟩; exact (Array.getElem?_eq_some_iff.1 he).1

theorem toVal_rel {R : AC → Value → Prop} {agg : Bool} {cs : List AC} {u : Value} {v : AV} (hv : toVal agg cs = some v) (hu : isAggVal u = agg) (hl : u.cells.size = cs.length) (hc : ∀ (j : Nat) (c : AC) (x : Value), cs[j]? = some c → u.cells[j]? = some x → R c x ∧ x.oneCell' = true) : RepV R v u := by
  unfold toVal at hv
  split at hv
  · cases hv
    cases u with
    | agg vs => exact .agg _ _ hl.symm hc
    | _ => simp [isAggVal] at hu
  · cases hv
    cases u with
    | agg vs => simp [isAggVal] at hu
    | _ =>
      obtain ⟨h1, h2⟩ := hc 0 _ _ rfl rfl
      exact .one _ _ h1 h2
  · cases hv

theorem go_ent (h : Rel cx μ σ a w) (hd : ∀ d, o.dst = some d → d < cx.n) {x : Operand} {ax : AX} (ho : o.op = .entry x) (hx : toX x = some ax) {k q : Nat} (hev : σ.ev ax = .one (.itr k q)) (hq : q = σ.g k) {ka va : Bool} {left : List (List C × List C)} {e : List C × List C} (hit : σ.o k = .iter ka va left (some e))
    {kv vv : AV} (hk : toVal ka (dm e.1) = some kv) (hv : toVal va (dm e.2) = some vv) : Goes P o cx σ a w (.tup [kv, vv], []) := by
  have h1 := ev_toX h hx
  rw [hev] at h1
  generalize hz : a.eval x = z at h1
  cases rv_one h1 with
  | itr hg hp hat =>
    have h2 := hat hq
    unfold ItrAt at h2
    rw [hit] at h2
    obtain ⟨b, hb, rfl⟩ := h2
    have ho2 := h.obj k
    unfold RelO at ho2
    rw [hit] at ho2
    rcases ho2 with ⟨_, _, _, _, hc⟩ | ⟨b', m, seen, stepped, me, clock, es, ls, g1, g2, g3, g4, g5, g6, g7, g8, g9, g10⟩
    · cases hc
    have hbb : b' = b := by rw [g1] at hb; exact Option.some.inj hb
    subst hbb
    subst g6
    obtain ⟨i, mm, k1, k2, k3⟩ := g10 e rfl
    have hfind : me.find? (fun x => x.born == mm.born) = some mm := by
      cases hf : me.find? (fun x => x.born == mm.born) with
      | none =>
        have := Array.find?_eq_none.1 hf mm (Array.mem_of_getElem? k2)
        simp at this
      | some y =>
        have hy1 := Array.find?_some hf
        have hy2 := Array.mem_of_find?_eq_some hf
        obtain ⟨i', hi', hy3⟩ := Array.mem_iff_getElem.1 hy2
        have hyi : me[i']? = some y := by rw [Array.getElem?_eq_getElem hi', hy3]
        have := g5.dist i' i y mm hyi k2 (by simpa using hy1)
        subst this
        rw [hyi] at k2
        exact k2
    refine goes_val h hd (u := .tuple #[mm.key, mm.val]) ?_ ?_
    · simp [execOp, ho, Instr.entry, hz, rgeti g2, rgetm g4, k3, hfind]
    · obtain ⟨m1, m2, m3, m4⟩ := g5.key i e mm k1 k2
      obtain ⟨n1, n2, n3, n4⟩ := g5.val i e mm k1 k2
      have rk : RV cx μ σ w kv mm.key := toVal_rel hk m1 (by simpa using m2) fun j c x hj hxx => by
        rw [List.getElem?_map] at hj
        cases hcj : e.1[j]? with
        | none => rw [hcj] at hj; cases hj
        | some c0 => rw [hcj] at hj; cases hj; have := m4 j c0 x hcj hxx; exact ⟨.d this, this.one⟩
      have rv : RV cx μ σ w vv mm.val := toVal_rel hv n1 (by simpa using n2) fun j c x hj hxx => by
        rw [List.getElem?_map] at hj
        cases hcj : e.2[j]? with
        | none => rw [hcj] at hj; cases hj
        | some c0 => rw [hcj] at hj; cases hj; have := n4 j c0 x hcj hxx; exact ⟨.d this, this.one⟩
      refine .tup _ _ rfl fun j a' v' h1' h2' => ?_
      match j with
      | 0 => simp at h1' h2'; subst h1'; subst h2'; exact rk
      | 1 => simp at h1' h2'; subst h1'; subst h2'; exact rv
      | j + 2 => simp at h1'

theorem go_nxt (h : Rel cx μ σ a w) (hd : ∀ d, o.dst = some d → d < cx.n) {x : Operand} {ax : AX} (ho : o.op = .next x false) (hx : toX x = some ax) {k q : Nat} (hev : σ.ev ax = .one (.itr k q)) (hq : q = σ.g k) {ka va : Bool} {left : List (List C × List C)} {cur : Option (List C × List C)} (hit : σ.o k = .iter ka va left cur) :
    (left = [] ∧ Goes P o cx σ a w (.tup [.one (.d (.bool false))], [])) ∨ ∃ i e, left[i]? = some e ∧ Goes P o cx σ a w (.tup [.one (.d (.bool true)), .any, .any], [(k, q, .iter ka va (left.eraseIdx i) (some e))]) := by
  have h1 := ev_toX h hx
  rw [hev] at h1
  generalize hz : a.eval x = z at h1
  have hfalse : RV cx μ σ w (.tup [.one (.d (.bool false))]) (.tuple #[.bool false]) := .tup _ _ rfl fun j a' v' h1' h2' => by
    match j with
    | 0 => simp at h1' h2'; subst h1'; subst h2'; exact rbool
    | j + 1 => simp at h1'
  cases rv_one h1 with
  | itr hg hp hat =>
    have h2 := hat hq
    unfold ItrAt at h2
    rw [hit] at h2
    obtain ⟨b, hb, rfl⟩ := h2
    have ho2 := h.obj k
    unfold RelO at ho2
    rw [hit] at ho2
    rcases ho2 with ⟨b', g1, g2, rfl, _⟩ | ⟨b', m, seen, stepped, me, clock, es, ls, g1, g2, g3, g4, g5, g6, g7, g8, g9, g10⟩
    · have hbb : b' = b := by rw [g1] at hb; exact Option.some.inj hb
      subst hbb
      exact .inl ⟨rfl, goes_val h hd (by simp [execOp, ho, Instr.next, hz, rgeti g2]) hfalse⟩
    have hbb : b' = b := by rw [g1] at hb; exact Option.some.inj hb
    subst hbb
    subst g6
    have hborn : ∀ x ∈ me.toList, x.born < stepped := fun x hx => by
      obtain ⟨i, hi⟩ := List.getElem?_of_mem hx
      exact g5.born i x (by simpa using hi)
    have hlive : liveO (σ.o k) = true := by rw [hit]; rfl
    rcases run_next_at (P := P) w o.type b' m stepped stepped seen me stepped g2 g4 hborn (Nat.le_refl _) with ⟨hn, hrun⟩ | ⟨e0, he0, w1, hw1, hrun⟩
    · left
      have hls : ls = [] := by
        cases ls with
        | nil => rfl
        | cons i ls =>
          obtain ⟨e, he, hs⟩ := (g9 i).1 (by simp)
          have : e ∈ leftOf me seen := by
            unfold leftOf
            rw [Array.mem_filter]
            exact ⟨Array.mem_of_getElem? he, by simpa using hs⟩
          have := Array.size_pos_of_mem this
          omega
      subst hls
      refine ⟨by rw [g7]; rfl, goes_val h hd (u := .tuple #[.bool false]) ?_ hfalse⟩
      simp [execOp, ho, hz, hrun]
    · right
      have he1 : e0 ∈ me ∧ seen.contains e0.born = false := by
        have := Array.mem_toList_iff.1 he0
        unfold leftOf at this
        rw [Array.mem_filter] at this
        exact ⟨this.1, by simpa using this.2⟩
      obtain ⟨j, hj, hje⟩ := Array.mem_iff_getElem.1 he1.1
      have hme : me[j]? = some e0 := by rw [Array.getElem?_eq_getElem hj, hje]
      have hjl : j ∈ ls := (g9 j).2 ⟨e0, hme, he1.2⟩
      obtain ⟨i, hi⟩ := List.getElem?_of_mem hjl
      have hlt : ∀ x ∈ ls, x < es.length := fun x hx => by
        obtain ⟨e, he, _⟩ := (g9 x).1 hx
        rw [g5.len]; exact (Array.getElem?_eq_some_iff.1 he).1
      have hleft : ∀ (l : List Nat), (∀ x ∈ l, x < es.length) → l.filterMap (es[·]?) = l.map (es.getD · default) := fun l => by
        induction l with
        | nil => intro _; rfl
        | cons x l ih =>
          intro hh
          have hx := hh x (by simp)
          rw [List.filterMap_cons, List.map_cons, ih fun y hy => hh y (by simp [hy])]
          simp [hx]
      have hjes : j < es.length := hlt j hjl
      refine ⟨i, es[j], ?_, ?_⟩
      · rw [g7, hleft ls hlt, List.getElem?_map, hi]
        simp [hjes]
      let w' := Go.ChangeMaps.setBlock w1 b' (.mapIter (some m) stepped (seen.push e0.born) stepped)
      have hw1h : w1.heap = w.heap ∧ w1.os = w.os ∧ w1.tape = w.tape ∧ w1.output = w.output := by rcases hw1 with rfl | rfl <;> exact ⟨rfl, rfl, rfl, rfl⟩
      have hblt := (Array.getElem?_eq_some_iff.1 g2).1
      have hsize : w'.heap.size = w.heap.size := by simp [w', Go.ChangeMaps.setBlock, hw1h.1]
      have hoth : ∀ c, c ≠ b' → w'.heap[c]? = w.heap[c]? := fun c hc => by simp only [w', Go.ChangeMaps.setBlock, hw1h.1]; exact Array.getElem?_setIfInBounds_ne (Ne.symm hc)
      have hself : w'.heap[b']? = some (.mapIter (some m) stepped (seen.push e0.born) stepped) := by simp only [w', Go.ChangeMaps.setBlock, hw1h.1]; exact Array.getElem?_setIfInBounds_self_of_lt hblt
      refine ⟨_, .tuple #[.bool true, e0.key, e0.val], w', upd μ k (some b'), ?_, .inl rfl, ?_⟩
      · simp [execOp, ho, hz, hrun, w']
      subst hq
      refine h.turn k (σ.g k) (.iter ka va (left.eraseIdx i) (some es[j])) (some b') w' (Nat.le_refl _) (fun _ => ?_) (fun c hc hne => hoth c fun e => hne ⟨hlive, by rw [g1, e]⟩)
        ⟨hw1h.2.1.trans h.kept.os, hw1h.2.2.1.trans h.kept.tape, hw1h.2.2.2.trans h.kept.output, by have := h.kept.size; omega, fun c hc hne => (hoth c fun e => ?_).trans (h.kept.block c hc hne)⟩ (by omega)
        (fun _ c hc => by cases hc; exact ⟨.inr ⟨hlive, g1⟩, by omega⟩) (fun hcell hpast => ?_) hd (fun hcell => ?_)
      · rw [hit]
        refine ⟨fun _ _ _ hh => trivial, fun _ _ _ hh => trivial, fun _ hh => trivial, fun v hh => ?_⟩
        unfold ItrAt at hh ⊢
        rw [g1] at hh
        exact hh
      · rcases (h.lv k b' hlive g1).1 with e1 | e1
        · omega
        · exact hne (by rw [e1, e])
      · unfold RelO
        rw [upd_same]
        have hmlt := (Array.getElem?_eq_some_iff.1 g4).1
        obtain ⟨p1, p2⟩ := hpast m hmlt g3
        refine .inr ⟨b', m, seen.push e0.born, stepped, me, stepped, es, ls.eraseIdx i, by rw [upd_same], hself, p2, by rw [p1]; exact g4, g5.mono (fun c hc hx => (hpast c hc hx).1) (fun c hc hx => (hpast c hc hx).2), rfl, ?_, g8.eraseIdx i, fun x => ?_, fun e he => ?_⟩
        · rw [g7, hleft ls hlt, hleft _ fun x hx => hlt x (List.mem_of_mem_eraseIdx hx)]
          exact (Go.ChangeMaps.map_eraseIdx _ _ _).symm
        · have hme' : x ∈ ls.eraseIdx i ↔ x ∈ ls ∧ x ≠ j := by
            have hil : i < ls.length := (List.getElem?_eq_some_iff.1 hi).1
            have hij : ls[i] = j := (List.getElem?_eq_some_iff.1 hi).2
            rw [List.mem_eraseIdx_iff_getElem]
            constructor
            · rintro ⟨y, hy, hyi, rfl⟩
              refine ⟨List.getElem_mem hy, fun e => hyi ?_⟩
              exact (List.getElem_inj g8).1 (e.trans hij.symm)
            · rintro ⟨hx, hxj⟩
              obtain ⟨y, hy, rfl⟩ := List.mem_iff_getElem.1 hx
              exact ⟨y, hy, fun e => hxj (by subst e; exact hij), rfl⟩
          rw [hme', g9]
          constructor
          · rintro ⟨⟨e, he, hs⟩, hne⟩
            refine ⟨e, he, ?_⟩
            have hne' : e.born ≠ e0.born := fun hb => hne (g5.dist x j e e0 he hme hb)
            simp only [Array.contains_push, hs, Bool.false_or] at *
            simpa using hne'
          · rintro ⟨e, he, hs⟩
            rw [Array.contains_push] at hs
            simp only [Bool.or_eq_false_iff] at hs
            refine ⟨⟨e, he, hs.1⟩, fun hxj => ?_⟩
            subst hxj
            rw [hme] at he
            cases he
            simp at hs
        · cases he
          refine ⟨j, e0, by simp [hjes], hme, by simp⟩
      · refine .tup _ _ rfl fun y a' v' h1' h2' => ?_
        match y with
        | 0 => simp at h1' h2'; subst h1'; subst h2'; exact .one _ _ (.d (.bool _)) rfl
        | 1 => simp at h1'; subst h1'; exact .any _
        | 2 => simp at h1'; subst h1'; exact .any _
        | y + 3 => simp at h1'

end
end Go.Proofs.Ytnpdeecoejabgaa
