/- THE ABSTRACT MACHINE, 12: append, slice literals, make, cap: what they leave. -/
import Derived.Test.YtnpdeecoejabgaaKK
import Derived.Laws.MakeOwn
set_option linter.unusedSimpArgs false
set_option linter.unusedVariables false
namespace Go.Proofs.Ytnpdeecoejabgaa
open Go Go.RowKit

section
variable {P : Program} {o : Oper} {cx : Ctx} {μ : Nat → Option Nat} {σ : ASt} {a : Act} {w : World}

/-- Old elements and new ones, in the cells that an append leaves. -/
theorem app_cells {R R' : AC → Value → Prop} (hR : ∀ c v, R c v → R' c v) {sz : Nat} {old new : List (List AC)} {cur cells : Array Value} {news : List Value} {n : Nat} (hold : RowRel R sz old cur) (hn : old.length = n)
    (hlen : ∀ x ∈ new, x.length = sz) (hnew : ∀ (i : Nat) (x : List AC), new[i]? = some x → ∀ (j : Nat) (c : AC), x[j]? = some c → ∃ u, news[i * sz + j]? = some u ∧ R c u)
    (h1 : ∀ p, p < n * sz → cells[p]? = cur[p]?) (h2 : ∀ p, p < news.length → cells[n * sz + p]? = news[p]?) : RowRel R' sz (old ++ new) cells := by
  refine ⟨fun x hx => ?_, fun i x hi j c hj => ?_⟩
  · rcases List.mem_append.1 hx with hx | hx
    · exact hold.1 x hx
    · exact hlen x hx
  · by_cases hio : i < old.length
    · rw [List.getElem?_append_left hio] at hi
      obtain ⟨y, hy1, hy2⟩ := hold.2 i x hi j c hj
      have hjl : j < sz := by rw [← hold.1 x (List.mem_of_getElem? hi)]; exact (List.getElem?_eq_some_iff.1 hj).1
      have : i * sz + j < n * sz := by
        have := Nat.mul_le_mul_right sz (show i + 1 ≤ n by omega)
        rw [Nat.add_mul] at this; omega
      exact ⟨y, by rw [h1 _ this]; exact hy1, hR _ _ hy2⟩
    · rw [List.getElem?_append_right (by omega)] at hi
      obtain ⟨y, hy1, hy2⟩ := hnew _ x hi j c hj
      have hlt := (List.getElem?_eq_some_iff.1 hy1).1
      refine ⟨y, ?_, hR _ _ hy2⟩
      rw [← hy1, ← h2 _ hlt]
      congr 1
      rw [Nat.sub_mul, hn]
      have : n * sz ≤ i * sz := Nat.mul_le_mul_right _ (by omega)
      omega

theorem go_app (h : Rel cx μ σ a w) (hd : ∀ d, o.dst = some d → d < cx.n) {t e : TypeId} {s x : Operand} {as ax : AX} {i : TI} (ho : o.op = .call { callee := .builtin .append, args := #[s, x], argTypes := #[t, t] }) (hs : toX s = some as) (hx : toX x = some ax)
    (ht : P.underlying t = some (.slice e)) (hi : tinfo P e = some i) (hpos : 0 < i.size) {xc : AC} (hxc : σ.ev ax = .one xc) {new : List (List AC)} (hnew : elemsOf σ i.size xc = some new)
    {d q n : Nat} {old : List (List AC)} (hcase : (σ.ev as = .one .nils ∧ q = σ.g d ∧ n = 0 ∧ old = []) ∨ ∃ xs, σ.ev as = .one (.view d q 0 n) ∧ q = σ.g d ∧ σ.o d = .row true e i.size xs ∧ n ≤ xs.length ∧ old = xs.take n)
    (hb : (n + new.length) * i.bytes ≤ 140737488355328) (h63 : n + new.length ≤ 9223372036854775807) :
    Goes P o cx σ a w (.one (.view d (q + 1) 0 (n + new.length)), [(d, q + 1, .row true e i.size (old ++ new))]) := by
  obtain ⟨j, dd, z, g1, g2, g3, g4, g5, g6, g7, g8, g9, g10, g11⟩ := tinfo_spec hi
  have hx1 := ev_toX h hx
  rw [hxc] at hx1
  obtain ⟨xa, cc, news, k1, k2, k3, k4, k5, k6⟩ := elems_rel h (rv_one hx1) hpos hnew
  have hs1 := ev_toX h hs
  have hq : q = σ.g d := by rcases hcase with ⟨_, hq, _⟩ | ⟨_, _, hq, _⟩ <;> exact hq
  have hold : old.length = n := by
    rcases hcase with ⟨_, _, rfl, rfl⟩ | ⟨xs, _, _, _, hle, rfl⟩
    · rfl
    · simp; omega
  -- what the first operand is
  have hsv : ∃ base cap cur, a.eval s = .slice base n cap ∧ ((n = 0 ∧ cap = 0) ∨ ∃ b, (liveO (σ.o d) = true ∧ μ d = some b) ∧ base = some ⟨b, 0, none⟩ ∧ w.heap[b]? = some (.cells cur e (0, 0)) ∧ cur.size = cap * i.size ∧ n ≤ cap ∧ cap ≤ 9223372036854775807) ∧
      RowRel (RCl cx μ σ w) i.size old cur := by
    rcases hcase with ⟨he, _, rfl, rfl⟩ | ⟨xs, he, _, hrow, hle, rfl⟩
    · rw [he] at hs1
      generalize a.eval s = u at hs1
      cases rv_one hs1 with
      | nils ad => exact ⟨ad, 0, #[], rfl, .inl ⟨rfl, rfl⟩, by simp, by simp⟩
    · rw [he] at hs1
      have ho2 := h.obj d
      unfold RelO at ho2
      rw [hrow] at ho2
      have hlv : liveO (σ.o d) = true := by rw [hrow]; rfl
      rcases view_at (rv_one hs1) hq hrow with ⟨hm, _, rfl, ad, hv⟩ | ⟨h0, _⟩ | ⟨b, cap, cur, h2, h3, h4, h5, h6⟩
      · exact ⟨ad, 0, #[], hv, .inl ⟨rfl, rfl⟩, by simp, by simp⟩
      · exact absurd rfl h0
      · rcases ho2 with ⟨hn, _⟩ | ⟨b', cur', cap', e1, e2, e3, e4, e5, e6, e7, e8, e9⟩
        · rw [hn] at h2; cases h2
        have hbb : b' = b := by rw [e1] at h2; exact Option.some.inj h2
        subst hbb
        have hcc : cur' = cur := by rw [e2] at h3; cases h3; rfl
        subst hcc
        have hcap : cap = cap' := by
          rw [e3, Nat.zero_add] at h4
          exact (Nat.eq_of_mul_eq_mul_right hpos h4).symm
        subst hcap
        rw [Nat.zero_mul] at h5
        refine ⟨_, cap, cur', h5, .inr ⟨b', ⟨hlv, e1⟩, rfl, e2, e3, h6, e5⟩, fun x hx => e7 x (List.mem_of_mem_take hx), fun p x hp j c hj => ?_⟩
        rw [List.getElem?_take] at hp
        split at hp
        · exact e8 p x hp j c hj
        · cases hp
  obtain ⟨base, cap, cur, hse, hsc, hrel⟩ := hsv
  have hrun := append_run (P := P) (w := w) (ty := o.type) ht g1 g3 (by rw [g9, g4]) (by omega) (fun b => liveO (σ.o d) = true ∧ μ d = some b) (n := n) (cap := cap) (base := base) (cur := cur) (by rw [g4]; exact hsc) (xa := xa) (m := new.length) (c := cc) (news := news) (by rw [g4]; exact k2) k3 k4 (by rw [g5]; exact hb) h63
  rw [g4] at hrun
  have toexec : ∀ {v w'}, (Builtin.append_ #[t, t] o.type #[.slice base n cap, .slice xa new.length cc]).run P w = .ok v w' → (execOp a.eval o).run P w = .ok (.value v) w' := fun {v w'} hr => by
    simp [execOp, ho, resolve, invoke, builtin, hse, k1, hr]
  rcases hrun with ⟨⟨hm0, hn0, hc0⟩, hr⟩ | ⟨b, cur', ⟨hlv, hmu⟩, hbase, hh, hsz, hroom, hcm, hr, hcs, hc1, hc2⟩ | ⟨cells, cap', w', hr, hw, hos, htp, hou, hcs, hle, hcm, hc1, hc2⟩
  · -- nothing
    have hnewnil : new = [] := List.eq_nil_of_length_eq_zero hm0
    have holdnil : old = [] := List.eq_nil_of_length_eq_zero (by omega)
    subst hnewnil; subst holdnil; subst hn0
    refine ⟨_, _, w, upd μ d none, toexec hr, .inl rfl, ?_⟩
    refine h.turn d (q + 1) _ none w (by omega) (fun e => by omega) (fun b hb _ => rfl) h.kept (Nat.le_refl _) (fun _ b hb => by cases hb) (fun _ _ => ?_) hd (fun _ => ?_)
    · unfold RelO
      rw [upd_same]
      exact .inl ⟨by rw [upd_same], rfl⟩
    · refine .one _ _ (.view (by rw [upd_same]; exact Nat.le_refl _) ⟨_, _, rfl⟩ fun _ => ?_) rfl
      unfold ViewAt
      rw [upd_same, upd_same]
      exact .inl ⟨rfl, rfl, by simp, _, rfl⟩
  · -- behind the end
    subst hbase
    have hbw := (h.lv d b hlv hmu).2
    have hother : ∀ p, p ≠ b → (w.setRow b cur').heap[p]? = w.heap[p]? := fun p hp => setRow_other w b p cur' hp
    have hself : (w.setRow b cur').heap[b]? = some (.cells cur' e (0, 0)) := setRow_heap w b cur cur' e (0, 0) hh
    have hsize : (w.setRow b cur').heap.size = w.heap.size := by simp [World.setRow]
    refine ⟨_, _, w.setRow b cur', upd μ d (some b), toexec hr, .inl rfl, ?_⟩
    refine h.turn d (q + 1) _ (some b) _ (by omega) (fun e => by omega) (fun p hp hne => hother p fun e => hne ⟨hlv, by rw [e]; exact hmu⟩)
      ⟨h.kept.os, h.kept.tape, h.kept.output, by have := h.kept.size; omega, fun p hp hne => (hother p fun e => ?_).trans (h.kept.block p hp hne)⟩ (by omega)
      (fun _ p hp => by cases hp; exact ⟨.inr ⟨hlv, hmu⟩, by omega⟩) (fun hc _ => ?_) hd (fun hc => ?_)
    · rcases (h.lv d b hlv hmu).1 with e1 | e1
      · omega
      · exact hne (by rw [e1, e])
    · unfold RelO
      rw [upd_same]
      have hrr := app_cells (R' := RelC (upd σ.g d (q + 1)) (upd σ.o d (.row true e i.size (old ++ new))) (upd μ d (some b)) (w.setRow b cur') (Xs cx.X0 (upd σ.o d (.row true e i.size (old ++ new))) (upd μ d (some b)))) (fun c v hcv => hc hcv) hrel hold k5 k6 hc1 hc2
      exact .inr ⟨b, cur', cap, by rw [upd_same], hself, by rw [hcs]; exact hsz, hpos, hcm, by rw [List.length_append, hold]; exact hroom, hrr.1, hrr.2, fun e => by cases e⟩
    · refine .one _ _ (.view (by rw [upd_same]; exact Nat.le_refl _) ⟨_, _, rfl⟩ fun _ => ?_) rfl
      unfold ViewAt
      rw [upd_same, upd_same]
      exact .inr (.inr ⟨b, cap, cur', rfl, hself, by rw [hcs, hsz, Nat.zero_add], by rw [Nat.zero_mul], hroom⟩)
  · -- a new row
    have hsize : w'.heap.size = w.heap.size + 1 := by rw [hw]; simp
    have hkeep : ∀ b, b < w.heap.size → w'.heap[b]? = w.heap[b]? := fun b hb => by rw [hw, Array.getElem?_push, if_neg (by omega)]
    have hself : w'.heap[w.heap.size]? = some (.cells cells e (0, 0)) := by rw [hw]; simp
    refine ⟨_, _, w', upd μ d (some w.heap.size), toexec hr, .inl rfl, ?_⟩
    refine h.turn d (q + 1) _ (some w.heap.size) _ (by omega) (fun e => by omega) (fun p hp _ => hkeep p hp) (h.kept.trans ⟨hos, htp, hou, by omega, fun p hp _ => hkeep p hp⟩) (by omega)
      (fun _ p hp => by cases hp; exact ⟨.inl (Nat.le_refl _), by omega⟩) (fun hc _ => ?_) hd (fun hc => ?_)
    · unfold RelO
      rw [upd_same]
      have hrr := app_cells (R' := RelC (upd σ.g d (q + 1)) (upd σ.o d (.row true e i.size (old ++ new))) (upd μ d (some w.heap.size)) w' (Xs cx.X0 (upd σ.o d (.row true e i.size (old ++ new))) (upd μ d (some w.heap.size)))) (fun c v hcv => hc hcv) hrel hold k5 k6 hc1 hc2
      exact .inr ⟨_, cells, cap', by rw [upd_same], hself, hcs, hpos, hcm, by rw [List.length_append, hold]; exact hle, hrr.1, hrr.2, fun e => by cases e⟩
    · refine .one _ _ (.view (by rw [upd_same]; exact Nat.le_refl _) ⟨_, _, rfl⟩ fun _ => ?_) rfl
      unfold ViewAt
      rw [upd_same, upd_same]
      exact .inr (.inr ⟨_, cap', cells, rfl, hself, by rw [hcs, Nat.zero_add], by rw [Nat.zero_mul], hle⟩)


theorem set_row {R : AC → Value → Prop} {sz : Nat} {xs : List (List AC)} {cells : Array Value} (h : RowRel R sz xs cells) {m : Nat} (hm : m < xs.length) (hsz : xs.length * sz ≤ cells.size) {cs : List AC} {us : Array Value} (hc : CellsRel R cs us) (hl : cs.length = sz) :
    RowRel R sz (xs.set m cs) (us.zipIdx.foldl (fun cs (p : Value × Nat) => cs.setIfInBounds (m * sz + p.2) p.1) cells) ∧ (us.zipIdx.foldl (fun cs (p : Value × Nat) => cs.setIfInBounds (m * sz + p.2) p.1) cells).size = cells.size := by
  have hus : us.size = sz := by rw [← hc.1, hl]
  have hmm : m * sz + sz ≤ cells.size := by
    have := Nat.mul_le_mul_right sz (show m + 1 ≤ xs.length from hm)
    rw [Nat.add_mul, Nat.one_mul] at this
    omega
  rw [← Array.foldl_toList, Array.toList_zipIdx]
  have hg := fun k => setAll_get us.toList (m * sz) 0 cells k (by simp [hus]; omega)
  refine ⟨⟨fun x hx => ?_, fun i x hi j c hj => ?_⟩, (hg 0).1⟩
  · rcases List.mem_or_eq_of_mem_set hx with hx | rfl
    · exact h.1 x hx
    · exact hl
  · rw [(hg _).2]
    simp only [Nat.add_zero, Array.length_toList, hus]
    by_cases e : i = m
    · subst e
      rw [List.getElem?_set_self hm] at hi
      cases hi
      have hjl : j < sz := by rw [← hl]; exact (List.getElem?_eq_some_iff.1 hj).1
      rw [if_pos (by omega)]
      have hju : j < us.size := by omega
      refine ⟨us[j], ?_, (hc.2 j c us[j] hj (by simp [hju])).1⟩
      rw [show i * sz + j - i * sz = j by omega]
      simp [hju]
    · rw [List.getElem?_set_ne (Ne.symm e)] at hi
      have hjl : j < sz := by rw [← h.1 x (List.mem_of_getElem? hi)]; exact (List.getElem?_eq_some_iff.1 hj).1
      rw [if_neg]
      · exact h.2 i x hi j c hj
      · rintro ⟨g1, g2⟩
        rcases Nat.lt_or_gt_of_ne e with hlt | hgt
        · have := Nat.mul_le_mul_right sz (show i + 1 ≤ m by omega)
          rw [Nat.add_mul] at this; omega
        · have := Nat.mul_le_mul_right sz (show m + 1 ≤ i by omega)
          rw [Nat.add_mul] at this; omega

theorem fill_rows {R : AC → Value → Prop} {sz : Nat} : ∀ (ps : List (Nat × Value)) (aps : List (Nat × AV)) (cells : Array Value) (xs r : List (List AC)), ps.length = aps.length →
    (∀ (j : Nat) (p : Nat × Value) (q : Nat × AV), ps[j]? = some p → aps[j]? = some q → p.1 = q.1 ∧ RepV R q.2 p.2) → RowRel R sz xs cells → xs.length * sz ≤ cells.size → setElems sz xs aps = some r →
    ∃ cells', Instr.fill (fun i => some (i * sz, sz)) cells ps = some cells' ∧ RowRel R sz r cells' ∧ cells'.size = cells.size ∧ r.length = xs.length
  | [], [], cells, xs, r, _, _, hc, _, hf => by simp only [setElems, Option.some.injEq] at hf; subst hf; exact ⟨cells, rfl, hc, rfl, rfl⟩
  | p :: ps, q :: aps, cells, xs, r, hl, hp, hc, hsz, hf => by
    obtain ⟨h1, h2⟩ := hp 0 p q rfl rfl
    obtain ⟨m, v⟩ := q
    obtain ⟨m', u⟩ := p
    simp only at h1 h2
    subst h1
    simp only [setElems] at hf
    split at hf
    · rename_i vs hvs
      split at hf
      · rename_i hcond
        have hv := cells_rel h2 hvs
        obtain ⟨g1, g2⟩ := set_row hc hcond.2 hsz hv hcond.1
        obtain ⟨cells', h3, h4, h5, h6⟩ := fill_rows ps aps _ _ r (by simpa using hl) (fun j p' q' hp' hq' => hp (j + 1) p' q' hp' hq') g1 (by simp only [List.length_set]; rw [g2]; exact hsz) hf
        refine ⟨cells', ?_, h4, by rw [h5, g2], by rw [h6]; simp⟩
        have e1 : u.cells.size = sz := by rw [← hv.1, hcond.1]
        have e0 : m' * sz + sz ≤ cells.size := by
          have := Nat.mul_le_mul_right sz (show m' + 1 ≤ xs.length from hcond.2)
          rw [Nat.add_mul, Nat.one_mul] at this; omega
        have e2 : ¬ (u.cells.size ≠ sz || decide (m' * sz + u.cells.size > cells.size)) = true := by
          simp [e1]; omega
        simp only [Instr.fill]
        rw [if_neg (by simpa using e2)]
        exact h3
      · simp at hf
    · simp at hf
  | [], _ :: _, _, _, _, hl, _, _, _, _ => by simp at hl
  | _ :: _, [], _, _, _, hl, _, _, _, _ => by simp at hl

/-- Zeros, as often as is asked. -/
theorem zeros_row {R : AC → Value → Prop} {zs : List AC} {z : Array Value} (h : CellsRel R zs z) {sz n : Nat} (hz : z.size = sz) (hpos : 0 < sz) :
    RowRel R sz (List.replicate n zs) ((Array.range (n * sz)).map (z[· % z.size]!)) := by
  have hzl : zs.length = sz := by rw [h.1, hz]
  refine ⟨fun x hx => by rw [(List.mem_replicate.1 hx).2]; exact hzl, fun i x hi j c hj => ?_⟩
  have hin : i < n := by simpa using (List.getElem?_eq_some_iff.1 hi).1
  have hx : x = zs := by
    have := List.mem_of_getElem? hi
    exact (List.mem_replicate.1 this).2
  subst hx
  have hjl : j < sz := by rw [← hzl]; exact (List.getElem?_eq_some_iff.1 hj).1
  have hlt : i * sz + j < n * sz := by
    have := Nat.mul_le_mul_right sz (show i + 1 ≤ n from hin)
    rw [Nat.add_mul] at this; omega
  have e2 : (i * sz + j) % z.size = j := by rw [hz, Nat.mul_comm, Nat.mul_add_mod, Nat.mod_eq_of_lt hjl]
  have hjz : j < z.size := by omega
  refine ⟨z[j], ?_, (h.2 j c z[j] hj (by simp [hjz])).1⟩
  simp [hlt, e2, hjz]

theorem go_bsl (h : Rel cx μ σ a w) (hd : ∀ d, o.dst = some d → d < cx.n) {t e d n : Nat} {ps : Array (Nat × Operand)} {i : TI} (ho : o.op = .buildSlice t n ps) (ht : P.underlying t = some (.slice e)) (hi : tinfo P e = some i) (hpos : 0 < i.size) (hsm : n * i.size ≤ 16777216)
    {l : List (Nat × AX)} (hl : ps.size = l.length) (hp : ∀ (j : Nat) (p : Nat × Operand) (q : Nat × AX), ps[j]? = some p → l[j]? = some q → p.1 = q.1 ∧ toX p.2 = some q.2)
    {xs : List (List AC)} (hf : setElems i.size (List.replicate n (i.zero.map kC)) (l.map fun p => (p.1, σ.ev p.2)) = some xs) :
    Goes P o cx σ a w (.one (.view d (σ.g d + 1) 0 n), [(d, σ.g d + 1, .row true e i.size xs)]) := by
  obtain ⟨j, dd, z, g1, g2, g3, g4, g5, g6, g7, g8, g9, g10, g11⟩ := tinfo_spec hi
  have hz := g11 (cx := cx) (μ := μ) (σ := σ) (w := w)
  have hzr := zeros_row (n := n) hz g9 hpos
  obtain ⟨cells, h1, h2, h3, h4⟩ := fill_rows (ps.toList.map fun p => (p.1, a.eval p.2)) (l.map fun p => (p.1, σ.ev p.2)) _ _ xs (by simp [hl]) (fun k p q hp' hq' => by
    rw [List.getElem?_map] at hp' hq'
    cases hpk : ps[k]? with
    | none => rw [show ps.toList[k]? = none by simpa using hpk] at hp'; cases hp'
    | some p0 =>
      cases hqk : l[k]? with
      | none => rw [hqk] at hq'; cases hq'
      | some q0 =>
        rw [show ps.toList[k]? = some p0 by simpa using hpk] at hp'
        rw [hqk] at hq'
        simp only [Option.map_some, Option.some.injEq] at hp' hq'
        subst hp'; subst hq'
        obtain ⟨e1, e2⟩ := hp k p0 q0 hpk hqk
        exact ⟨e1, ev_toX h e2⟩) hzr (by simp) hf
  have hsize : cells.size = n * i.size := by rw [h3]; simp
  have hnle : n ≤ 16777216 := Nat.le_trans (Nat.le_mul_of_pos_right n hpos) hsm
  refine go_new h hd (w' := w.alloc (.cells cells e)) (cells := cells) (cap := n) rfl rfl rfl rfl hsize hpos (by omega) (by rw [h4]; simp) h2 (u := .slice (some ⟨w.heap.size, 0, none⟩) n n) ?_ (.inr ⟨n, n, rfl, rfl, rfl, Nat.le_refl _⟩)
  have hns : ¬ (16777216 < n * i.size) := by omega
  have hzv : (zeroValue e).run P w = .ok z w := by simp [zeroValue, typeInfo, g1, g3]
  have hrest : Instr.fill (fun i_1 => some (i_1 * i.size, i.size)) (Array.map (fun x => z.cells[x % z.cells.size]!) (Array.range (n * i.size))) (ps.toList.map fun p => (p.1, a.eval p.2)) = some cells := h1
  have hA : Array.range 0 = #[] := Array.eq_empty_of_size_eq_zero (by simp)
  by_cases hn0 : n = 0
  · subst hn0
    have hr2 : Instr.fill (fun i_1 => some (i_1 * i.size, i.size)) #[] (ps.toList.map fun p => (p.1, a.eval p.2)) = some cells := by simpa [hA] using hrest
    simp [hA, execOp, ho, Instr.buildSlice, run_underlying ht, sizeOf, typeInfo, g1, g4, hr2, newRow]
  · have hne : ¬ (n = 0 ∨ i.size = 0) := by omega
    have hne2 : ¬ (n * i.size = 0) := Nat.mul_ne_zero hn0 (by omega)
    simp [execOp, ho, Instr.buildSlice, run_underlying ht, sizeOf, typeInfo, g1, g4, hns, hne, hne2, hzv, hrest, newRow]

theorem go_msl (h : Rel cx μ σ a w) (hd : ∀ d, o.dst = some d → d < cx.n) {t e d : Nat} {x y : Operand} {ax ay : AX} {i : TI} (ho : o.op = .makeSlice t x y) (hx : toX x = some ax) (hy : toX y = some ay) (ht : P.underlying t = some (.slice e)) (hi : tinfo P e = some i) (hpos : 0 < i.size)
    {n : Int} (hn : asI (σ.ev ax) = some n) (hc : asI (σ.ev ay) = some n) (h0 : 0 ≤ n) (hb : n * i.bytes ≤ 140737488355328) (h63 : n ≤ 9223372036854775807) :
    Goes P o cx σ a w (.one (.view d (σ.g d + 1) 0 n.toNat), [(d, σ.g d + 1, .row true e i.size (List.replicate n.toNat (i.zero.map kC)))]) := by
  obtain ⟨j, dd, z, g1, g2, g3, g4, g5, g6, g7, g8, g9, g10, g11⟩ := tinfo_spec hi
  have hz := g11 (cx := cx) (μ := μ) (σ := σ) (w := w)
  obtain ⟨m, rfl⟩ := Int.eq_ofNat_of_zero_le h0
  obtain ⟨k1, h1⟩ := ev_asI h hx hn
  obtain ⟨k2, h2⟩ := ev_asI h hy hc
  have hzr := zeros_row (n := m) hz g9 hpos
  rw [Int.toNat_natCast]
  refine go_new h hd (w' := w.alloc (.cells ((Array.range (m * i.size)).map (z.cells[· % z.cells.size]!)) e)) (cells := ((Array.range (m * i.size)).map (z.cells[· % z.cells.size]!))) (cap := m) rfl rfl rfl rfl (by simp) hpos (by omega) (by simp) hzr (u := .slice (some ⟨w.heap.size, 0, none⟩) m m) ?_ (.inr ⟨m, m, rfl, rfl, rfl, Nat.le_refl _⟩)
  have hzv : (zeroValue e).run P w = .ok z w := by simp [zeroValue, typeInfo, g1, g3]
  have hw : IntKind.i64.wrap (m : Int) = m := by simp only [IntKind.wrap, IntKind.bits, IntKind.signed]; simp; omega
  have hby : ¬ (281474976710656 < (i.bytes : Int) * (m : Int)) := by rw [Int.mul_comm]; omega
  have hneg : ¬ ((m : Int) < 0) := by omega
  have hA : Array.range 0 = #[] := Array.eq_empty_of_size_eq_zero (by simp)
  by_cases hm0 : m = 0
  · subst hm0
    have hw0 : IntKind.i64.wrap 0 = 0 := by decide
    simp [hA, hw0, execOp, ho, Instr.makeSlice, run_underlying ht, h1, h2, asInt, asIntOf, typeInfo, sizeOf, g1, g4, g5, hw, newRow]
  · have hne : ¬ (m = 0 ∨ i.size = 0) := by omega
    have hne2 : ¬ (m * i.size = 0) := Nat.mul_ne_zero hm0 (by omega)
    simp [execOp, ho, Instr.makeSlice, run_underlying ht, h1, h2, asInt, asIntOf, typeInfo, sizeOf, g1, g4, g5, hw, newRow, hby, hneg, hne, hne2, hzv]

end
end Go.Proofs.Ytnpdeecoejabgaa
